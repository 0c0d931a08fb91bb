/- The walks of the order of floats. Printed by a program of mine (walk.py). -/
import Derived.Test.YtbfiaoemoookcaaDoorGa
import Derived.Test.YtbfiaoemoookcaaDoorSymInt
import Derived.Test.YtbfiaoemoookcaaDoorChecked
namespace Go.Proofs.YtbfiaoemoookcaaDoor
open Go Go.Sym

theorem ext35 : ExtOk Tryd.prog 35 Tryd.f35 Go.Extern.MathFloatBits.float64bits := ⟨Tryd.func35, by kernel_rfl, by kernel_rfl, by kernel_rfl, by kernel_rfl⟩
theorem ext36 : ExtOk Tryd.prog 36 Tryd.f36 Go.Extern.MathFloatBits.float64frombits := ⟨Tryd.func36, by kernel_rfl, by kernel_rfl, by kernel_rfl, by kernel_rfl⟩
theorem run_bits {P : Program} {w : World} (x : BitVec 64) : (Go.Extern.MathFloatBits.float64bits [F x].toArray).run P w = .ok (U x) w := rfl
theorem run_from {P : Program} {w : World} (x : BitVec 64) : (Go.Extern.MathFloatBits.float64frombits [U x].toArray).run P w = .ok (F x) w := rfl



set_option maxRecDepth 100000 in
theorem isnan_ok (x : BitVec 64) (w0 : World) : Pure Tryd.prog 24 #[F x] w0 (.bool (nanB x)) := by
  refine ⟨by kernel_rfl, ?_⟩
  refine calls_sym Tryd.func24 rfl (by kernel_rfl) ?_
  intro a hS
  have hM : Mem w0 w0 [] := Mem.refl w0
  refine c_seq ?_
  refine c_region ?_
  refine s_val hS (by decide) rfl rfl (r_assign hS rfl) ?_; clear hS; intro a hS
  refine s_nil ?_
  refine k_seq ?_
  refine c_seq ?_
  refine c_region ?_
  refine s_val hS (by decide) rfl rfl (r_move hS rfl) ?_; clear hS; intro a hS
  refine s_val hS (by decide) rfl rfl (r_move hS rfl) ?_; clear hS; intro a hS
  refine s_val hS (by decide) rfl rfl (r_bv hS rfl rfl gF (b_neqF _ _ _)) ?_; clear hS; intro a hS
  refine s_val hS (by decide) rfl rfl (r_assign hS rfl) ?_; clear hS; intro a hS
  refine s_nil ?_
  refine k_seq ?_
  refine c_ret ?_
  exact k_res1 hS rfl (RV.tmp rfl) ⟨(congrArg (fun q => Ending.returned (.bool q)) (fo_self x)), hM.done trivial⟩

theorem isnan_at {x : BitVec 64} {b : Bool} (h : nanB x = b) (w0 : World) : Pure Tryd.prog 24 #[F x] w0 (.bool b) := by rw [← h]; exact isnan_ok x w0


set_option maxRecDepth 100000 in
theorem abs_ok (x : BitVec 64) (w0 : World) : Pure Tryd.prog 28 #[F x] w0 (F (x &&& ~~~9223372036854775808#64)) := by
  refine ⟨by kernel_rfl, ?_⟩
  refine calls_sym Tryd.func28 rfl (by kernel_rfl) ?_
  intro a hS
  have hM : Mem w0 w0 [] := Mem.refl w0
  refine c_seq ?_
  refine c_region ?_
  refine s_val hS (by decide) rfl rfl (r_assign hS (show ev _ _ = some (F 0#64) from rfl)) ?_; clear hS; intro a hS
  refine s_nil ?_
  refine k_seq ?_
  refine c_seq ?_
  refine c_region ?_
  refine s_val hS (by decide) rfl rfl (r_move hS rfl) ?_; clear hS; intro a hS
  refine s_val hS (by decide) rfl rfl (r_ext ext35 hS rfl (run_bits _)) ?_; clear hS; intro a hS
  refine s_val hS (by decide) rfl rfl (r_bv hS rfl (show ev _ _ = some (U 9223372036854775808#64) from rfl) gU (b_andNotU _ _ _)) ?_; clear hS; intro a hS
  refine s_val hS (by decide) rfl rfl (r_ext ext36 hS rfl (run_from _)) ?_; clear hS; intro a hS
  refine s_val hS (by decide) rfl rfl (r_assign hS rfl) ?_; clear hS; intro a hS
  refine s_nil ?_
  refine k_seq ?_
  refine c_ret ?_
  exact k_res1 hS rfl (RV.tmp rfl) ⟨rfl, hM.done trivial⟩

set_option maxRecDepth 100000 in
theorem signbit_ok (x : BitVec 64) (w0 : World) : Pure Tryd.prog 27 #[F x] w0 (.bool (sgn x)) := by
  refine ⟨by kernel_rfl, ?_⟩
  refine calls_sym Tryd.func27 rfl (by kernel_rfl) ?_
  intro a hS
  have hM : Mem w0 w0 [] := Mem.refl w0
  refine c_seq ?_
  refine c_region ?_
  refine s_val hS (by decide) rfl rfl (r_assign hS rfl) ?_; clear hS; intro a hS
  refine s_nil ?_
  refine k_seq ?_
  refine c_seq ?_
  refine c_region ?_
  refine s_val hS (by decide) rfl rfl (r_move hS rfl) ?_; clear hS; intro a hS
  refine s_val hS (by decide) rfl rfl (r_ext ext35 hS rfl (run_bits _)) ?_; clear hS; intro a hS
  refine s_val hS (by decide) rfl rfl (r_conv hS rfl (by kernel_rfl) Tryd.underlying2 (cv_UI _)) ?_; clear hS; intro a hS
  refine s_val hS (by decide) rfl rfl (r_bv hS rfl (show ev _ _ = some (I 0#64) from rfl) gI (b_lssI _ _ _)) ?_; clear hS; intro a hS
  refine s_val hS (by decide) rfl rfl (r_assign hS rfl) ?_; clear hS; intro a hS
  refine s_nil ?_
  refine k_seq ?_
  refine c_ret ?_
  exact k_res1 hS rfl (RV.tmp rfl) ⟨(congrArg (fun q => Ending.returned (.bool q)) (sgn_slt x)), hM.done trivial⟩

set_option maxRecDepth 100000 in
theorem sign_ok (x : BitVec 64) (w0 : World) : Pure Tryd.prog 25 #[F x] w0 (.int .i64 (sgv x)) := by
  refine ⟨by kernel_rfl, ?_⟩
  refine calls_sym Tryd.func25 rfl (by kernel_rfl) ?_
  intro a hS
  have hM : Mem w0 w0 [] := Mem.refl w0
  refine c_seq ?_
  refine c_region ?_
  refine s_val hS (by decide) rfl rfl (r_assign hS (show ev _ _ = some (N 0) from rfl)) ?_; clear hS; intro a hS
  refine s_nil ?_
  refine k_seq ?_
  refine c_seq ?_
  refine c_block ?_
  refine c_seq ?_
  refine c_region ?_
  refine s_val hS (by decide) rfl rfl (r_move hS rfl) ?_; clear hS; intro a hS
  refine s_valb hS (by decide) rfl rfl (r_bv hS rfl (show ev _ _ = some (F 0#64) from rfl) gF (b_lssF _ _ _)) (fun hc => ?_) (fun hc => ?_)
  · clear hS; intro a hS; have h5 := hc
    refine s_val hS (by decide) rfl rfl (r_move hS rfl) ?_; clear hS; intro a hS
    refine s_skip hS (by decide) rfl rfl rfl rfl rfl ?_; clear hS; intro a hS
    refine s_skip hS (by decide) rfl rfl rfl rfl rfl ?_; clear hS; intro a hS
    refine s_skip hS (by decide) rfl rfl rfl rfl rfl ?_; clear hS; intro a hS
    refine s_skipu hS (by decide) rfl rfl rfl rfl rfl ?_; clear hS; intro a hS
    refine s_skipu hS (by decide) rfl rfl rfl rfl rfl ?_; clear hS; intro a hS
    refine s_skip hS (by decide) rfl rfl rfl rfl rfl ?_; clear hS; intro a hS
    refine s_val hS (by decide) rfl rfl (r_pick hS rfl rfl) ?_; clear hS; intro a hS
    refine s_val hS (by decide) rfl rfl (r_assign hS rfl) ?_; clear hS; intro a hS
    refine s_nil ?_
    refine k_seq ?_
    refine c_true hS rfl rfl ?_
    refine c_seq ?_
    refine c_region ?_
    refine s_val hS (by decide) rfl rfl (r_assign hS (show ev _ _ = some (.int .i64 (-1)) from rfl)) ?_; clear hS; intro a hS
    refine s_nil ?_
    refine k_seq ?_
    refine c_ret ?_
    refine k_inr ?_
    refine k_thenr ?_
    exact k_res1 hS rfl (RV.tmp rfl) ⟨(congrArg (fun q => Ending.returned (.int .i64 q)) (by first | exact sgv_lt h5 | exact sgv_zero h8 hc | exact (sgv_nan hc).symm | exact sgv_pos h5 h8 hc | exact sgv_one hc h3)), hM.done trivial⟩
  · clear hS; intro a hS; have h5 := hc
    refine s_val hS (by decide) rfl rfl (r_move hS rfl) ?_; clear hS; intro a hS
    refine s_valg hS (by decide) rfl rfl rfl rfl rfl (r_move hS rfl) ?_; clear hS; intro a hS
    refine s_valgb hS (by decide) rfl rfl rfl rfl rfl (r_bv hS rfl (show ev _ _ = some (F 0#64) from rfl) gF (b_eqlF _ _ _)) (fun hc => ?_) (fun hc => ?_)
    · clear hS; intro a hS; have h8 := hc
      refine s_valg hS (by decide) rfl rfl rfl rfl rfl (r_move hS rfl) ?_; clear hS; intro a hS
      refine s_valg hS (by decide) rfl rfl rfl rfl rfl (r_move hS rfl) ?_; clear hS; intro a hS
      refine s_pureg hS hM (by decide) rfl rfl rfl rfl (signbit_ok _ _) ?_; clear hS hM; intro a w hS hM
      refine s_valg hS (by decide) rfl rfl rfl rfl rfl (r_pick hS rfl rfl) ?_; clear hS; intro a hS
      refine s_val hS (by decide) rfl rfl (r_pick hS rfl rfl) ?_; clear hS; intro a hS
      refine s_val hS (by decide) rfl rfl (r_assign hS rfl) ?_; clear hS; intro a hS
      refine s_nil ?_
      refine k_seq ?_
      refine c_cond hS rfl (fun hc => ?_) (fun hc => ?_)
      · skip
        refine c_seq ?_
        refine c_region ?_
        refine s_val hS (by decide) rfl rfl (r_assign hS (show ev _ _ = some (.int .i64 (-1)) from rfl)) ?_; clear hS; intro a hS
        refine s_nil ?_
        refine k_seq ?_
        refine c_ret ?_
        refine k_inr ?_
        refine k_thenr ?_
        exact k_res1 hS rfl (RV.tmp rfl) ⟨(congrArg (fun q => Ending.returned (.int .i64 q)) (by first | exact sgv_lt h5 | exact sgv_zero h8 hc | exact (sgv_nan hc).symm | exact sgv_pos h5 h8 hc | exact sgv_one hc h3)), hM.done trivial⟩
      · have h3 := hc
        refine c_seq ?_
        refine c_region ?_
        refine s_val hS (by decide) rfl rfl (r_move hS rfl) ?_; clear hS; intro a hS
        refine s_pure hS hM (by decide) rfl (isnan_ok _ _) ?_; clear hS hM; intro a w hS hM
        refine s_val hS (by decide) rfl rfl (r_assign hS rfl) ?_; clear hS; intro a hS
        refine s_nil ?_
        refine k_seq ?_
        refine c_cond hS rfl (fun hc => ?_) (fun hc => ?_)
        · skip
          refine c_seq ?_
          refine c_region ?_
          refine s_val hS (by decide) rfl rfl (r_assign hS (show ev _ _ = some (N 0) from rfl)) ?_; clear hS; intro a hS
          refine s_nil ?_
          refine k_seq ?_
          refine c_ret ?_
          refine k_inr ?_
          refine k_thenr ?_
          exact k_res1 hS rfl (RV.tmp rfl) ⟨(congrArg (fun q => Ending.returned (.int .i64 q)) (by first | exact sgv_lt h5 | exact sgv_zero h8 hc | exact (sgv_nan hc).symm | exact sgv_pos h5 h8 hc | exact sgv_one hc h3)), hM.done trivial⟩
        · skip
          refine c_skip ?_
          refine k_in ?_
          refine k_seq ?_
          refine c_seq ?_
          refine c_region ?_
          refine s_val hS (by decide) rfl rfl (r_assign hS (show ev _ _ = some (N 1) from rfl)) ?_; clear hS; intro a hS
          refine s_nil ?_
          refine k_seq ?_
          refine c_ret ?_
          exact k_res1 hS rfl (RV.tmp rfl) ⟨(congrArg (fun q => Ending.returned (.int .i64 q)) (by first | exact sgv_lt h5 | exact sgv_zero h8 hc | exact (sgv_nan hc).symm | exact sgv_pos h5 h8 hc | exact sgv_one hc h3)), hM.done trivial⟩
    · clear hS; intro a hS; have h8 := hc
      refine s_valg hS (by decide) rfl rfl rfl rfl rfl (r_move hS rfl) ?_; clear hS; intro a hS
      refine s_skip hS (by decide) rfl rfl rfl rfl rfl ?_; clear hS; intro a hS
      refine s_skip hS (by decide) rfl rfl rfl rfl rfl ?_; clear hS; intro a hS
      refine s_valg hS (by decide) rfl rfl rfl rfl rfl (r_pick hS rfl rfl) ?_; clear hS; intro a hS
      refine s_val hS (by decide) rfl rfl (r_pick hS rfl rfl) ?_; clear hS; intro a hS
      refine s_val hS (by decide) rfl rfl (r_assign hS rfl) ?_; clear hS; intro a hS
      refine s_nil ?_
      refine k_seq ?_
      refine c_false hS rfl rfl ?_
      refine c_seq ?_
      refine c_region ?_
      refine s_val hS (by decide) rfl rfl (r_move hS rfl) ?_; clear hS; intro a hS
      refine s_pure hS hM (by decide) rfl (isnan_ok _ _) ?_; clear hS hM; intro a w hS hM
      refine s_val hS (by decide) rfl rfl (r_assign hS rfl) ?_; clear hS; intro a hS
      refine s_nil ?_
      refine k_seq ?_
      refine c_cond hS rfl (fun hc => ?_) (fun hc => ?_)
      · skip
        refine c_seq ?_
        refine c_region ?_
        refine s_val hS (by decide) rfl rfl (r_assign hS (show ev _ _ = some (N 0) from rfl)) ?_; clear hS; intro a hS
        refine s_nil ?_
        refine k_seq ?_
        refine c_ret ?_
        refine k_inr ?_
        refine k_thenr ?_
        exact k_res1 hS rfl (RV.tmp rfl) ⟨(congrArg (fun q => Ending.returned (.int .i64 q)) (by first | exact sgv_lt h5 | exact sgv_zero h8 hc | exact (sgv_nan hc).symm | exact sgv_pos h5 h8 hc | exact sgv_one hc h3)), hM.done trivial⟩
      · skip
        refine c_skip ?_
        refine k_in ?_
        refine k_seq ?_
        refine c_seq ?_
        refine c_region ?_
        refine s_val hS (by decide) rfl rfl (r_assign hS (show ev _ _ = some (N 1) from rfl)) ?_; clear hS; intro a hS
        refine s_nil ?_
        refine k_seq ?_
        refine c_ret ?_
        exact k_res1 hS rfl (RV.tmp rfl) ⟨(congrArg (fun q => Ending.returned (.int .i64 q)) (by first | exact sgv_lt h5 | exact sgv_zero h8 hc | exact (sgv_nan hc).symm | exact sgv_pos h5 h8 hc | exact sgv_one hc h3)), hM.done trivial⟩

set_option maxRecDepth 100000 in
theorem gord_nn (w0 : World) (x y : BitVec 64) (hx : nanB x = true) (hy : nanB y = true) : Pure Tryd.prog 9 #[F x, F y] w0 (.int .i64 (ord x y)) := by
  refine ⟨by kernel_rfl, ?_⟩
  refine calls_sym Tryd.func9 rfl (by kernel_rfl) ?_
  intro a hS
  have hM : Mem w0 w0 [] := Mem.refl w0
  refine c_seq ?_
  refine c_region ?_
  refine s_val hS (by decide) rfl rfl (r_assign hS (show ev _ _ = some (N 0) from rfl)) ?_; clear hS; intro a hS
  refine s_nil ?_
  refine k_seq ?_
  refine c_seq ?_
  refine c_block ?_
  refine c_seq ?_
  refine c_region ?_
  refine s_val hS (by decide) rfl rfl (r_move hS rfl) ?_; clear hS; intro a hS
  refine s_pure hS hM (by decide) rfl (isnan_at hx _) ?_; clear hS hM; intro a w hS hM
  refine s_val hS (by decide) rfl rfl (r_move hS rfl) ?_; clear hS; intro a hS
  refine s_valg hS (by decide) rfl rfl rfl rfl rfl (r_move hS rfl) ?_; clear hS; intro a hS
  refine s_pureg hS hM (by decide) rfl rfl rfl rfl (isnan_at hy _) ?_; clear hS hM; intro a w hS hM
  refine s_val hS (by decide) rfl rfl (r_pick hS rfl rfl) ?_; clear hS; intro a hS
  refine s_val hS (by decide) rfl rfl (r_assign hS rfl) ?_; clear hS; intro a hS
  refine s_nil ?_
  refine k_seq ?_
  refine c_true hS rfl rfl ?_
  refine c_seq ?_
  refine c_region ?_
  refine s_val hS (by decide) rfl rfl (r_assign hS (show ev _ _ = some (N 0) from rfl)) ?_; clear hS; intro a hS
  refine s_nil ?_
  refine k_seq ?_
  refine c_ret ?_
  refine k_inr ?_
  refine k_thenr ?_
  exact k_res1 hS rfl (RV.tmp rfl) ⟨(congrArg (fun q => Ending.returned (.int .i64 q)) (ord_eq (by rw [nk_nan hx, nk_nan hy]))), hM.done trivial⟩

set_option maxRecDepth 100000 in
theorem gord_nf (w0 : World) (x y : BitVec 64) (hx : nanB x = true) (hy : nanB y = false) : Pure Tryd.prog 9 #[F x, F y] w0 (.int .i64 (ord x y)) := by
  refine ⟨by kernel_rfl, ?_⟩
  refine calls_sym Tryd.func9 rfl (by kernel_rfl) ?_
  intro a hS
  have hM : Mem w0 w0 [] := Mem.refl w0
  refine c_seq ?_
  refine c_region ?_
  refine s_val hS (by decide) rfl rfl (r_assign hS (show ev _ _ = some (N 0) from rfl)) ?_; clear hS; intro a hS
  refine s_nil ?_
  refine k_seq ?_
  refine c_seq ?_
  refine c_block ?_
  refine c_seq ?_
  refine c_region ?_
  refine s_val hS (by decide) rfl rfl (r_move hS rfl) ?_; clear hS; intro a hS
  refine s_pure hS hM (by decide) rfl (isnan_at hx _) ?_; clear hS hM; intro a w hS hM
  refine s_val hS (by decide) rfl rfl (r_move hS rfl) ?_; clear hS; intro a hS
  refine s_valg hS (by decide) rfl rfl rfl rfl rfl (r_move hS rfl) ?_; clear hS; intro a hS
  refine s_pureg hS hM (by decide) rfl rfl rfl rfl (isnan_at hy _) ?_; clear hS hM; intro a w hS hM
  refine s_val hS (by decide) rfl rfl (r_pick hS rfl rfl) ?_; clear hS; intro a hS
  refine s_val hS (by decide) rfl rfl (r_assign hS rfl) ?_; clear hS; intro a hS
  refine s_nil ?_
  refine k_seq ?_
  refine c_false hS rfl rfl ?_
  refine c_seq ?_
  refine c_region ?_
  refine s_val hS (by decide) rfl rfl (r_move hS rfl) ?_; clear hS; intro a hS
  refine s_pure hS hM (by decide) rfl (isnan_at hx _) ?_; clear hS hM; intro a w hS hM
  refine s_val hS (by decide) rfl rfl (r_move hS rfl) ?_; clear hS; intro a hS
  refine s_skip hS (by decide) rfl rfl rfl rfl rfl ?_; clear hS; intro a hS
  refine s_skip hS (by decide) rfl rfl rfl rfl rfl ?_; clear hS; intro a hS
  refine s_skip hS (by decide) rfl rfl rfl rfl rfl ?_; clear hS; intro a hS
  refine s_val hS (by decide) rfl rfl (r_pick hS rfl rfl) ?_; clear hS; intro a hS
  refine s_val hS (by decide) rfl rfl (r_assign hS rfl) ?_; clear hS; intro a hS
  refine s_nil ?_
  refine k_seq ?_
  refine c_true hS rfl rfl ?_
  refine c_seq ?_
  refine c_region ?_
  refine s_val hS (by decide) rfl rfl (r_assign hS (show ev _ _ = some (.int .i64 (-1)) from rfl)) ?_; clear hS; intro a hS
  refine s_nil ?_
  refine k_seq ?_
  refine c_ret ?_
  refine k_inr ?_
  refine k_thenr ?_
  exact k_res1 hS rfl (RV.tmp rfl) ⟨(congrArg (fun q => Ending.returned (.int .i64 q)) (ord_lt (by rw [nk_nan hx]; exact nk_gt hy))), hM.done trivial⟩

set_option maxRecDepth 100000 in
theorem gord_fn (w0 : World) (x y : BitVec 64) (hx : nanB x = false) (hy : nanB y = true) : Pure Tryd.prog 9 #[F x, F y] w0 (.int .i64 (ord x y)) := by
  refine ⟨by kernel_rfl, ?_⟩
  refine calls_sym Tryd.func9 rfl (by kernel_rfl) ?_
  intro a hS
  have hM : Mem w0 w0 [] := Mem.refl w0
  refine c_seq ?_
  refine c_region ?_
  refine s_val hS (by decide) rfl rfl (r_assign hS (show ev _ _ = some (N 0) from rfl)) ?_; clear hS; intro a hS
  refine s_nil ?_
  refine k_seq ?_
  refine c_seq ?_
  refine c_block ?_
  refine c_seq ?_
  refine c_region ?_
  refine s_val hS (by decide) rfl rfl (r_move hS rfl) ?_; clear hS; intro a hS
  refine s_pure hS hM (by decide) rfl (isnan_at hx _) ?_; clear hS hM; intro a w hS hM
  refine s_val hS (by decide) rfl rfl (r_move hS rfl) ?_; clear hS; intro a hS
  refine s_skip hS (by decide) rfl rfl rfl rfl rfl ?_; clear hS; intro a hS
  refine s_skip hS (by decide) rfl rfl rfl rfl rfl ?_; clear hS; intro a hS
  refine s_val hS (by decide) rfl rfl (r_pick hS rfl rfl) ?_; clear hS; intro a hS
  refine s_val hS (by decide) rfl rfl (r_assign hS rfl) ?_; clear hS; intro a hS
  refine s_nil ?_
  refine k_seq ?_
  refine c_false hS rfl rfl ?_
  refine c_seq ?_
  refine c_region ?_
  refine s_val hS (by decide) rfl rfl (r_move hS rfl) ?_; clear hS; intro a hS
  refine s_pure hS hM (by decide) rfl (isnan_at hx _) ?_; clear hS hM; intro a w hS hM
  refine s_val hS (by decide) rfl rfl (r_move hS rfl) ?_; clear hS; intro a hS
  refine s_valg hS (by decide) rfl rfl rfl rfl rfl (r_move hS rfl) ?_; clear hS; intro a hS
  refine s_valg hS (by decide) rfl rfl rfl rfl rfl (r_move hS rfl) ?_; clear hS; intro a hS
  refine s_valgb hS (by decide) rfl rfl rfl rfl rfl (r_bv hS rfl rfl gF (b_lssF _ _ _)) (fun hc => ?_) (fun hc => ?_)
  · clear hS; intro a hS; have h20 := hc
    exact absurd (hy.symm.trans (fo_lt h20).2.1) (by decide)
  · clear hS; intro a hS; have h20 := hc
    refine s_val hS (by decide) rfl rfl (r_pick hS rfl rfl) ?_; clear hS; intro a hS
    refine s_val hS (by decide) rfl rfl (r_assign hS rfl) ?_; clear hS; intro a hS
    refine s_nil ?_
    refine k_seq ?_
    refine c_false hS rfl rfl ?_
    refine c_seq ?_
    refine c_region ?_
    refine s_val hS (by decide) rfl rfl (r_move hS rfl) ?_; clear hS; intro a hS
    refine s_pure hS hM (by decide) rfl (isnan_at hy _) ?_; clear hS hM; intro a w hS hM
    refine s_val hS (by decide) rfl rfl (r_move hS rfl) ?_; clear hS; intro a hS
    refine s_skip hS (by decide) rfl rfl rfl rfl rfl ?_; clear hS; intro a hS
    refine s_skip hS (by decide) rfl rfl rfl rfl rfl ?_; clear hS; intro a hS
    refine s_skip hS (by decide) rfl rfl rfl rfl rfl ?_; clear hS; intro a hS
    refine s_val hS (by decide) rfl rfl (r_pick hS rfl rfl) ?_; clear hS; intro a hS
    refine s_val hS (by decide) rfl rfl (r_assign hS rfl) ?_; clear hS; intro a hS
    refine s_nil ?_
    refine k_seq ?_
    refine c_true hS rfl rfl ?_
    refine c_seq ?_
    refine c_region ?_
    refine s_val hS (by decide) rfl rfl (r_assign hS (show ev _ _ = some (N 1) from rfl)) ?_; clear hS; intro a hS
    refine s_nil ?_
    refine k_seq ?_
    refine c_ret ?_
    refine k_inr ?_
    refine k_thenr ?_
    exact k_res1 hS rfl (RV.tmp rfl) ⟨(congrArg (fun q => Ending.returned (.int .i64 q)) (ord_gt (by rw [nk_nan hy]; exact nk_gt hx))), hM.done trivial⟩

set_option maxRecDepth 100000 in
theorem gord_ff (w0 : World) (x y : BitVec 64) (hx : nanB x = false) (hy : nanB y = false) : Pure Tryd.prog 9 #[F x, F y] w0 (.int .i64 (ord x y)) := by
  refine ⟨by kernel_rfl, ?_⟩
  refine calls_sym Tryd.func9 rfl (by kernel_rfl) ?_
  intro a hS
  have hM : Mem w0 w0 [] := Mem.refl w0
  refine c_seq ?_
  refine c_region ?_
  refine s_val hS (by decide) rfl rfl (r_assign hS (show ev _ _ = some (N 0) from rfl)) ?_; clear hS; intro a hS
  refine s_nil ?_
  refine k_seq ?_
  refine c_seq ?_
  refine c_block ?_
  refine c_seq ?_
  refine c_region ?_
  refine s_val hS (by decide) rfl rfl (r_move hS rfl) ?_; clear hS; intro a hS
  refine s_pure hS hM (by decide) rfl (isnan_at hx _) ?_; clear hS hM; intro a w hS hM
  refine s_val hS (by decide) rfl rfl (r_move hS rfl) ?_; clear hS; intro a hS
  refine s_skip hS (by decide) rfl rfl rfl rfl rfl ?_; clear hS; intro a hS
  refine s_skip hS (by decide) rfl rfl rfl rfl rfl ?_; clear hS; intro a hS
  refine s_val hS (by decide) rfl rfl (r_pick hS rfl rfl) ?_; clear hS; intro a hS
  refine s_val hS (by decide) rfl rfl (r_assign hS rfl) ?_; clear hS; intro a hS
  refine s_nil ?_
  refine k_seq ?_
  refine c_false hS rfl rfl ?_
  refine c_seq ?_
  refine c_region ?_
  refine s_val hS (by decide) rfl rfl (r_move hS rfl) ?_; clear hS; intro a hS
  refine s_pure hS hM (by decide) rfl (isnan_at hx _) ?_; clear hS hM; intro a w hS hM
  refine s_val hS (by decide) rfl rfl (r_move hS rfl) ?_; clear hS; intro a hS
  refine s_valg hS (by decide) rfl rfl rfl rfl rfl (r_move hS rfl) ?_; clear hS; intro a hS
  refine s_valg hS (by decide) rfl rfl rfl rfl rfl (r_move hS rfl) ?_; clear hS; intro a hS
  refine s_valgb hS (by decide) rfl rfl rfl rfl rfl (r_bv hS rfl rfl gF (b_lssF _ _ _)) (fun hc => ?_) (fun hc => ?_)
  · clear hS; intro a hS; have h20 := hc
    refine s_val hS (by decide) rfl rfl (r_pick hS rfl rfl) ?_; clear hS; intro a hS
    refine s_val hS (by decide) rfl rfl (r_assign hS rfl) ?_; clear hS; intro a hS
    refine s_nil ?_
    refine k_seq ?_
    refine c_true hS rfl rfl ?_
    refine c_seq ?_
    refine c_region ?_
    refine s_val hS (by decide) rfl rfl (r_assign hS (show ev _ _ = some (.int .i64 (-1)) from rfl)) ?_; clear hS; intro a hS
    refine s_nil ?_
    refine k_seq ?_
    refine c_ret ?_
    refine k_inr ?_
    refine k_thenr ?_
    exact k_res1 hS rfl (RV.tmp rfl) ⟨(congrArg (fun q => Ending.returned (.int .i64 q)) (by first | exact ord_lt (nk_key hx hy (fo_lt h20).2.2) | exact ord_gt (nk_key hy hx (fo_gt h28).2.2) | exact ord_lt ((nk_sgv hx hy (fo_not hx hy h20 h28)).1.2 h34) | exact ord_gt ((nk_sgv hx hy (fo_not hx hy h20 h28)).2.2 h38) | (have e := nk_sgv hx hy (fo_not hx hy h20 h28); exact ord_eq (by omega)))), hM.done trivial⟩
  · clear hS; intro a hS; have h20 := hc
    refine s_val hS (by decide) rfl rfl (r_pick hS rfl rfl) ?_; clear hS; intro a hS
    refine s_val hS (by decide) rfl rfl (r_assign hS rfl) ?_; clear hS; intro a hS
    refine s_nil ?_
    refine k_seq ?_
    refine c_false hS rfl rfl ?_
    refine c_seq ?_
    refine c_region ?_
    refine s_val hS (by decide) rfl rfl (r_move hS rfl) ?_; clear hS; intro a hS
    refine s_pure hS hM (by decide) rfl (isnan_at hy _) ?_; clear hS hM; intro a w hS hM
    refine s_val hS (by decide) rfl rfl (r_move hS rfl) ?_; clear hS; intro a hS
    refine s_valg hS (by decide) rfl rfl rfl rfl rfl (r_move hS rfl) ?_; clear hS; intro a hS
    refine s_valg hS (by decide) rfl rfl rfl rfl rfl (r_move hS rfl) ?_; clear hS; intro a hS
    refine s_valgb hS (by decide) rfl rfl rfl rfl rfl (r_bv hS rfl rfl gF (b_gtrF _ _ _)) (fun hc => ?_) (fun hc => ?_)
    · clear hS; intro a hS; have h28 := hc
      refine s_val hS (by decide) rfl rfl (r_pick hS rfl rfl) ?_; clear hS; intro a hS
      refine s_val hS (by decide) rfl rfl (r_assign hS rfl) ?_; clear hS; intro a hS
      refine s_nil ?_
      refine k_seq ?_
      refine c_true hS rfl rfl ?_
      refine c_seq ?_
      refine c_region ?_
      refine s_val hS (by decide) rfl rfl (r_assign hS (show ev _ _ = some (N 1) from rfl)) ?_; clear hS; intro a hS
      refine s_nil ?_
      refine k_seq ?_
      refine c_ret ?_
      refine k_inr ?_
      refine k_thenr ?_
      exact k_res1 hS rfl (RV.tmp rfl) ⟨(congrArg (fun q => Ending.returned (.int .i64 q)) (by first | exact ord_lt (nk_key hx hy (fo_lt h20).2.2) | exact ord_gt (nk_key hy hx (fo_gt h28).2.2) | exact ord_lt ((nk_sgv hx hy (fo_not hx hy h20 h28)).1.2 h34) | exact ord_gt ((nk_sgv hx hy (fo_not hx hy h20 h28)).2.2 h38) | (have e := nk_sgv hx hy (fo_not hx hy h20 h28); exact ord_eq (by omega)))), hM.done trivial⟩
    · clear hS; intro a hS; have h28 := hc
      refine s_val hS (by decide) rfl rfl (r_pick hS rfl rfl) ?_; clear hS; intro a hS
      refine s_val hS (by decide) rfl rfl (r_assign hS rfl) ?_; clear hS; intro a hS
      refine s_nil ?_
      refine k_seq ?_
      refine c_false hS rfl rfl ?_
      refine c_skip ?_
      refine k_in ?_
      refine k_seq ?_
      refine c_seq ?_
      refine c_seq ?_
      refine c_region ?_
      refine s_val hS (by decide) rfl rfl (r_move hS rfl) ?_; clear hS; intro a hS
      refine s_pure hS hM (by decide) rfl (sign_ok _ _) ?_; clear hS hM; intro a w hS hM
      refine s_val hS (by decide) rfl rfl (r_move hS rfl) ?_; clear hS; intro a hS
      refine s_pure hS hM (by decide) rfl (sign_ok _ _) ?_; clear hS hM; intro a w hS hM
      refine s_val hS (by decide) rfl rfl (r_assign hS rfl) ?_; clear hS; intro a hS
      refine s_val hS (by decide) rfl rfl (r_assign hS rfl) ?_; clear hS; intro a hS
      refine s_nil ?_
      refine k_seq ?_
      refine c_block ?_
      refine c_seq ?_
      refine c_region ?_
      refine s_val hS (by decide) rfl rfl (r_move hS rfl) ?_; clear hS; intro a hS
      refine s_val hS (by decide) rfl rfl (r_move hS rfl) ?_; clear hS; intro a hS
      refine s_val hS (by decide) rfl rfl (r_bv hS rfl rfl gZ (b_lssZ _ _ _)) ?_; clear hS; intro a hS
      refine s_val hS (by decide) rfl rfl (r_assign hS rfl) ?_; clear hS; intro a hS
      refine s_nil ?_
      refine k_seq ?_
      refine c_cond hS rfl (fun hc => ?_) (fun hc => ?_)
      · have h34 := of_decide_eq_true hc
        refine c_seq ?_
        refine c_region ?_
        refine s_val hS (by decide) rfl rfl (r_assign hS (show ev _ _ = some (.int .i64 (-1)) from rfl)) ?_; clear hS; intro a hS
        refine s_nil ?_
        refine k_seq ?_
        refine c_ret ?_
        refine k_inr ?_
        refine k_thenr ?_
        exact k_res1 hS rfl (RV.tmp rfl) ⟨(congrArg (fun q => Ending.returned (.int .i64 q)) (by first | exact ord_lt (nk_key hx hy (fo_lt h20).2.2) | exact ord_gt (nk_key hy hx (fo_gt h28).2.2) | exact ord_lt ((nk_sgv hx hy (fo_not hx hy h20 h28)).1.2 h34) | exact ord_gt ((nk_sgv hx hy (fo_not hx hy h20 h28)).2.2 h38) | (have e := nk_sgv hx hy (fo_not hx hy h20 h28); exact ord_eq (by omega)))), hM.done trivial⟩
      · have h34 := of_decide_eq_false hc
        refine c_seq ?_
        refine c_region ?_
        refine s_val hS (by decide) rfl rfl (r_move hS rfl) ?_; clear hS; intro a hS
        refine s_val hS (by decide) rfl rfl (r_move hS rfl) ?_; clear hS; intro a hS
        refine s_val hS (by decide) rfl rfl (r_bv hS rfl rfl gZ (b_gtrZ _ _ _)) ?_; clear hS; intro a hS
        refine s_val hS (by decide) rfl rfl (r_assign hS rfl) ?_; clear hS; intro a hS
        refine s_nil ?_
        refine k_seq ?_
        refine c_cond hS rfl (fun hc => ?_) (fun hc => ?_)
        · have h38 := of_decide_eq_true hc
          refine c_seq ?_
          refine c_region ?_
          refine s_val hS (by decide) rfl rfl (r_assign hS (show ev _ _ = some (N 1) from rfl)) ?_; clear hS; intro a hS
          refine s_nil ?_
          refine k_seq ?_
          refine c_ret ?_
          refine k_inr ?_
          refine k_thenr ?_
          exact k_res1 hS rfl (RV.tmp rfl) ⟨(congrArg (fun q => Ending.returned (.int .i64 q)) (by first | exact ord_lt (nk_key hx hy (fo_lt h20).2.2) | exact ord_gt (nk_key hy hx (fo_gt h28).2.2) | exact ord_lt ((nk_sgv hx hy (fo_not hx hy h20 h28)).1.2 h34) | exact ord_gt ((nk_sgv hx hy (fo_not hx hy h20 h28)).2.2 h38) | (have e := nk_sgv hx hy (fo_not hx hy h20 h28); exact ord_eq (by omega)))), hM.done trivial⟩
        · have h38 := of_decide_eq_false hc
          refine c_skip ?_
          refine k_in ?_
          refine k_seq ?_
          refine c_seq ?_
          refine c_region ?_
          refine s_val hS (by decide) rfl rfl (r_assign hS (show ev _ _ = some (N 0) from rfl)) ?_; clear hS; intro a hS
          refine s_nil ?_
          refine k_seq ?_
          refine c_ret ?_
          exact k_res1 hS rfl (RV.tmp rfl) ⟨(congrArg (fun q => Ending.returned (.int .i64 q)) (by first | exact ord_lt (nk_key hx hy (fo_lt h20).2.2) | exact ord_gt (nk_key hy hx (fo_gt h28).2.2) | exact ord_lt ((nk_sgv hx hy (fo_not hx hy h20 h28)).1.2 h34) | exact ord_gt ((nk_sgv hx hy (fo_not hx hy h20 h28)).2.2 h38) | (have e := nk_sgv hx hy (fo_not hx hy h20 h28); exact ord_eq (by omega)))), hM.done trivial⟩
theorem gord_ok (x y : BitVec 64) (w0 : World) : Pure Tryd.prog 9 #[F x, F y] w0 (.int .i64 (ord x y)) := by
  cases hx : nanB x <;> cases hy : nanB y
  · exact gord_ff w0 x y hx hy
  · exact gord_fn w0 x y hx hy
  · exact gord_nf w0 x y hx hy
  · exact gord_nn w0 x y hx hy
end Go.Proofs.YtbfiaoemoookcaaDoor
