/- The walks of chapter 30 and of its definition, one number at a time. Printed by a program of mine (walk.py). -/
import Derived.Test.YtbfiaoemoookcaaDoorGshow
import Derived.Test.YtbfiaoemoookcaaDoorGwalk
namespace Go.Proofs.YtbfiaoemoookcaaDoor
open Go Go.Sym
attribute [local irreducible] dsF blen nd th fl mulR shw ds



set_option maxRecDepth 100000 in
theorem minus_ok (x : BitVec 64) (w0 : World) : Pure Tryd.prog 26 #[F x] w0 (.bool (mn x)) := by
  refine ⟨by kernel_rfl, ?_⟩
  refine calls_sym Tryd.func26 rfl (by kernel_rfl) ?_
  intro a hS
  have hM : Mem w0 w0 [] := Mem.refl w0
  refine c_seq ?_
  refine c_region ?_
  refine s_val hS (by decide) rfl rfl (r_assign hS rfl) ?_; clear hS; intro a hS
  refine s_nil ?_
  refine k_seq ?_
  refine c_seq ?_
  refine c_region ?_
  refine s_val hS (by decide) rfl rfl (r_move hS rfl) ?_; clear hS; intro a hS
  refine s_valb hS (by decide) rfl rfl (r_bv hS rfl (show ev _ _ = some (F 0#64) from rfl) gF (b_lssF _ _ _)) (fun hc => ?_) (fun hc => ?_)
  · clear hS; intro a hS; have h4 := hc
    refine s_val hS (by decide) rfl rfl (r_move hS rfl) ?_; clear hS; intro a hS
    refine s_skip hS (by decide) rfl rfl rfl rfl rfl ?_; clear hS; intro a hS
    refine s_skip hS (by decide) rfl rfl rfl rfl rfl ?_; clear hS; intro a hS
    refine s_skip hS (by decide) rfl rfl rfl rfl rfl ?_; clear hS; intro a hS
    refine s_skipu hS (by decide) rfl rfl rfl rfl rfl ?_; clear hS; intro a hS
    refine s_skipu hS (by decide) rfl rfl rfl rfl rfl ?_; clear hS; intro a hS
    refine s_skipu hS (by decide) rfl rfl rfl rfl rfl ?_; clear hS; intro a hS
    refine s_skip hS (by decide) rfl rfl rfl rfl rfl ?_; clear hS; intro a hS
    refine s_val hS (by decide) rfl rfl (r_pick hS rfl rfl) ?_; clear hS; intro a hS
    refine s_val hS (by decide) rfl rfl (r_assign hS rfl) ?_; clear hS; intro a hS
    refine s_nil ?_
    refine k_seq ?_
    refine c_ret ?_
    exact k_res1 hS rfl (RV.tmp rfl) ⟨(congrArg (fun q => Ending.returned (.bool q)) (by first | exact mn_true h4 | exact mn_zero h7 hr10 | exact mn_no h4 h7)), hM.done trivial⟩
  · clear hS; intro a hS; have h4 := hc
    refine s_val hS (by decide) rfl rfl (r_move hS rfl) ?_; clear hS; intro a hS
    refine s_valg hS (by decide) rfl rfl rfl rfl rfl (r_move hS rfl) ?_; clear hS; intro a hS
    refine s_valgb hS (by decide) rfl rfl rfl rfl rfl (r_bv hS rfl (show ev _ _ = some (F 0#64) from rfl) gF (b_eqlF _ _ _)) (fun hc => ?_) (fun hc => ?_)
    · clear hS; intro a hS; have h7 := hc
      refine s_valg hS (by decide) rfl rfl rfl rfl rfl (r_move hS rfl) ?_; clear hS; intro a hS
      refine s_valg hS (by decide) rfl rfl rfl rfl rfl (r_move hS rfl) ?_; clear hS; intro a hS
      refine s_floatg hS hM (by decide) (show ev _ _ = some (F 4607182418800017408#64) from rfl) rfl rfl rfl rfl (.inr (.inr (.inr rfl))) ?_; clear hS hM; intro a w r10 hr10 hS hM
      refine s_valg hS (by decide) rfl rfl rfl rfl rfl (r_bv hS rfl (show ev _ _ = some (F 0#64) from rfl) gF (b_lssF _ _ _)) ?_; clear hS; intro a hS
      refine s_valg hS (by decide) rfl rfl rfl rfl rfl (r_pick hS rfl rfl) ?_; clear hS; intro a hS
      refine s_val hS (by decide) rfl rfl (r_pick hS rfl rfl) ?_; clear hS; intro a hS
      refine s_val hS (by decide) rfl rfl (r_assign hS rfl) ?_; clear hS; intro a hS
      refine s_nil ?_
      refine k_seq ?_
      refine c_ret ?_
      exact k_res1 hS rfl (RV.tmp rfl) ⟨(congrArg (fun q => Ending.returned (.bool q)) (by first | exact mn_true h4 | exact mn_zero h7 hr10 | exact mn_no h4 h7)), hM.done trivial⟩
    · clear hS; intro a hS; have h7 := hc
      refine s_valg hS (by decide) rfl rfl rfl rfl rfl (r_move hS rfl) ?_; clear hS; intro a hS
      refine s_skip hS (by decide) rfl rfl rfl rfl rfl ?_; clear hS; intro a hS
      refine s_skip hS (by decide) rfl rfl rfl rfl rfl ?_; clear hS; intro a hS
      refine s_skip hS (by decide) rfl rfl rfl rfl rfl ?_; clear hS; intro a hS
      refine s_valg hS (by decide) rfl rfl rfl rfl rfl (r_pick hS rfl rfl) ?_; clear hS; intro a hS
      refine s_val hS (by decide) rfl rfl (r_pick hS rfl rfl) ?_; clear hS; intro a hS
      refine s_val hS (by decide) rfl rfl (r_assign hS rfl) ?_; clear hS; intro a hS
      refine s_nil ?_
      refine k_seq ?_
      refine c_ret ?_
      exact k_res1 hS rfl (RV.tmp rfl) ⟨(congrArg (fun q => Ending.returned (.bool q)) (by first | exact mn_true h4 | exact mn_zero h7 hr10 | exact mn_no h4 h7)), hM.done trivial⟩

theorem minus_at {x : BitVec 64} {b : Bool} (h : mn x = b) (w0 : World) : Pure Tryd.prog 26 #[F x] w0 (.bool b) := by rw [← h]; exact minus_ok x w0


set_option maxRecDepth 100000 in
theorem rord_nn (w0 : World) (x y : BitVec 64) (hx : nanB x = true) (hy : nanB y = true) : Pure Tryd.prog 13 #[F x, F y] w0 (.int .i64 (ord x y)) := by
  refine ⟨by kernel_rfl, ?_⟩
  refine calls_sym Tryd.func13 rfl (by kernel_rfl) ?_
  intro a hS
  have hM : Mem w0 w0 [] := Mem.refl w0
  refine c_seq ?_
  refine c_region ?_
  refine s_val hS (by decide) rfl rfl (r_assign hS (show ev _ _ = some (N 0) from rfl)) ?_; clear hS; intro a hS
  refine s_nil ?_
  refine k_seq ?_
  refine c_seq ?_
  refine c_block ?_
  refine c_seq ?_
  refine c_region ?_
  refine s_val hS (by decide) rfl rfl (r_move hS rfl) ?_; clear hS; intro a hS
  refine s_val hS (by decide) rfl rfl (r_move hS rfl) ?_; clear hS; intro a hS
  refine s_val hS (by decide) rfl rfl (r_bv hS rfl rfl gF (b_neqFn _ hx)) ?_; clear hS; intro a hS
  refine s_val hS (by decide) rfl rfl (r_move hS rfl) ?_; clear hS; intro a hS
  refine s_valg hS (by decide) rfl rfl rfl rfl rfl (r_move hS rfl) ?_; clear hS; intro a hS
  refine s_valg hS (by decide) rfl rfl rfl rfl rfl (r_move hS rfl) ?_; clear hS; intro a hS
  refine s_valg hS (by decide) rfl rfl rfl rfl rfl (r_bv hS rfl rfl gF (b_neqFn _ hy)) ?_; clear hS; intro a hS
  refine s_val hS (by decide) rfl rfl (r_pick hS rfl rfl) ?_; clear hS; intro a hS
  refine s_val hS (by decide) rfl rfl (r_assign hS rfl) ?_; clear hS; intro a hS
  refine s_nil ?_
  refine k_seq ?_
  refine c_true hS rfl rfl ?_
  refine c_seq ?_
  refine c_region ?_
  refine s_val hS (by decide) rfl rfl (r_assign hS (show ev _ _ = some (N 0) from rfl)) ?_; clear hS; intro a hS
  refine s_nil ?_
  refine k_seq ?_
  refine c_ret ?_
  refine k_inr ?_
  refine k_thenr ?_
  exact k_res1 hS rfl (RV.tmp rfl) ⟨(congrArg (fun q => Ending.returned (.int .i64 q)) (ord_eq (by rw [nk_nan hx, nk_nan hy]))), hM.done trivial⟩

set_option maxRecDepth 100000 in
theorem rord_nf (w0 : World) (x y : BitVec 64) (hx : nanB x = true) (hy : nanB y = false) : Pure Tryd.prog 13 #[F x, F y] w0 (.int .i64 (ord x y)) := by
  refine ⟨by kernel_rfl, ?_⟩
  refine calls_sym Tryd.func13 rfl (by kernel_rfl) ?_
  intro a hS
  have hM : Mem w0 w0 [] := Mem.refl w0
  refine c_seq ?_
  refine c_region ?_
  refine s_val hS (by decide) rfl rfl (r_assign hS (show ev _ _ = some (N 0) from rfl)) ?_; clear hS; intro a hS
  refine s_nil ?_
  refine k_seq ?_
  refine c_seq ?_
  refine c_block ?_
  refine c_seq ?_
  refine c_region ?_
  refine s_val hS (by decide) rfl rfl (r_move hS rfl) ?_; clear hS; intro a hS
  refine s_val hS (by decide) rfl rfl (r_move hS rfl) ?_; clear hS; intro a hS
  refine s_val hS (by decide) rfl rfl (r_bv hS rfl rfl gF (b_neqFn _ hx)) ?_; clear hS; intro a hS
  refine s_val hS (by decide) rfl rfl (r_move hS rfl) ?_; clear hS; intro a hS
  refine s_valg hS (by decide) rfl rfl rfl rfl rfl (r_move hS rfl) ?_; clear hS; intro a hS
  refine s_valg hS (by decide) rfl rfl rfl rfl rfl (r_move hS rfl) ?_; clear hS; intro a hS
  refine s_valg hS (by decide) rfl rfl rfl rfl rfl (r_bv hS rfl rfl gF (b_neqFn _ hy)) ?_; clear hS; intro a hS
  refine s_val hS (by decide) rfl rfl (r_pick hS rfl rfl) ?_; clear hS; intro a hS
  refine s_val hS (by decide) rfl rfl (r_assign hS rfl) ?_; clear hS; intro a hS
  refine s_nil ?_
  refine k_seq ?_
  refine c_false hS rfl rfl ?_
  refine c_seq ?_
  refine c_region ?_
  refine s_val hS (by decide) rfl rfl (r_move hS rfl) ?_; clear hS; intro a hS
  refine s_val hS (by decide) rfl rfl (r_move hS rfl) ?_; clear hS; intro a hS
  refine s_val hS (by decide) rfl rfl (r_bv hS rfl rfl gF (b_neqFn _ hx)) ?_; clear hS; intro a hS
  refine s_val hS (by decide) rfl rfl (r_assign hS rfl) ?_; clear hS; intro a hS
  refine s_nil ?_
  refine k_seq ?_
  refine c_true hS rfl rfl ?_
  refine c_seq ?_
  refine c_region ?_
  refine s_val hS (by decide) rfl rfl (r_assign hS (show ev _ _ = some (.int .i64 (-1)) from rfl)) ?_; clear hS; intro a hS
  refine s_nil ?_
  refine k_seq ?_
  refine c_ret ?_
  refine k_inr ?_
  refine k_thenr ?_
  exact k_res1 hS rfl (RV.tmp rfl) ⟨(congrArg (fun q => Ending.returned (.int .i64 q)) (ord_lt (by rw [nk_nan hx]; exact nk_gt hy))), hM.done trivial⟩

set_option maxRecDepth 100000 in
theorem rord_fn (w0 : World) (x y : BitVec 64) (hx : nanB x = false) (hy : nanB y = true) : Pure Tryd.prog 13 #[F x, F y] w0 (.int .i64 (ord x y)) := by
  refine ⟨by kernel_rfl, ?_⟩
  refine calls_sym Tryd.func13 rfl (by kernel_rfl) ?_
  intro a hS
  have hM : Mem w0 w0 [] := Mem.refl w0
  refine c_seq ?_
  refine c_region ?_
  refine s_val hS (by decide) rfl rfl (r_assign hS (show ev _ _ = some (N 0) from rfl)) ?_; clear hS; intro a hS
  refine s_nil ?_
  refine k_seq ?_
  refine c_seq ?_
  refine c_block ?_
  refine c_seq ?_
  refine c_region ?_
  refine s_val hS (by decide) rfl rfl (r_move hS rfl) ?_; clear hS; intro a hS
  refine s_val hS (by decide) rfl rfl (r_move hS rfl) ?_; clear hS; intro a hS
  refine s_val hS (by decide) rfl rfl (r_bv hS rfl rfl gF (b_neqFn _ hx)) ?_; clear hS; intro a hS
  refine s_val hS (by decide) rfl rfl (r_move hS rfl) ?_; clear hS; intro a hS
  refine s_skip hS (by decide) rfl rfl rfl rfl rfl ?_; clear hS; intro a hS
  refine s_skip hS (by decide) rfl rfl rfl rfl rfl ?_; clear hS; intro a hS
  refine s_skip hS (by decide) rfl rfl rfl rfl rfl ?_; clear hS; intro a hS
  refine s_val hS (by decide) rfl rfl (r_pick hS rfl rfl) ?_; clear hS; intro a hS
  refine s_val hS (by decide) rfl rfl (r_assign hS rfl) ?_; clear hS; intro a hS
  refine s_nil ?_
  refine k_seq ?_
  refine c_false hS rfl rfl ?_
  refine c_seq ?_
  refine c_region ?_
  refine s_val hS (by decide) rfl rfl (r_move hS rfl) ?_; clear hS; intro a hS
  refine s_val hS (by decide) rfl rfl (r_move hS rfl) ?_; clear hS; intro a hS
  refine s_val hS (by decide) rfl rfl (r_bv hS rfl rfl gF (b_neqFn _ hx)) ?_; clear hS; intro a hS
  refine s_val hS (by decide) rfl rfl (r_assign hS rfl) ?_; clear hS; intro a hS
  refine s_nil ?_
  refine k_seq ?_
  refine c_false hS rfl rfl ?_
  refine c_seq ?_
  refine c_region ?_
  refine s_val hS (by decide) rfl rfl (r_move hS rfl) ?_; clear hS; intro a hS
  refine s_val hS (by decide) rfl rfl (r_move hS rfl) ?_; clear hS; intro a hS
  refine s_val hS (by decide) rfl rfl (r_bv hS rfl rfl gF (b_neqFn _ hy)) ?_; clear hS; intro a hS
  refine s_val hS (by decide) rfl rfl (r_assign hS rfl) ?_; clear hS; intro a hS
  refine s_nil ?_
  refine k_seq ?_
  refine c_true hS rfl rfl ?_
  refine c_seq ?_
  refine c_region ?_
  refine s_val hS (by decide) rfl rfl (r_assign hS (show ev _ _ = some (N 1) from rfl)) ?_; clear hS; intro a hS
  refine s_nil ?_
  refine k_seq ?_
  refine c_ret ?_
  refine k_inr ?_
  refine k_thenr ?_
  exact k_res1 hS rfl (RV.tmp rfl) ⟨(congrArg (fun q => Ending.returned (.int .i64 q)) (ord_gt (by rw [nk_nan hy]; exact nk_gt hx))), hM.done trivial⟩

set_option maxRecDepth 100000 in
theorem rord_ffmm (w0 : World) (x y : BitVec 64) (hx : nanB x = false) (hy : nanB y = false) (hmx : mn x = true) (hmy : mn y = true) : Pure Tryd.prog 13 #[F x, F y] w0 (.int .i64 (ord x y)) := by
  refine ⟨by kernel_rfl, ?_⟩
  refine calls_sym Tryd.func13 rfl (by kernel_rfl) ?_
  intro a hS
  have hM : Mem w0 w0 [] := Mem.refl w0
  refine c_seq ?_
  refine c_region ?_
  refine s_val hS (by decide) rfl rfl (r_assign hS (show ev _ _ = some (N 0) from rfl)) ?_; clear hS; intro a hS
  refine s_nil ?_
  refine k_seq ?_
  refine c_seq ?_
  refine c_block ?_
  refine c_seq ?_
  refine c_region ?_
  refine s_val hS (by decide) rfl rfl (r_move hS rfl) ?_; clear hS; intro a hS
  refine s_val hS (by decide) rfl rfl (r_move hS rfl) ?_; clear hS; intro a hS
  refine s_val hS (by decide) rfl rfl (r_bv hS rfl rfl gF (b_neqFn _ hx)) ?_; clear hS; intro a hS
  refine s_val hS (by decide) rfl rfl (r_move hS rfl) ?_; clear hS; intro a hS
  refine s_skip hS (by decide) rfl rfl rfl rfl rfl ?_; clear hS; intro a hS
  refine s_skip hS (by decide) rfl rfl rfl rfl rfl ?_; clear hS; intro a hS
  refine s_skip hS (by decide) rfl rfl rfl rfl rfl ?_; clear hS; intro a hS
  refine s_val hS (by decide) rfl rfl (r_pick hS rfl rfl) ?_; clear hS; intro a hS
  refine s_val hS (by decide) rfl rfl (r_assign hS rfl) ?_; clear hS; intro a hS
  refine s_nil ?_
  refine k_seq ?_
  refine c_false hS rfl rfl ?_
  refine c_seq ?_
  refine c_region ?_
  refine s_val hS (by decide) rfl rfl (r_move hS rfl) ?_; clear hS; intro a hS
  refine s_val hS (by decide) rfl rfl (r_move hS rfl) ?_; clear hS; intro a hS
  refine s_val hS (by decide) rfl rfl (r_bv hS rfl rfl gF (b_neqFn _ hx)) ?_; clear hS; intro a hS
  refine s_val hS (by decide) rfl rfl (r_assign hS rfl) ?_; clear hS; intro a hS
  refine s_nil ?_
  refine k_seq ?_
  refine c_false hS rfl rfl ?_
  refine c_seq ?_
  refine c_region ?_
  refine s_val hS (by decide) rfl rfl (r_move hS rfl) ?_; clear hS; intro a hS
  refine s_val hS (by decide) rfl rfl (r_move hS rfl) ?_; clear hS; intro a hS
  refine s_val hS (by decide) rfl rfl (r_bv hS rfl rfl gF (b_neqFn _ hy)) ?_; clear hS; intro a hS
  refine s_val hS (by decide) rfl rfl (r_assign hS rfl) ?_; clear hS; intro a hS
  refine s_nil ?_
  refine k_seq ?_
  refine c_false hS rfl rfl ?_
  refine c_seq ?_
  refine c_region ?_
  refine s_val hS (by decide) rfl rfl (r_move hS rfl) ?_; clear hS; intro a hS
  refine s_val hS (by decide) rfl rfl (r_move hS rfl) ?_; clear hS; intro a hS
  refine s_valb hS (by decide) rfl rfl (r_bv hS rfl rfl gF (b_lssF _ _ _)) (fun hc => ?_) (fun hc => ?_)
  · clear hS; intro a hS; have h25 := hc
    refine s_val hS (by decide) rfl rfl (r_move hS rfl) ?_; clear hS; intro a hS
    refine s_skip hS (by decide) rfl rfl rfl rfl rfl ?_; clear hS; intro a hS
    refine s_skip hS (by decide) rfl rfl rfl rfl rfl ?_; clear hS; intro a hS
    refine s_skip hS (by decide) rfl rfl rfl rfl rfl ?_; clear hS; intro a hS
    refine s_skip hS (by decide) rfl rfl rfl rfl rfl ?_; clear hS; intro a hS
    refine s_skipu hS (by decide) rfl rfl rfl rfl rfl ?_; clear hS; intro a hS
    refine s_skipu hS (by decide) rfl rfl rfl rfl rfl ?_; clear hS; intro a hS
    refine s_skip hS (by decide) rfl rfl rfl rfl rfl ?_; clear hS; intro a hS
    refine s_skip hS (by decide) rfl rfl rfl rfl rfl ?_; clear hS; intro a hS
    refine s_skipu hS (by decide) rfl rfl rfl rfl rfl ?_; clear hS; intro a hS
    refine s_skipu hS (by decide) rfl rfl rfl rfl rfl ?_; clear hS; intro a hS
    refine s_skipu hS (by decide) rfl rfl rfl rfl rfl ?_; clear hS; intro a hS
    refine s_skip hS (by decide) rfl rfl rfl rfl rfl ?_; clear hS; intro a hS
    refine s_val hS (by decide) rfl rfl (r_pick hS rfl rfl) ?_; clear hS; intro a hS
    refine s_val hS (by decide) rfl rfl (r_assign hS rfl) ?_; clear hS; intro a hS
    refine s_nil ?_
    refine k_seq ?_
    refine c_true hS rfl rfl ?_
    refine c_seq ?_
    refine c_region ?_
    refine s_val hS (by decide) rfl rfl (r_assign hS (show ev _ _ = some (.int .i64 (-1)) from rfl)) ?_; clear hS; intro a hS
    refine s_nil ?_
    refine k_seq ?_
    refine c_ret ?_
    refine k_inr ?_
    refine k_thenr ?_
    exact k_res1 hS rfl (RV.tmp rfl) ⟨(congrArg (fun q => Ending.returned (.int .i64 q)) (by first | exact ord_lt (nk_key hx hy (fo_lt h25).2.2) | exact tie_lt h29 hmx hmy | exact ord_gt (nk_key hy hx (fo_gt h43).2.2) | exact tie_gt h29 hmx hmy | exact tie_eq h29 (hmx.trans hmy.symm) | exact absurd (h29.symm.trans h47) (by decide) | exact (no_tie hx hy h25 h43 h29).elim)), hM.done trivial⟩
  · clear hS; intro a hS; have h25 := hc
    refine s_val hS (by decide) rfl rfl (r_move hS rfl) ?_; clear hS; intro a hS
    refine s_valg hS (by decide) rfl rfl rfl rfl rfl (r_move hS rfl) ?_; clear hS; intro a hS
    refine s_valg hS (by decide) rfl rfl rfl rfl rfl (r_move hS rfl) ?_; clear hS; intro a hS
    refine s_valgb hS (by decide) rfl rfl rfl rfl rfl (r_bv hS rfl rfl gF (b_eqlF _ _ _)) (fun hc => ?_) (fun hc => ?_)
    · clear hS; intro a hS; have h29 := hc
      refine s_valg hS (by decide) rfl rfl rfl rfl rfl (r_move hS rfl) ?_; clear hS; intro a hS
      refine s_valg hS (by decide) rfl rfl rfl rfl rfl (r_move hS rfl) ?_; clear hS; intro a hS
      refine s_pureg hS hM (by decide) rfl rfl rfl rfl (minus_at hmx _) ?_; clear hS hM; intro a w hS hM
      refine s_valg hS (by decide) rfl rfl rfl rfl rfl (r_pick hS rfl rfl) ?_; clear hS; intro a hS
      refine s_valg hS (by decide) rfl rfl rfl rfl rfl (r_move hS rfl) ?_; clear hS; intro a hS
      refine s_valg hS (by decide) rfl rfl rfl rfl rfl (r_move hS rfl) ?_; clear hS; intro a hS
      refine s_pureg hS hM (by decide) rfl rfl rfl rfl (minus_at hmy _) ?_; clear hS hM; intro a w hS hM
      refine s_valg hS (by decide) rfl rfl rfl rfl rfl (r_not hS rfl) ?_; clear hS; intro a hS
      refine s_valg hS (by decide) rfl rfl rfl rfl rfl (r_pick hS rfl rfl) ?_; clear hS; intro a hS
      refine s_val hS (by decide) rfl rfl (r_pick hS rfl rfl) ?_; clear hS; intro a hS
      refine s_val hS (by decide) rfl rfl (r_assign hS rfl) ?_; clear hS; intro a hS
      refine s_nil ?_
      refine k_seq ?_
      refine c_false hS rfl rfl ?_
      refine c_seq ?_
      refine c_region ?_
      refine s_val hS (by decide) rfl rfl (r_move hS rfl) ?_; clear hS; intro a hS
      refine s_val hS (by decide) rfl rfl (r_move hS rfl) ?_; clear hS; intro a hS
      refine s_valb hS (by decide) rfl rfl (r_bv hS rfl rfl gF (b_gtrF _ _ _)) (fun hc => ?_) (fun hc => ?_)
      · clear hS; intro a hS; have h43 := hc
        refine s_val hS (by decide) rfl rfl (r_move hS rfl) ?_; clear hS; intro a hS
        refine s_skip hS (by decide) rfl rfl rfl rfl rfl ?_; clear hS; intro a hS
        refine s_skip hS (by decide) rfl rfl rfl rfl rfl ?_; clear hS; intro a hS
        refine s_skip hS (by decide) rfl rfl rfl rfl rfl ?_; clear hS; intro a hS
        refine s_skip hS (by decide) rfl rfl rfl rfl rfl ?_; clear hS; intro a hS
        refine s_skipu hS (by decide) rfl rfl rfl rfl rfl ?_; clear hS; intro a hS
        refine s_skipu hS (by decide) rfl rfl rfl rfl rfl ?_; clear hS; intro a hS
        refine s_skipu hS (by decide) rfl rfl rfl rfl rfl ?_; clear hS; intro a hS
        refine s_skip hS (by decide) rfl rfl rfl rfl rfl ?_; clear hS; intro a hS
        refine s_skip hS (by decide) rfl rfl rfl rfl rfl ?_; clear hS; intro a hS
        refine s_skipu hS (by decide) rfl rfl rfl rfl rfl ?_; clear hS; intro a hS
        refine s_skipu hS (by decide) rfl rfl rfl rfl rfl ?_; clear hS; intro a hS
        refine s_skip hS (by decide) rfl rfl rfl rfl rfl ?_; clear hS; intro a hS
        refine s_val hS (by decide) rfl rfl (r_pick hS rfl rfl) ?_; clear hS; intro a hS
        refine s_val hS (by decide) rfl rfl (r_assign hS rfl) ?_; clear hS; intro a hS
        refine s_nil ?_
        refine k_seq ?_
        refine c_true hS rfl rfl ?_
        refine c_seq ?_
        refine c_region ?_
        refine s_val hS (by decide) rfl rfl (r_assign hS (show ev _ _ = some (N 1) from rfl)) ?_; clear hS; intro a hS
        refine s_nil ?_
        refine k_seq ?_
        refine c_ret ?_
        refine k_inr ?_
        refine k_thenr ?_
        exact k_res1 hS rfl (RV.tmp rfl) ⟨(congrArg (fun q => Ending.returned (.int .i64 q)) (by first | exact ord_lt (nk_key hx hy (fo_lt h25).2.2) | exact tie_lt h29 hmx hmy | exact ord_gt (nk_key hy hx (fo_gt h43).2.2) | exact tie_gt h29 hmx hmy | exact tie_eq h29 (hmx.trans hmy.symm) | exact absurd (h29.symm.trans h47) (by decide) | exact (no_tie hx hy h25 h43 h29).elim)), hM.done trivial⟩
      · clear hS; intro a hS; have h43 := hc
        refine s_val hS (by decide) rfl rfl (r_move hS rfl) ?_; clear hS; intro a hS
        refine s_valg hS (by decide) rfl rfl rfl rfl rfl (r_move hS rfl) ?_; clear hS; intro a hS
        refine s_valg hS (by decide) rfl rfl rfl rfl rfl (r_move hS rfl) ?_; clear hS; intro a hS
        refine s_valgb hS (by decide) rfl rfl rfl rfl rfl (r_bv hS rfl rfl gF (b_eqlF _ _ _)) (fun hc => ?_) (fun hc => ?_)
        · clear hS; intro a hS; have h47 := hc
          refine s_valg hS (by decide) rfl rfl rfl rfl rfl (r_move hS rfl) ?_; clear hS; intro a hS
          refine s_valg hS (by decide) rfl rfl rfl rfl rfl (r_move hS rfl) ?_; clear hS; intro a hS
          refine s_pureg hS hM (by decide) rfl rfl rfl rfl (minus_at hmx _) ?_; clear hS hM; intro a w hS hM
          refine s_valg hS (by decide) rfl rfl rfl rfl rfl (r_not hS rfl) ?_; clear hS; intro a hS
          refine s_valg hS (by decide) rfl rfl rfl rfl rfl (r_pick hS rfl rfl) ?_; clear hS; intro a hS
          refine s_valg hS (by decide) rfl rfl rfl rfl rfl (r_move hS rfl) ?_; clear hS; intro a hS
          refine s_skip hS (by decide) rfl rfl rfl rfl rfl ?_; clear hS; intro a hS
          refine s_skip hS (by decide) rfl rfl rfl rfl rfl ?_; clear hS; intro a hS
          refine s_valg hS (by decide) rfl rfl rfl rfl rfl (r_pick hS rfl rfl) ?_; clear hS; intro a hS
          refine s_val hS (by decide) rfl rfl (r_pick hS rfl rfl) ?_; clear hS; intro a hS
          refine s_val hS (by decide) rfl rfl (r_assign hS rfl) ?_; clear hS; intro a hS
          refine s_nil ?_
          refine k_seq ?_
          refine c_false hS rfl rfl ?_
          refine c_skip ?_
          refine k_in ?_
          refine k_seq ?_
          refine c_seq ?_
          refine c_region ?_
          refine s_val hS (by decide) rfl rfl (r_assign hS (show ev _ _ = some (N 0) from rfl)) ?_; clear hS; intro a hS
          refine s_nil ?_
          refine k_seq ?_
          refine c_ret ?_
          exact k_res1 hS rfl (RV.tmp rfl) ⟨(congrArg (fun q => Ending.returned (.int .i64 q)) (by first | exact ord_lt (nk_key hx hy (fo_lt h25).2.2) | exact tie_lt h29 hmx hmy | exact ord_gt (nk_key hy hx (fo_gt h43).2.2) | exact tie_gt h29 hmx hmy | exact tie_eq h29 (hmx.trans hmy.symm) | exact absurd (h29.symm.trans h47) (by decide) | exact (no_tie hx hy h25 h43 h29).elim)), hM.done trivial⟩
        · clear hS; intro a hS; have h47 := hc
          refine s_valg hS (by decide) rfl rfl rfl rfl rfl (r_move hS rfl) ?_; clear hS; intro a hS
          refine s_skip hS (by decide) rfl rfl rfl rfl rfl ?_; clear hS; intro a hS
          refine s_skip hS (by decide) rfl rfl rfl rfl rfl ?_; clear hS; intro a hS
          refine s_skip hS (by decide) rfl rfl rfl rfl rfl ?_; clear hS; intro a hS
          refine s_valg hS (by decide) rfl rfl rfl rfl rfl (r_pick hS rfl rfl) ?_; clear hS; intro a hS
          refine s_valg hS (by decide) rfl rfl rfl rfl rfl (r_move hS rfl) ?_; clear hS; intro a hS
          refine s_skip hS (by decide) rfl rfl rfl rfl rfl ?_; clear hS; intro a hS
          refine s_skip hS (by decide) rfl rfl rfl rfl rfl ?_; clear hS; intro a hS
          refine s_valg hS (by decide) rfl rfl rfl rfl rfl (r_pick hS rfl rfl) ?_; clear hS; intro a hS
          refine s_val hS (by decide) rfl rfl (r_pick hS rfl rfl) ?_; clear hS; intro a hS
          refine s_val hS (by decide) rfl rfl (r_assign hS rfl) ?_; clear hS; intro a hS
          refine s_nil ?_
          refine k_seq ?_
          refine c_false hS rfl rfl ?_
          refine c_skip ?_
          refine k_in ?_
          refine k_seq ?_
          refine c_seq ?_
          refine c_region ?_
          refine s_val hS (by decide) rfl rfl (r_assign hS (show ev _ _ = some (N 0) from rfl)) ?_; clear hS; intro a hS
          refine s_nil ?_
          refine k_seq ?_
          refine c_ret ?_
          exact k_res1 hS rfl (RV.tmp rfl) ⟨(congrArg (fun q => Ending.returned (.int .i64 q)) (by first | exact ord_lt (nk_key hx hy (fo_lt h25).2.2) | exact tie_lt h29 hmx hmy | exact ord_gt (nk_key hy hx (fo_gt h43).2.2) | exact tie_gt h29 hmx hmy | exact tie_eq h29 (hmx.trans hmy.symm) | exact absurd (h29.symm.trans h47) (by decide) | exact (no_tie hx hy h25 h43 h29).elim)), hM.done trivial⟩
    · clear hS; intro a hS; have h29 := hc
      refine s_valg hS (by decide) rfl rfl rfl rfl rfl (r_move hS rfl) ?_; clear hS; intro a hS
      refine s_skip hS (by decide) rfl rfl rfl rfl rfl ?_; clear hS; intro a hS
      refine s_skip hS (by decide) rfl rfl rfl rfl rfl ?_; clear hS; intro a hS
      refine s_valg hS (by decide) rfl rfl rfl rfl rfl (r_pick hS rfl rfl) ?_; clear hS; intro a hS
      refine s_valg hS (by decide) rfl rfl rfl rfl rfl (r_move hS rfl) ?_; clear hS; intro a hS
      refine s_skip hS (by decide) rfl rfl rfl rfl rfl ?_; clear hS; intro a hS
      refine s_skip hS (by decide) rfl rfl rfl rfl rfl ?_; clear hS; intro a hS
      refine s_skip hS (by decide) rfl rfl rfl rfl rfl ?_; clear hS; intro a hS
      refine s_valg hS (by decide) rfl rfl rfl rfl rfl (r_pick hS rfl rfl) ?_; clear hS; intro a hS
      refine s_val hS (by decide) rfl rfl (r_pick hS rfl rfl) ?_; clear hS; intro a hS
      refine s_val hS (by decide) rfl rfl (r_assign hS rfl) ?_; clear hS; intro a hS
      refine s_nil ?_
      refine k_seq ?_
      refine c_false hS rfl rfl ?_
      refine c_seq ?_
      refine c_region ?_
      refine s_val hS (by decide) rfl rfl (r_move hS rfl) ?_; clear hS; intro a hS
      refine s_val hS (by decide) rfl rfl (r_move hS rfl) ?_; clear hS; intro a hS
      refine s_valb hS (by decide) rfl rfl (r_bv hS rfl rfl gF (b_gtrF _ _ _)) (fun hc => ?_) (fun hc => ?_)
      · clear hS; intro a hS; have h43 := hc
        refine s_val hS (by decide) rfl rfl (r_move hS rfl) ?_; clear hS; intro a hS
        refine s_skip hS (by decide) rfl rfl rfl rfl rfl ?_; clear hS; intro a hS
        refine s_skip hS (by decide) rfl rfl rfl rfl rfl ?_; clear hS; intro a hS
        refine s_skip hS (by decide) rfl rfl rfl rfl rfl ?_; clear hS; intro a hS
        refine s_skip hS (by decide) rfl rfl rfl rfl rfl ?_; clear hS; intro a hS
        refine s_skipu hS (by decide) rfl rfl rfl rfl rfl ?_; clear hS; intro a hS
        refine s_skipu hS (by decide) rfl rfl rfl rfl rfl ?_; clear hS; intro a hS
        refine s_skipu hS (by decide) rfl rfl rfl rfl rfl ?_; clear hS; intro a hS
        refine s_skip hS (by decide) rfl rfl rfl rfl rfl ?_; clear hS; intro a hS
        refine s_skip hS (by decide) rfl rfl rfl rfl rfl ?_; clear hS; intro a hS
        refine s_skipu hS (by decide) rfl rfl rfl rfl rfl ?_; clear hS; intro a hS
        refine s_skipu hS (by decide) rfl rfl rfl rfl rfl ?_; clear hS; intro a hS
        refine s_skip hS (by decide) rfl rfl rfl rfl rfl ?_; clear hS; intro a hS
        refine s_val hS (by decide) rfl rfl (r_pick hS rfl rfl) ?_; clear hS; intro a hS
        refine s_val hS (by decide) rfl rfl (r_assign hS rfl) ?_; clear hS; intro a hS
        refine s_nil ?_
        refine k_seq ?_
        refine c_true hS rfl rfl ?_
        refine c_seq ?_
        refine c_region ?_
        refine s_val hS (by decide) rfl rfl (r_assign hS (show ev _ _ = some (N 1) from rfl)) ?_; clear hS; intro a hS
        refine s_nil ?_
        refine k_seq ?_
        refine c_ret ?_
        refine k_inr ?_
        refine k_thenr ?_
        exact k_res1 hS rfl (RV.tmp rfl) ⟨(congrArg (fun q => Ending.returned (.int .i64 q)) (by first | exact ord_lt (nk_key hx hy (fo_lt h25).2.2) | exact tie_lt h29 hmx hmy | exact ord_gt (nk_key hy hx (fo_gt h43).2.2) | exact tie_gt h29 hmx hmy | exact tie_eq h29 (hmx.trans hmy.symm) | exact absurd (h29.symm.trans h47) (by decide) | exact (no_tie hx hy h25 h43 h29).elim)), hM.done trivial⟩
      · clear hS; intro a hS; have h43 := hc
        refine s_val hS (by decide) rfl rfl (r_move hS rfl) ?_; clear hS; intro a hS
        refine s_valg hS (by decide) rfl rfl rfl rfl rfl (r_move hS rfl) ?_; clear hS; intro a hS
        refine s_valg hS (by decide) rfl rfl rfl rfl rfl (r_move hS rfl) ?_; clear hS; intro a hS
        refine s_valgb hS (by decide) rfl rfl rfl rfl rfl (r_bv hS rfl rfl gF (b_eqlF _ _ _)) (fun hc => ?_) (fun hc => ?_)
        · clear hS; intro a hS; have h47 := hc
          refine s_valg hS (by decide) rfl rfl rfl rfl rfl (r_move hS rfl) ?_; clear hS; intro a hS
          refine s_valg hS (by decide) rfl rfl rfl rfl rfl (r_move hS rfl) ?_; clear hS; intro a hS
          refine s_pureg hS hM (by decide) rfl rfl rfl rfl (minus_at hmx _) ?_; clear hS hM; intro a w hS hM
          refine s_valg hS (by decide) rfl rfl rfl rfl rfl (r_not hS rfl) ?_; clear hS; intro a hS
          refine s_valg hS (by decide) rfl rfl rfl rfl rfl (r_pick hS rfl rfl) ?_; clear hS; intro a hS
          refine s_valg hS (by decide) rfl rfl rfl rfl rfl (r_move hS rfl) ?_; clear hS; intro a hS
          refine s_skip hS (by decide) rfl rfl rfl rfl rfl ?_; clear hS; intro a hS
          refine s_skip hS (by decide) rfl rfl rfl rfl rfl ?_; clear hS; intro a hS
          refine s_valg hS (by decide) rfl rfl rfl rfl rfl (r_pick hS rfl rfl) ?_; clear hS; intro a hS
          refine s_val hS (by decide) rfl rfl (r_pick hS rfl rfl) ?_; clear hS; intro a hS
          refine s_val hS (by decide) rfl rfl (r_assign hS rfl) ?_; clear hS; intro a hS
          refine s_nil ?_
          refine k_seq ?_
          refine c_false hS rfl rfl ?_
          refine c_skip ?_
          refine k_in ?_
          refine k_seq ?_
          refine c_seq ?_
          refine c_region ?_
          refine s_val hS (by decide) rfl rfl (r_assign hS (show ev _ _ = some (N 0) from rfl)) ?_; clear hS; intro a hS
          refine s_nil ?_
          refine k_seq ?_
          refine c_ret ?_
          exact k_res1 hS rfl (RV.tmp rfl) ⟨(congrArg (fun q => Ending.returned (.int .i64 q)) (by first | exact ord_lt (nk_key hx hy (fo_lt h25).2.2) | exact tie_lt h29 hmx hmy | exact ord_gt (nk_key hy hx (fo_gt h43).2.2) | exact tie_gt h29 hmx hmy | exact tie_eq h29 (hmx.trans hmy.symm) | exact absurd (h29.symm.trans h47) (by decide) | exact (no_tie hx hy h25 h43 h29).elim)), hM.done trivial⟩
        · clear hS; intro a hS; have h47 := hc
          refine s_valg hS (by decide) rfl rfl rfl rfl rfl (r_move hS rfl) ?_; clear hS; intro a hS
          refine s_skip hS (by decide) rfl rfl rfl rfl rfl ?_; clear hS; intro a hS
          refine s_skip hS (by decide) rfl rfl rfl rfl rfl ?_; clear hS; intro a hS
          refine s_skip hS (by decide) rfl rfl rfl rfl rfl ?_; clear hS; intro a hS
          refine s_valg hS (by decide) rfl rfl rfl rfl rfl (r_pick hS rfl rfl) ?_; clear hS; intro a hS
          refine s_valg hS (by decide) rfl rfl rfl rfl rfl (r_move hS rfl) ?_; clear hS; intro a hS
          refine s_skip hS (by decide) rfl rfl rfl rfl rfl ?_; clear hS; intro a hS
          refine s_skip hS (by decide) rfl rfl rfl rfl rfl ?_; clear hS; intro a hS
          refine s_valg hS (by decide) rfl rfl rfl rfl rfl (r_pick hS rfl rfl) ?_; clear hS; intro a hS
          refine s_val hS (by decide) rfl rfl (r_pick hS rfl rfl) ?_; clear hS; intro a hS
          refine s_val hS (by decide) rfl rfl (r_assign hS rfl) ?_; clear hS; intro a hS
          refine s_nil ?_
          refine k_seq ?_
          refine c_false hS rfl rfl ?_
          refine c_skip ?_
          refine k_in ?_
          refine k_seq ?_
          refine c_seq ?_
          refine c_region ?_
          refine s_val hS (by decide) rfl rfl (r_assign hS (show ev _ _ = some (N 0) from rfl)) ?_; clear hS; intro a hS
          refine s_nil ?_
          refine k_seq ?_
          refine c_ret ?_
          exact k_res1 hS rfl (RV.tmp rfl) ⟨(congrArg (fun q => Ending.returned (.int .i64 q)) (by first | exact ord_lt (nk_key hx hy (fo_lt h25).2.2) | exact tie_lt h29 hmx hmy | exact ord_gt (nk_key hy hx (fo_gt h43).2.2) | exact tie_gt h29 hmx hmy | exact tie_eq h29 (hmx.trans hmy.symm) | exact absurd (h29.symm.trans h47) (by decide) | exact (no_tie hx hy h25 h43 h29).elim)), hM.done trivial⟩

set_option maxRecDepth 100000 in
theorem rord_ffmp (w0 : World) (x y : BitVec 64) (hx : nanB x = false) (hy : nanB y = false) (hmx : mn x = true) (hmy : mn y = false) : Pure Tryd.prog 13 #[F x, F y] w0 (.int .i64 (ord x y)) := by
  refine ⟨by kernel_rfl, ?_⟩
  refine calls_sym Tryd.func13 rfl (by kernel_rfl) ?_
  intro a hS
  have hM : Mem w0 w0 [] := Mem.refl w0
  refine c_seq ?_
  refine c_region ?_
  refine s_val hS (by decide) rfl rfl (r_assign hS (show ev _ _ = some (N 0) from rfl)) ?_; clear hS; intro a hS
  refine s_nil ?_
  refine k_seq ?_
  refine c_seq ?_
  refine c_block ?_
  refine c_seq ?_
  refine c_region ?_
  refine s_val hS (by decide) rfl rfl (r_move hS rfl) ?_; clear hS; intro a hS
  refine s_val hS (by decide) rfl rfl (r_move hS rfl) ?_; clear hS; intro a hS
  refine s_val hS (by decide) rfl rfl (r_bv hS rfl rfl gF (b_neqFn _ hx)) ?_; clear hS; intro a hS
  refine s_val hS (by decide) rfl rfl (r_move hS rfl) ?_; clear hS; intro a hS
  refine s_skip hS (by decide) rfl rfl rfl rfl rfl ?_; clear hS; intro a hS
  refine s_skip hS (by decide) rfl rfl rfl rfl rfl ?_; clear hS; intro a hS
  refine s_skip hS (by decide) rfl rfl rfl rfl rfl ?_; clear hS; intro a hS
  refine s_val hS (by decide) rfl rfl (r_pick hS rfl rfl) ?_; clear hS; intro a hS
  refine s_val hS (by decide) rfl rfl (r_assign hS rfl) ?_; clear hS; intro a hS
  refine s_nil ?_
  refine k_seq ?_
  refine c_false hS rfl rfl ?_
  refine c_seq ?_
  refine c_region ?_
  refine s_val hS (by decide) rfl rfl (r_move hS rfl) ?_; clear hS; intro a hS
  refine s_val hS (by decide) rfl rfl (r_move hS rfl) ?_; clear hS; intro a hS
  refine s_val hS (by decide) rfl rfl (r_bv hS rfl rfl gF (b_neqFn _ hx)) ?_; clear hS; intro a hS
  refine s_val hS (by decide) rfl rfl (r_assign hS rfl) ?_; clear hS; intro a hS
  refine s_nil ?_
  refine k_seq ?_
  refine c_false hS rfl rfl ?_
  refine c_seq ?_
  refine c_region ?_
  refine s_val hS (by decide) rfl rfl (r_move hS rfl) ?_; clear hS; intro a hS
  refine s_val hS (by decide) rfl rfl (r_move hS rfl) ?_; clear hS; intro a hS
  refine s_val hS (by decide) rfl rfl (r_bv hS rfl rfl gF (b_neqFn _ hy)) ?_; clear hS; intro a hS
  refine s_val hS (by decide) rfl rfl (r_assign hS rfl) ?_; clear hS; intro a hS
  refine s_nil ?_
  refine k_seq ?_
  refine c_false hS rfl rfl ?_
  refine c_seq ?_
  refine c_region ?_
  refine s_val hS (by decide) rfl rfl (r_move hS rfl) ?_; clear hS; intro a hS
  refine s_val hS (by decide) rfl rfl (r_move hS rfl) ?_; clear hS; intro a hS
  refine s_valb hS (by decide) rfl rfl (r_bv hS rfl rfl gF (b_lssF _ _ _)) (fun hc => ?_) (fun hc => ?_)
  · clear hS; intro a hS; have h25 := hc
    refine s_val hS (by decide) rfl rfl (r_move hS rfl) ?_; clear hS; intro a hS
    refine s_skip hS (by decide) rfl rfl rfl rfl rfl ?_; clear hS; intro a hS
    refine s_skip hS (by decide) rfl rfl rfl rfl rfl ?_; clear hS; intro a hS
    refine s_skip hS (by decide) rfl rfl rfl rfl rfl ?_; clear hS; intro a hS
    refine s_skip hS (by decide) rfl rfl rfl rfl rfl ?_; clear hS; intro a hS
    refine s_skipu hS (by decide) rfl rfl rfl rfl rfl ?_; clear hS; intro a hS
    refine s_skipu hS (by decide) rfl rfl rfl rfl rfl ?_; clear hS; intro a hS
    refine s_skip hS (by decide) rfl rfl rfl rfl rfl ?_; clear hS; intro a hS
    refine s_skip hS (by decide) rfl rfl rfl rfl rfl ?_; clear hS; intro a hS
    refine s_skipu hS (by decide) rfl rfl rfl rfl rfl ?_; clear hS; intro a hS
    refine s_skipu hS (by decide) rfl rfl rfl rfl rfl ?_; clear hS; intro a hS
    refine s_skipu hS (by decide) rfl rfl rfl rfl rfl ?_; clear hS; intro a hS
    refine s_skip hS (by decide) rfl rfl rfl rfl rfl ?_; clear hS; intro a hS
    refine s_val hS (by decide) rfl rfl (r_pick hS rfl rfl) ?_; clear hS; intro a hS
    refine s_val hS (by decide) rfl rfl (r_assign hS rfl) ?_; clear hS; intro a hS
    refine s_nil ?_
    refine k_seq ?_
    refine c_true hS rfl rfl ?_
    refine c_seq ?_
    refine c_region ?_
    refine s_val hS (by decide) rfl rfl (r_assign hS (show ev _ _ = some (.int .i64 (-1)) from rfl)) ?_; clear hS; intro a hS
    refine s_nil ?_
    refine k_seq ?_
    refine c_ret ?_
    refine k_inr ?_
    refine k_thenr ?_
    exact k_res1 hS rfl (RV.tmp rfl) ⟨(congrArg (fun q => Ending.returned (.int .i64 q)) (by first | exact ord_lt (nk_key hx hy (fo_lt h25).2.2) | exact tie_lt h29 hmx hmy | exact ord_gt (nk_key hy hx (fo_gt h43).2.2) | exact tie_gt h29 hmx hmy | exact tie_eq h29 (hmx.trans hmy.symm) | exact absurd (h29.symm.trans h47) (by decide) | exact (no_tie hx hy h25 h43 h29).elim)), hM.done trivial⟩
  · clear hS; intro a hS; have h25 := hc
    refine s_val hS (by decide) rfl rfl (r_move hS rfl) ?_; clear hS; intro a hS
    refine s_valg hS (by decide) rfl rfl rfl rfl rfl (r_move hS rfl) ?_; clear hS; intro a hS
    refine s_valg hS (by decide) rfl rfl rfl rfl rfl (r_move hS rfl) ?_; clear hS; intro a hS
    refine s_valgb hS (by decide) rfl rfl rfl rfl rfl (r_bv hS rfl rfl gF (b_eqlF _ _ _)) (fun hc => ?_) (fun hc => ?_)
    · clear hS; intro a hS; have h29 := hc
      refine s_valg hS (by decide) rfl rfl rfl rfl rfl (r_move hS rfl) ?_; clear hS; intro a hS
      refine s_valg hS (by decide) rfl rfl rfl rfl rfl (r_move hS rfl) ?_; clear hS; intro a hS
      refine s_pureg hS hM (by decide) rfl rfl rfl rfl (minus_at hmx _) ?_; clear hS hM; intro a w hS hM
      refine s_valg hS (by decide) rfl rfl rfl rfl rfl (r_pick hS rfl rfl) ?_; clear hS; intro a hS
      refine s_valg hS (by decide) rfl rfl rfl rfl rfl (r_move hS rfl) ?_; clear hS; intro a hS
      refine s_valg hS (by decide) rfl rfl rfl rfl rfl (r_move hS rfl) ?_; clear hS; intro a hS
      refine s_pureg hS hM (by decide) rfl rfl rfl rfl (minus_at hmy _) ?_; clear hS hM; intro a w hS hM
      refine s_valg hS (by decide) rfl rfl rfl rfl rfl (r_not hS rfl) ?_; clear hS; intro a hS
      refine s_valg hS (by decide) rfl rfl rfl rfl rfl (r_pick hS rfl rfl) ?_; clear hS; intro a hS
      refine s_val hS (by decide) rfl rfl (r_pick hS rfl rfl) ?_; clear hS; intro a hS
      refine s_val hS (by decide) rfl rfl (r_assign hS rfl) ?_; clear hS; intro a hS
      refine s_nil ?_
      refine k_seq ?_
      refine c_true hS rfl rfl ?_
      refine c_seq ?_
      refine c_region ?_
      refine s_val hS (by decide) rfl rfl (r_assign hS (show ev _ _ = some (.int .i64 (-1)) from rfl)) ?_; clear hS; intro a hS
      refine s_nil ?_
      refine k_seq ?_
      refine c_ret ?_
      refine k_inr ?_
      refine k_thenr ?_
      exact k_res1 hS rfl (RV.tmp rfl) ⟨(congrArg (fun q => Ending.returned (.int .i64 q)) (by first | exact ord_lt (nk_key hx hy (fo_lt h25).2.2) | exact tie_lt h29 hmx hmy | exact ord_gt (nk_key hy hx (fo_gt h43).2.2) | exact tie_gt h29 hmx hmy | exact tie_eq h29 (hmx.trans hmy.symm) | exact absurd (h29.symm.trans h47) (by decide) | exact (no_tie hx hy h25 h43 h29).elim)), hM.done trivial⟩
    · clear hS; intro a hS; have h29 := hc
      refine s_valg hS (by decide) rfl rfl rfl rfl rfl (r_move hS rfl) ?_; clear hS; intro a hS
      refine s_skip hS (by decide) rfl rfl rfl rfl rfl ?_; clear hS; intro a hS
      refine s_skip hS (by decide) rfl rfl rfl rfl rfl ?_; clear hS; intro a hS
      refine s_valg hS (by decide) rfl rfl rfl rfl rfl (r_pick hS rfl rfl) ?_; clear hS; intro a hS
      refine s_valg hS (by decide) rfl rfl rfl rfl rfl (r_move hS rfl) ?_; clear hS; intro a hS
      refine s_skip hS (by decide) rfl rfl rfl rfl rfl ?_; clear hS; intro a hS
      refine s_skip hS (by decide) rfl rfl rfl rfl rfl ?_; clear hS; intro a hS
      refine s_skip hS (by decide) rfl rfl rfl rfl rfl ?_; clear hS; intro a hS
      refine s_valg hS (by decide) rfl rfl rfl rfl rfl (r_pick hS rfl rfl) ?_; clear hS; intro a hS
      refine s_val hS (by decide) rfl rfl (r_pick hS rfl rfl) ?_; clear hS; intro a hS
      refine s_val hS (by decide) rfl rfl (r_assign hS rfl) ?_; clear hS; intro a hS
      refine s_nil ?_
      refine k_seq ?_
      refine c_false hS rfl rfl ?_
      refine c_seq ?_
      refine c_region ?_
      refine s_val hS (by decide) rfl rfl (r_move hS rfl) ?_; clear hS; intro a hS
      refine s_val hS (by decide) rfl rfl (r_move hS rfl) ?_; clear hS; intro a hS
      refine s_valb hS (by decide) rfl rfl (r_bv hS rfl rfl gF (b_gtrF _ _ _)) (fun hc => ?_) (fun hc => ?_)
      · clear hS; intro a hS; have h43 := hc
        refine s_val hS (by decide) rfl rfl (r_move hS rfl) ?_; clear hS; intro a hS
        refine s_skip hS (by decide) rfl rfl rfl rfl rfl ?_; clear hS; intro a hS
        refine s_skip hS (by decide) rfl rfl rfl rfl rfl ?_; clear hS; intro a hS
        refine s_skip hS (by decide) rfl rfl rfl rfl rfl ?_; clear hS; intro a hS
        refine s_skip hS (by decide) rfl rfl rfl rfl rfl ?_; clear hS; intro a hS
        refine s_skipu hS (by decide) rfl rfl rfl rfl rfl ?_; clear hS; intro a hS
        refine s_skipu hS (by decide) rfl rfl rfl rfl rfl ?_; clear hS; intro a hS
        refine s_skipu hS (by decide) rfl rfl rfl rfl rfl ?_; clear hS; intro a hS
        refine s_skip hS (by decide) rfl rfl rfl rfl rfl ?_; clear hS; intro a hS
        refine s_skip hS (by decide) rfl rfl rfl rfl rfl ?_; clear hS; intro a hS
        refine s_skipu hS (by decide) rfl rfl rfl rfl rfl ?_; clear hS; intro a hS
        refine s_skipu hS (by decide) rfl rfl rfl rfl rfl ?_; clear hS; intro a hS
        refine s_skip hS (by decide) rfl rfl rfl rfl rfl ?_; clear hS; intro a hS
        refine s_val hS (by decide) rfl rfl (r_pick hS rfl rfl) ?_; clear hS; intro a hS
        refine s_val hS (by decide) rfl rfl (r_assign hS rfl) ?_; clear hS; intro a hS
        refine s_nil ?_
        refine k_seq ?_
        refine c_true hS rfl rfl ?_
        refine c_seq ?_
        refine c_region ?_
        refine s_val hS (by decide) rfl rfl (r_assign hS (show ev _ _ = some (N 1) from rfl)) ?_; clear hS; intro a hS
        refine s_nil ?_
        refine k_seq ?_
        refine c_ret ?_
        refine k_inr ?_
        refine k_thenr ?_
        exact k_res1 hS rfl (RV.tmp rfl) ⟨(congrArg (fun q => Ending.returned (.int .i64 q)) (by first | exact ord_lt (nk_key hx hy (fo_lt h25).2.2) | exact tie_lt h29 hmx hmy | exact ord_gt (nk_key hy hx (fo_gt h43).2.2) | exact tie_gt h29 hmx hmy | exact tie_eq h29 (hmx.trans hmy.symm) | exact absurd (h29.symm.trans h47) (by decide) | exact (no_tie hx hy h25 h43 h29).elim)), hM.done trivial⟩
      · clear hS; intro a hS; have h43 := hc
        refine s_val hS (by decide) rfl rfl (r_move hS rfl) ?_; clear hS; intro a hS
        refine s_valg hS (by decide) rfl rfl rfl rfl rfl (r_move hS rfl) ?_; clear hS; intro a hS
        refine s_valg hS (by decide) rfl rfl rfl rfl rfl (r_move hS rfl) ?_; clear hS; intro a hS
        refine s_valgb hS (by decide) rfl rfl rfl rfl rfl (r_bv hS rfl rfl gF (b_eqlF _ _ _)) (fun hc => ?_) (fun hc => ?_)
        · clear hS; intro a hS; have h47 := hc
          refine s_valg hS (by decide) rfl rfl rfl rfl rfl (r_move hS rfl) ?_; clear hS; intro a hS
          refine s_valg hS (by decide) rfl rfl rfl rfl rfl (r_move hS rfl) ?_; clear hS; intro a hS
          refine s_pureg hS hM (by decide) rfl rfl rfl rfl (minus_at hmx _) ?_; clear hS hM; intro a w hS hM
          refine s_valg hS (by decide) rfl rfl rfl rfl rfl (r_not hS rfl) ?_; clear hS; intro a hS
          refine s_valg hS (by decide) rfl rfl rfl rfl rfl (r_pick hS rfl rfl) ?_; clear hS; intro a hS
          refine s_valg hS (by decide) rfl rfl rfl rfl rfl (r_move hS rfl) ?_; clear hS; intro a hS
          refine s_skip hS (by decide) rfl rfl rfl rfl rfl ?_; clear hS; intro a hS
          refine s_skip hS (by decide) rfl rfl rfl rfl rfl ?_; clear hS; intro a hS
          refine s_valg hS (by decide) rfl rfl rfl rfl rfl (r_pick hS rfl rfl) ?_; clear hS; intro a hS
          refine s_val hS (by decide) rfl rfl (r_pick hS rfl rfl) ?_; clear hS; intro a hS
          refine s_val hS (by decide) rfl rfl (r_assign hS rfl) ?_; clear hS; intro a hS
          refine s_nil ?_
          refine k_seq ?_
          refine c_false hS rfl rfl ?_
          refine c_skip ?_
          refine k_in ?_
          refine k_seq ?_
          refine c_seq ?_
          refine c_region ?_
          refine s_val hS (by decide) rfl rfl (r_assign hS (show ev _ _ = some (N 0) from rfl)) ?_; clear hS; intro a hS
          refine s_nil ?_
          refine k_seq ?_
          refine c_ret ?_
          exact k_res1 hS rfl (RV.tmp rfl) ⟨(congrArg (fun q => Ending.returned (.int .i64 q)) (by first | exact ord_lt (nk_key hx hy (fo_lt h25).2.2) | exact tie_lt h29 hmx hmy | exact ord_gt (nk_key hy hx (fo_gt h43).2.2) | exact tie_gt h29 hmx hmy | exact tie_eq h29 (hmx.trans hmy.symm) | exact absurd (h29.symm.trans h47) (by decide) | exact (no_tie hx hy h25 h43 h29).elim)), hM.done trivial⟩
        · clear hS; intro a hS; have h47 := hc
          refine s_valg hS (by decide) rfl rfl rfl rfl rfl (r_move hS rfl) ?_; clear hS; intro a hS
          refine s_skip hS (by decide) rfl rfl rfl rfl rfl ?_; clear hS; intro a hS
          refine s_skip hS (by decide) rfl rfl rfl rfl rfl ?_; clear hS; intro a hS
          refine s_skip hS (by decide) rfl rfl rfl rfl rfl ?_; clear hS; intro a hS
          refine s_valg hS (by decide) rfl rfl rfl rfl rfl (r_pick hS rfl rfl) ?_; clear hS; intro a hS
          refine s_valg hS (by decide) rfl rfl rfl rfl rfl (r_move hS rfl) ?_; clear hS; intro a hS
          refine s_skip hS (by decide) rfl rfl rfl rfl rfl ?_; clear hS; intro a hS
          refine s_skip hS (by decide) rfl rfl rfl rfl rfl ?_; clear hS; intro a hS
          refine s_valg hS (by decide) rfl rfl rfl rfl rfl (r_pick hS rfl rfl) ?_; clear hS; intro a hS
          refine s_val hS (by decide) rfl rfl (r_pick hS rfl rfl) ?_; clear hS; intro a hS
          refine s_val hS (by decide) rfl rfl (r_assign hS rfl) ?_; clear hS; intro a hS
          refine s_nil ?_
          refine k_seq ?_
          refine c_false hS rfl rfl ?_
          refine c_skip ?_
          refine k_in ?_
          refine k_seq ?_
          refine c_seq ?_
          refine c_region ?_
          refine s_val hS (by decide) rfl rfl (r_assign hS (show ev _ _ = some (N 0) from rfl)) ?_; clear hS; intro a hS
          refine s_nil ?_
          refine k_seq ?_
          refine c_ret ?_
          exact k_res1 hS rfl (RV.tmp rfl) ⟨(congrArg (fun q => Ending.returned (.int .i64 q)) (by first | exact ord_lt (nk_key hx hy (fo_lt h25).2.2) | exact tie_lt h29 hmx hmy | exact ord_gt (nk_key hy hx (fo_gt h43).2.2) | exact tie_gt h29 hmx hmy | exact tie_eq h29 (hmx.trans hmy.symm) | exact absurd (h29.symm.trans h47) (by decide) | exact (no_tie hx hy h25 h43 h29).elim)), hM.done trivial⟩

set_option maxRecDepth 100000 in
theorem rord_ffpm (w0 : World) (x y : BitVec 64) (hx : nanB x = false) (hy : nanB y = false) (hmx : mn x = false) (hmy : mn y = true) : Pure Tryd.prog 13 #[F x, F y] w0 (.int .i64 (ord x y)) := by
  refine ⟨by kernel_rfl, ?_⟩
  refine calls_sym Tryd.func13 rfl (by kernel_rfl) ?_
  intro a hS
  have hM : Mem w0 w0 [] := Mem.refl w0
  refine c_seq ?_
  refine c_region ?_
  refine s_val hS (by decide) rfl rfl (r_assign hS (show ev _ _ = some (N 0) from rfl)) ?_; clear hS; intro a hS
  refine s_nil ?_
  refine k_seq ?_
  refine c_seq ?_
  refine c_block ?_
  refine c_seq ?_
  refine c_region ?_
  refine s_val hS (by decide) rfl rfl (r_move hS rfl) ?_; clear hS; intro a hS
  refine s_val hS (by decide) rfl rfl (r_move hS rfl) ?_; clear hS; intro a hS
  refine s_val hS (by decide) rfl rfl (r_bv hS rfl rfl gF (b_neqFn _ hx)) ?_; clear hS; intro a hS
  refine s_val hS (by decide) rfl rfl (r_move hS rfl) ?_; clear hS; intro a hS
  refine s_skip hS (by decide) rfl rfl rfl rfl rfl ?_; clear hS; intro a hS
  refine s_skip hS (by decide) rfl rfl rfl rfl rfl ?_; clear hS; intro a hS
  refine s_skip hS (by decide) rfl rfl rfl rfl rfl ?_; clear hS; intro a hS
  refine s_val hS (by decide) rfl rfl (r_pick hS rfl rfl) ?_; clear hS; intro a hS
  refine s_val hS (by decide) rfl rfl (r_assign hS rfl) ?_; clear hS; intro a hS
  refine s_nil ?_
  refine k_seq ?_
  refine c_false hS rfl rfl ?_
  refine c_seq ?_
  refine c_region ?_
  refine s_val hS (by decide) rfl rfl (r_move hS rfl) ?_; clear hS; intro a hS
  refine s_val hS (by decide) rfl rfl (r_move hS rfl) ?_; clear hS; intro a hS
  refine s_val hS (by decide) rfl rfl (r_bv hS rfl rfl gF (b_neqFn _ hx)) ?_; clear hS; intro a hS
  refine s_val hS (by decide) rfl rfl (r_assign hS rfl) ?_; clear hS; intro a hS
  refine s_nil ?_
  refine k_seq ?_
  refine c_false hS rfl rfl ?_
  refine c_seq ?_
  refine c_region ?_
  refine s_val hS (by decide) rfl rfl (r_move hS rfl) ?_; clear hS; intro a hS
  refine s_val hS (by decide) rfl rfl (r_move hS rfl) ?_; clear hS; intro a hS
  refine s_val hS (by decide) rfl rfl (r_bv hS rfl rfl gF (b_neqFn _ hy)) ?_; clear hS; intro a hS
  refine s_val hS (by decide) rfl rfl (r_assign hS rfl) ?_; clear hS; intro a hS
  refine s_nil ?_
  refine k_seq ?_
  refine c_false hS rfl rfl ?_
  refine c_seq ?_
  refine c_region ?_
  refine s_val hS (by decide) rfl rfl (r_move hS rfl) ?_; clear hS; intro a hS
  refine s_val hS (by decide) rfl rfl (r_move hS rfl) ?_; clear hS; intro a hS
  refine s_valb hS (by decide) rfl rfl (r_bv hS rfl rfl gF (b_lssF _ _ _)) (fun hc => ?_) (fun hc => ?_)
  · clear hS; intro a hS; have h25 := hc
    refine s_val hS (by decide) rfl rfl (r_move hS rfl) ?_; clear hS; intro a hS
    refine s_skip hS (by decide) rfl rfl rfl rfl rfl ?_; clear hS; intro a hS
    refine s_skip hS (by decide) rfl rfl rfl rfl rfl ?_; clear hS; intro a hS
    refine s_skip hS (by decide) rfl rfl rfl rfl rfl ?_; clear hS; intro a hS
    refine s_skip hS (by decide) rfl rfl rfl rfl rfl ?_; clear hS; intro a hS
    refine s_skipu hS (by decide) rfl rfl rfl rfl rfl ?_; clear hS; intro a hS
    refine s_skipu hS (by decide) rfl rfl rfl rfl rfl ?_; clear hS; intro a hS
    refine s_skip hS (by decide) rfl rfl rfl rfl rfl ?_; clear hS; intro a hS
    refine s_skip hS (by decide) rfl rfl rfl rfl rfl ?_; clear hS; intro a hS
    refine s_skipu hS (by decide) rfl rfl rfl rfl rfl ?_; clear hS; intro a hS
    refine s_skipu hS (by decide) rfl rfl rfl rfl rfl ?_; clear hS; intro a hS
    refine s_skipu hS (by decide) rfl rfl rfl rfl rfl ?_; clear hS; intro a hS
    refine s_skip hS (by decide) rfl rfl rfl rfl rfl ?_; clear hS; intro a hS
    refine s_val hS (by decide) rfl rfl (r_pick hS rfl rfl) ?_; clear hS; intro a hS
    refine s_val hS (by decide) rfl rfl (r_assign hS rfl) ?_; clear hS; intro a hS
    refine s_nil ?_
    refine k_seq ?_
    refine c_true hS rfl rfl ?_
    refine c_seq ?_
    refine c_region ?_
    refine s_val hS (by decide) rfl rfl (r_assign hS (show ev _ _ = some (.int .i64 (-1)) from rfl)) ?_; clear hS; intro a hS
    refine s_nil ?_
    refine k_seq ?_
    refine c_ret ?_
    refine k_inr ?_
    refine k_thenr ?_
    exact k_res1 hS rfl (RV.tmp rfl) ⟨(congrArg (fun q => Ending.returned (.int .i64 q)) (by first | exact ord_lt (nk_key hx hy (fo_lt h25).2.2) | exact tie_lt h29 hmx hmy | exact ord_gt (nk_key hy hx (fo_gt h43).2.2) | exact tie_gt h29 hmx hmy | exact tie_eq h29 (hmx.trans hmy.symm) | exact absurd (h29.symm.trans h47) (by decide) | exact (no_tie hx hy h25 h43 h29).elim)), hM.done trivial⟩
  · clear hS; intro a hS; have h25 := hc
    refine s_val hS (by decide) rfl rfl (r_move hS rfl) ?_; clear hS; intro a hS
    refine s_valg hS (by decide) rfl rfl rfl rfl rfl (r_move hS rfl) ?_; clear hS; intro a hS
    refine s_valg hS (by decide) rfl rfl rfl rfl rfl (r_move hS rfl) ?_; clear hS; intro a hS
    refine s_valgb hS (by decide) rfl rfl rfl rfl rfl (r_bv hS rfl rfl gF (b_eqlF _ _ _)) (fun hc => ?_) (fun hc => ?_)
    · clear hS; intro a hS; have h29 := hc
      refine s_valg hS (by decide) rfl rfl rfl rfl rfl (r_move hS rfl) ?_; clear hS; intro a hS
      refine s_valg hS (by decide) rfl rfl rfl rfl rfl (r_move hS rfl) ?_; clear hS; intro a hS
      refine s_pureg hS hM (by decide) rfl rfl rfl rfl (minus_at hmx _) ?_; clear hS hM; intro a w hS hM
      refine s_valg hS (by decide) rfl rfl rfl rfl rfl (r_pick hS rfl rfl) ?_; clear hS; intro a hS
      refine s_valg hS (by decide) rfl rfl rfl rfl rfl (r_move hS rfl) ?_; clear hS; intro a hS
      refine s_skip hS (by decide) rfl rfl rfl rfl rfl ?_; clear hS; intro a hS
      refine s_skip hS (by decide) rfl rfl rfl rfl rfl ?_; clear hS; intro a hS
      refine s_skip hS (by decide) rfl rfl rfl rfl rfl ?_; clear hS; intro a hS
      refine s_valg hS (by decide) rfl rfl rfl rfl rfl (r_pick hS rfl rfl) ?_; clear hS; intro a hS
      refine s_val hS (by decide) rfl rfl (r_pick hS rfl rfl) ?_; clear hS; intro a hS
      refine s_val hS (by decide) rfl rfl (r_assign hS rfl) ?_; clear hS; intro a hS
      refine s_nil ?_
      refine k_seq ?_
      refine c_false hS rfl rfl ?_
      refine c_seq ?_
      refine c_region ?_
      refine s_val hS (by decide) rfl rfl (r_move hS rfl) ?_; clear hS; intro a hS
      refine s_val hS (by decide) rfl rfl (r_move hS rfl) ?_; clear hS; intro a hS
      refine s_valb hS (by decide) rfl rfl (r_bv hS rfl rfl gF (b_gtrF _ _ _)) (fun hc => ?_) (fun hc => ?_)
      · clear hS; intro a hS; have h43 := hc
        refine s_val hS (by decide) rfl rfl (r_move hS rfl) ?_; clear hS; intro a hS
        refine s_skip hS (by decide) rfl rfl rfl rfl rfl ?_; clear hS; intro a hS
        refine s_skip hS (by decide) rfl rfl rfl rfl rfl ?_; clear hS; intro a hS
        refine s_skip hS (by decide) rfl rfl rfl rfl rfl ?_; clear hS; intro a hS
        refine s_skip hS (by decide) rfl rfl rfl rfl rfl ?_; clear hS; intro a hS
        refine s_skipu hS (by decide) rfl rfl rfl rfl rfl ?_; clear hS; intro a hS
        refine s_skipu hS (by decide) rfl rfl rfl rfl rfl ?_; clear hS; intro a hS
        refine s_skipu hS (by decide) rfl rfl rfl rfl rfl ?_; clear hS; intro a hS
        refine s_skip hS (by decide) rfl rfl rfl rfl rfl ?_; clear hS; intro a hS
        refine s_skip hS (by decide) rfl rfl rfl rfl rfl ?_; clear hS; intro a hS
        refine s_skipu hS (by decide) rfl rfl rfl rfl rfl ?_; clear hS; intro a hS
        refine s_skipu hS (by decide) rfl rfl rfl rfl rfl ?_; clear hS; intro a hS
        refine s_skip hS (by decide) rfl rfl rfl rfl rfl ?_; clear hS; intro a hS
        refine s_val hS (by decide) rfl rfl (r_pick hS rfl rfl) ?_; clear hS; intro a hS
        refine s_val hS (by decide) rfl rfl (r_assign hS rfl) ?_; clear hS; intro a hS
        refine s_nil ?_
        refine k_seq ?_
        refine c_true hS rfl rfl ?_
        refine c_seq ?_
        refine c_region ?_
        refine s_val hS (by decide) rfl rfl (r_assign hS (show ev _ _ = some (N 1) from rfl)) ?_; clear hS; intro a hS
        refine s_nil ?_
        refine k_seq ?_
        refine c_ret ?_
        refine k_inr ?_
        refine k_thenr ?_
        exact k_res1 hS rfl (RV.tmp rfl) ⟨(congrArg (fun q => Ending.returned (.int .i64 q)) (by first | exact ord_lt (nk_key hx hy (fo_lt h25).2.2) | exact tie_lt h29 hmx hmy | exact ord_gt (nk_key hy hx (fo_gt h43).2.2) | exact tie_gt h29 hmx hmy | exact tie_eq h29 (hmx.trans hmy.symm) | exact absurd (h29.symm.trans h47) (by decide) | exact (no_tie hx hy h25 h43 h29).elim)), hM.done trivial⟩
      · clear hS; intro a hS; have h43 := hc
        refine s_val hS (by decide) rfl rfl (r_move hS rfl) ?_; clear hS; intro a hS
        refine s_valg hS (by decide) rfl rfl rfl rfl rfl (r_move hS rfl) ?_; clear hS; intro a hS
        refine s_valg hS (by decide) rfl rfl rfl rfl rfl (r_move hS rfl) ?_; clear hS; intro a hS
        refine s_valgb hS (by decide) rfl rfl rfl rfl rfl (r_bv hS rfl rfl gF (b_eqlF _ _ _)) (fun hc => ?_) (fun hc => ?_)
        · clear hS; intro a hS; have h47 := hc
          refine s_valg hS (by decide) rfl rfl rfl rfl rfl (r_move hS rfl) ?_; clear hS; intro a hS
          refine s_valg hS (by decide) rfl rfl rfl rfl rfl (r_move hS rfl) ?_; clear hS; intro a hS
          refine s_pureg hS hM (by decide) rfl rfl rfl rfl (minus_at hmx _) ?_; clear hS hM; intro a w hS hM
          refine s_valg hS (by decide) rfl rfl rfl rfl rfl (r_not hS rfl) ?_; clear hS; intro a hS
          refine s_valg hS (by decide) rfl rfl rfl rfl rfl (r_pick hS rfl rfl) ?_; clear hS; intro a hS
          refine s_valg hS (by decide) rfl rfl rfl rfl rfl (r_move hS rfl) ?_; clear hS; intro a hS
          refine s_valg hS (by decide) rfl rfl rfl rfl rfl (r_move hS rfl) ?_; clear hS; intro a hS
          refine s_pureg hS hM (by decide) rfl rfl rfl rfl (minus_at hmy _) ?_; clear hS hM; intro a w hS hM
          refine s_valg hS (by decide) rfl rfl rfl rfl rfl (r_pick hS rfl rfl) ?_; clear hS; intro a hS
          refine s_val hS (by decide) rfl rfl (r_pick hS rfl rfl) ?_; clear hS; intro a hS
          refine s_val hS (by decide) rfl rfl (r_assign hS rfl) ?_; clear hS; intro a hS
          refine s_nil ?_
          refine k_seq ?_
          refine c_true hS rfl rfl ?_
          refine c_seq ?_
          refine c_region ?_
          refine s_val hS (by decide) rfl rfl (r_assign hS (show ev _ _ = some (N 1) from rfl)) ?_; clear hS; intro a hS
          refine s_nil ?_
          refine k_seq ?_
          refine c_ret ?_
          refine k_inr ?_
          refine k_thenr ?_
          exact k_res1 hS rfl (RV.tmp rfl) ⟨(congrArg (fun q => Ending.returned (.int .i64 q)) (by first | exact ord_lt (nk_key hx hy (fo_lt h25).2.2) | exact tie_lt h29 hmx hmy | exact ord_gt (nk_key hy hx (fo_gt h43).2.2) | exact tie_gt h29 hmx hmy | exact tie_eq h29 (hmx.trans hmy.symm) | exact absurd (h29.symm.trans h47) (by decide) | exact (no_tie hx hy h25 h43 h29).elim)), hM.done trivial⟩
        · clear hS; intro a hS; have h47 := hc
          refine s_valg hS (by decide) rfl rfl rfl rfl rfl (r_move hS rfl) ?_; clear hS; intro a hS
          refine s_skip hS (by decide) rfl rfl rfl rfl rfl ?_; clear hS; intro a hS
          refine s_skip hS (by decide) rfl rfl rfl rfl rfl ?_; clear hS; intro a hS
          refine s_skip hS (by decide) rfl rfl rfl rfl rfl ?_; clear hS; intro a hS
          refine s_valg hS (by decide) rfl rfl rfl rfl rfl (r_pick hS rfl rfl) ?_; clear hS; intro a hS
          refine s_valg hS (by decide) rfl rfl rfl rfl rfl (r_move hS rfl) ?_; clear hS; intro a hS
          refine s_skip hS (by decide) rfl rfl rfl rfl rfl ?_; clear hS; intro a hS
          refine s_skip hS (by decide) rfl rfl rfl rfl rfl ?_; clear hS; intro a hS
          refine s_valg hS (by decide) rfl rfl rfl rfl rfl (r_pick hS rfl rfl) ?_; clear hS; intro a hS
          refine s_val hS (by decide) rfl rfl (r_pick hS rfl rfl) ?_; clear hS; intro a hS
          refine s_val hS (by decide) rfl rfl (r_assign hS rfl) ?_; clear hS; intro a hS
          refine s_nil ?_
          refine k_seq ?_
          refine c_false hS rfl rfl ?_
          refine c_skip ?_
          refine k_in ?_
          refine k_seq ?_
          refine c_seq ?_
          refine c_region ?_
          refine s_val hS (by decide) rfl rfl (r_assign hS (show ev _ _ = some (N 0) from rfl)) ?_; clear hS; intro a hS
          refine s_nil ?_
          refine k_seq ?_
          refine c_ret ?_
          exact k_res1 hS rfl (RV.tmp rfl) ⟨(congrArg (fun q => Ending.returned (.int .i64 q)) (by first | exact ord_lt (nk_key hx hy (fo_lt h25).2.2) | exact tie_lt h29 hmx hmy | exact ord_gt (nk_key hy hx (fo_gt h43).2.2) | exact tie_gt h29 hmx hmy | exact tie_eq h29 (hmx.trans hmy.symm) | exact absurd (h29.symm.trans h47) (by decide) | exact (no_tie hx hy h25 h43 h29).elim)), hM.done trivial⟩
    · clear hS; intro a hS; have h29 := hc
      refine s_valg hS (by decide) rfl rfl rfl rfl rfl (r_move hS rfl) ?_; clear hS; intro a hS
      refine s_skip hS (by decide) rfl rfl rfl rfl rfl ?_; clear hS; intro a hS
      refine s_skip hS (by decide) rfl rfl rfl rfl rfl ?_; clear hS; intro a hS
      refine s_valg hS (by decide) rfl rfl rfl rfl rfl (r_pick hS rfl rfl) ?_; clear hS; intro a hS
      refine s_valg hS (by decide) rfl rfl rfl rfl rfl (r_move hS rfl) ?_; clear hS; intro a hS
      refine s_skip hS (by decide) rfl rfl rfl rfl rfl ?_; clear hS; intro a hS
      refine s_skip hS (by decide) rfl rfl rfl rfl rfl ?_; clear hS; intro a hS
      refine s_skip hS (by decide) rfl rfl rfl rfl rfl ?_; clear hS; intro a hS
      refine s_valg hS (by decide) rfl rfl rfl rfl rfl (r_pick hS rfl rfl) ?_; clear hS; intro a hS
      refine s_val hS (by decide) rfl rfl (r_pick hS rfl rfl) ?_; clear hS; intro a hS
      refine s_val hS (by decide) rfl rfl (r_assign hS rfl) ?_; clear hS; intro a hS
      refine s_nil ?_
      refine k_seq ?_
      refine c_false hS rfl rfl ?_
      refine c_seq ?_
      refine c_region ?_
      refine s_val hS (by decide) rfl rfl (r_move hS rfl) ?_; clear hS; intro a hS
      refine s_val hS (by decide) rfl rfl (r_move hS rfl) ?_; clear hS; intro a hS
      refine s_valb hS (by decide) rfl rfl (r_bv hS rfl rfl gF (b_gtrF _ _ _)) (fun hc => ?_) (fun hc => ?_)
      · clear hS; intro a hS; have h43 := hc
        refine s_val hS (by decide) rfl rfl (r_move hS rfl) ?_; clear hS; intro a hS
        refine s_skip hS (by decide) rfl rfl rfl rfl rfl ?_; clear hS; intro a hS
        refine s_skip hS (by decide) rfl rfl rfl rfl rfl ?_; clear hS; intro a hS
        refine s_skip hS (by decide) rfl rfl rfl rfl rfl ?_; clear hS; intro a hS
        refine s_skip hS (by decide) rfl rfl rfl rfl rfl ?_; clear hS; intro a hS
        refine s_skipu hS (by decide) rfl rfl rfl rfl rfl ?_; clear hS; intro a hS
        refine s_skipu hS (by decide) rfl rfl rfl rfl rfl ?_; clear hS; intro a hS
        refine s_skipu hS (by decide) rfl rfl rfl rfl rfl ?_; clear hS; intro a hS
        refine s_skip hS (by decide) rfl rfl rfl rfl rfl ?_; clear hS; intro a hS
        refine s_skip hS (by decide) rfl rfl rfl rfl rfl ?_; clear hS; intro a hS
        refine s_skipu hS (by decide) rfl rfl rfl rfl rfl ?_; clear hS; intro a hS
        refine s_skipu hS (by decide) rfl rfl rfl rfl rfl ?_; clear hS; intro a hS
        refine s_skip hS (by decide) rfl rfl rfl rfl rfl ?_; clear hS; intro a hS
        refine s_val hS (by decide) rfl rfl (r_pick hS rfl rfl) ?_; clear hS; intro a hS
        refine s_val hS (by decide) rfl rfl (r_assign hS rfl) ?_; clear hS; intro a hS
        refine s_nil ?_
        refine k_seq ?_
        refine c_true hS rfl rfl ?_
        refine c_seq ?_
        refine c_region ?_
        refine s_val hS (by decide) rfl rfl (r_assign hS (show ev _ _ = some (N 1) from rfl)) ?_; clear hS; intro a hS
        refine s_nil ?_
        refine k_seq ?_
        refine c_ret ?_
        refine k_inr ?_
        refine k_thenr ?_
        exact k_res1 hS rfl (RV.tmp rfl) ⟨(congrArg (fun q => Ending.returned (.int .i64 q)) (by first | exact ord_lt (nk_key hx hy (fo_lt h25).2.2) | exact tie_lt h29 hmx hmy | exact ord_gt (nk_key hy hx (fo_gt h43).2.2) | exact tie_gt h29 hmx hmy | exact tie_eq h29 (hmx.trans hmy.symm) | exact absurd (h29.symm.trans h47) (by decide) | exact (no_tie hx hy h25 h43 h29).elim)), hM.done trivial⟩
      · clear hS; intro a hS; have h43 := hc
        refine s_val hS (by decide) rfl rfl (r_move hS rfl) ?_; clear hS; intro a hS
        refine s_valg hS (by decide) rfl rfl rfl rfl rfl (r_move hS rfl) ?_; clear hS; intro a hS
        refine s_valg hS (by decide) rfl rfl rfl rfl rfl (r_move hS rfl) ?_; clear hS; intro a hS
        refine s_valgb hS (by decide) rfl rfl rfl rfl rfl (r_bv hS rfl rfl gF (b_eqlF _ _ _)) (fun hc => ?_) (fun hc => ?_)
        · clear hS; intro a hS; have h47 := hc
          refine s_valg hS (by decide) rfl rfl rfl rfl rfl (r_move hS rfl) ?_; clear hS; intro a hS
          refine s_valg hS (by decide) rfl rfl rfl rfl rfl (r_move hS rfl) ?_; clear hS; intro a hS
          refine s_pureg hS hM (by decide) rfl rfl rfl rfl (minus_at hmx _) ?_; clear hS hM; intro a w hS hM
          refine s_valg hS (by decide) rfl rfl rfl rfl rfl (r_not hS rfl) ?_; clear hS; intro a hS
          refine s_valg hS (by decide) rfl rfl rfl rfl rfl (r_pick hS rfl rfl) ?_; clear hS; intro a hS
          refine s_valg hS (by decide) rfl rfl rfl rfl rfl (r_move hS rfl) ?_; clear hS; intro a hS
          refine s_valg hS (by decide) rfl rfl rfl rfl rfl (r_move hS rfl) ?_; clear hS; intro a hS
          refine s_pureg hS hM (by decide) rfl rfl rfl rfl (minus_at hmy _) ?_; clear hS hM; intro a w hS hM
          refine s_valg hS (by decide) rfl rfl rfl rfl rfl (r_pick hS rfl rfl) ?_; clear hS; intro a hS
          refine s_val hS (by decide) rfl rfl (r_pick hS rfl rfl) ?_; clear hS; intro a hS
          refine s_val hS (by decide) rfl rfl (r_assign hS rfl) ?_; clear hS; intro a hS
          refine s_nil ?_
          refine k_seq ?_
          refine c_true hS rfl rfl ?_
          refine c_seq ?_
          refine c_region ?_
          refine s_val hS (by decide) rfl rfl (r_assign hS (show ev _ _ = some (N 1) from rfl)) ?_; clear hS; intro a hS
          refine s_nil ?_
          refine k_seq ?_
          refine c_ret ?_
          refine k_inr ?_
          refine k_thenr ?_
          exact k_res1 hS rfl (RV.tmp rfl) ⟨(congrArg (fun q => Ending.returned (.int .i64 q)) (by first | exact ord_lt (nk_key hx hy (fo_lt h25).2.2) | exact tie_lt h29 hmx hmy | exact ord_gt (nk_key hy hx (fo_gt h43).2.2) | exact tie_gt h29 hmx hmy | exact tie_eq h29 (hmx.trans hmy.symm) | exact absurd (h29.symm.trans h47) (by decide) | exact (no_tie hx hy h25 h43 h29).elim)), hM.done trivial⟩
        · clear hS; intro a hS; have h47 := hc
          refine s_valg hS (by decide) rfl rfl rfl rfl rfl (r_move hS rfl) ?_; clear hS; intro a hS
          refine s_skip hS (by decide) rfl rfl rfl rfl rfl ?_; clear hS; intro a hS
          refine s_skip hS (by decide) rfl rfl rfl rfl rfl ?_; clear hS; intro a hS
          refine s_skip hS (by decide) rfl rfl rfl rfl rfl ?_; clear hS; intro a hS
          refine s_valg hS (by decide) rfl rfl rfl rfl rfl (r_pick hS rfl rfl) ?_; clear hS; intro a hS
          refine s_valg hS (by decide) rfl rfl rfl rfl rfl (r_move hS rfl) ?_; clear hS; intro a hS
          refine s_skip hS (by decide) rfl rfl rfl rfl rfl ?_; clear hS; intro a hS
          refine s_skip hS (by decide) rfl rfl rfl rfl rfl ?_; clear hS; intro a hS
          refine s_valg hS (by decide) rfl rfl rfl rfl rfl (r_pick hS rfl rfl) ?_; clear hS; intro a hS
          refine s_val hS (by decide) rfl rfl (r_pick hS rfl rfl) ?_; clear hS; intro a hS
          refine s_val hS (by decide) rfl rfl (r_assign hS rfl) ?_; clear hS; intro a hS
          refine s_nil ?_
          refine k_seq ?_
          refine c_false hS rfl rfl ?_
          refine c_skip ?_
          refine k_in ?_
          refine k_seq ?_
          refine c_seq ?_
          refine c_region ?_
          refine s_val hS (by decide) rfl rfl (r_assign hS (show ev _ _ = some (N 0) from rfl)) ?_; clear hS; intro a hS
          refine s_nil ?_
          refine k_seq ?_
          refine c_ret ?_
          exact k_res1 hS rfl (RV.tmp rfl) ⟨(congrArg (fun q => Ending.returned (.int .i64 q)) (by first | exact ord_lt (nk_key hx hy (fo_lt h25).2.2) | exact tie_lt h29 hmx hmy | exact ord_gt (nk_key hy hx (fo_gt h43).2.2) | exact tie_gt h29 hmx hmy | exact tie_eq h29 (hmx.trans hmy.symm) | exact absurd (h29.symm.trans h47) (by decide) | exact (no_tie hx hy h25 h43 h29).elim)), hM.done trivial⟩

set_option maxRecDepth 100000 in
theorem rord_ffpp (w0 : World) (x y : BitVec 64) (hx : nanB x = false) (hy : nanB y = false) (hmx : mn x = false) (hmy : mn y = false) : Pure Tryd.prog 13 #[F x, F y] w0 (.int .i64 (ord x y)) := by
  refine ⟨by kernel_rfl, ?_⟩
  refine calls_sym Tryd.func13 rfl (by kernel_rfl) ?_
  intro a hS
  have hM : Mem w0 w0 [] := Mem.refl w0
  refine c_seq ?_
  refine c_region ?_
  refine s_val hS (by decide) rfl rfl (r_assign hS (show ev _ _ = some (N 0) from rfl)) ?_; clear hS; intro a hS
  refine s_nil ?_
  refine k_seq ?_
  refine c_seq ?_
  refine c_block ?_
  refine c_seq ?_
  refine c_region ?_
  refine s_val hS (by decide) rfl rfl (r_move hS rfl) ?_; clear hS; intro a hS
  refine s_val hS (by decide) rfl rfl (r_move hS rfl) ?_; clear hS; intro a hS
  refine s_val hS (by decide) rfl rfl (r_bv hS rfl rfl gF (b_neqFn _ hx)) ?_; clear hS; intro a hS
  refine s_val hS (by decide) rfl rfl (r_move hS rfl) ?_; clear hS; intro a hS
  refine s_skip hS (by decide) rfl rfl rfl rfl rfl ?_; clear hS; intro a hS
  refine s_skip hS (by decide) rfl rfl rfl rfl rfl ?_; clear hS; intro a hS
  refine s_skip hS (by decide) rfl rfl rfl rfl rfl ?_; clear hS; intro a hS
  refine s_val hS (by decide) rfl rfl (r_pick hS rfl rfl) ?_; clear hS; intro a hS
  refine s_val hS (by decide) rfl rfl (r_assign hS rfl) ?_; clear hS; intro a hS
  refine s_nil ?_
  refine k_seq ?_
  refine c_false hS rfl rfl ?_
  refine c_seq ?_
  refine c_region ?_
  refine s_val hS (by decide) rfl rfl (r_move hS rfl) ?_; clear hS; intro a hS
  refine s_val hS (by decide) rfl rfl (r_move hS rfl) ?_; clear hS; intro a hS
  refine s_val hS (by decide) rfl rfl (r_bv hS rfl rfl gF (b_neqFn _ hx)) ?_; clear hS; intro a hS
  refine s_val hS (by decide) rfl rfl (r_assign hS rfl) ?_; clear hS; intro a hS
  refine s_nil ?_
  refine k_seq ?_
  refine c_false hS rfl rfl ?_
  refine c_seq ?_
  refine c_region ?_
  refine s_val hS (by decide) rfl rfl (r_move hS rfl) ?_; clear hS; intro a hS
  refine s_val hS (by decide) rfl rfl (r_move hS rfl) ?_; clear hS; intro a hS
  refine s_val hS (by decide) rfl rfl (r_bv hS rfl rfl gF (b_neqFn _ hy)) ?_; clear hS; intro a hS
  refine s_val hS (by decide) rfl rfl (r_assign hS rfl) ?_; clear hS; intro a hS
  refine s_nil ?_
  refine k_seq ?_
  refine c_false hS rfl rfl ?_
  refine c_seq ?_
  refine c_region ?_
  refine s_val hS (by decide) rfl rfl (r_move hS rfl) ?_; clear hS; intro a hS
  refine s_val hS (by decide) rfl rfl (r_move hS rfl) ?_; clear hS; intro a hS
  refine s_valb hS (by decide) rfl rfl (r_bv hS rfl rfl gF (b_lssF _ _ _)) (fun hc => ?_) (fun hc => ?_)
  · clear hS; intro a hS; have h25 := hc
    refine s_val hS (by decide) rfl rfl (r_move hS rfl) ?_; clear hS; intro a hS
    refine s_skip hS (by decide) rfl rfl rfl rfl rfl ?_; clear hS; intro a hS
    refine s_skip hS (by decide) rfl rfl rfl rfl rfl ?_; clear hS; intro a hS
    refine s_skip hS (by decide) rfl rfl rfl rfl rfl ?_; clear hS; intro a hS
    refine s_skip hS (by decide) rfl rfl rfl rfl rfl ?_; clear hS; intro a hS
    refine s_skipu hS (by decide) rfl rfl rfl rfl rfl ?_; clear hS; intro a hS
    refine s_skipu hS (by decide) rfl rfl rfl rfl rfl ?_; clear hS; intro a hS
    refine s_skip hS (by decide) rfl rfl rfl rfl rfl ?_; clear hS; intro a hS
    refine s_skip hS (by decide) rfl rfl rfl rfl rfl ?_; clear hS; intro a hS
    refine s_skipu hS (by decide) rfl rfl rfl rfl rfl ?_; clear hS; intro a hS
    refine s_skipu hS (by decide) rfl rfl rfl rfl rfl ?_; clear hS; intro a hS
    refine s_skipu hS (by decide) rfl rfl rfl rfl rfl ?_; clear hS; intro a hS
    refine s_skip hS (by decide) rfl rfl rfl rfl rfl ?_; clear hS; intro a hS
    refine s_val hS (by decide) rfl rfl (r_pick hS rfl rfl) ?_; clear hS; intro a hS
    refine s_val hS (by decide) rfl rfl (r_assign hS rfl) ?_; clear hS; intro a hS
    refine s_nil ?_
    refine k_seq ?_
    refine c_true hS rfl rfl ?_
    refine c_seq ?_
    refine c_region ?_
    refine s_val hS (by decide) rfl rfl (r_assign hS (show ev _ _ = some (.int .i64 (-1)) from rfl)) ?_; clear hS; intro a hS
    refine s_nil ?_
    refine k_seq ?_
    refine c_ret ?_
    refine k_inr ?_
    refine k_thenr ?_
    exact k_res1 hS rfl (RV.tmp rfl) ⟨(congrArg (fun q => Ending.returned (.int .i64 q)) (by first | exact ord_lt (nk_key hx hy (fo_lt h25).2.2) | exact tie_lt h29 hmx hmy | exact ord_gt (nk_key hy hx (fo_gt h43).2.2) | exact tie_gt h29 hmx hmy | exact tie_eq h29 (hmx.trans hmy.symm) | exact absurd (h29.symm.trans h47) (by decide) | exact (no_tie hx hy h25 h43 h29).elim)), hM.done trivial⟩
  · clear hS; intro a hS; have h25 := hc
    refine s_val hS (by decide) rfl rfl (r_move hS rfl) ?_; clear hS; intro a hS
    refine s_valg hS (by decide) rfl rfl rfl rfl rfl (r_move hS rfl) ?_; clear hS; intro a hS
    refine s_valg hS (by decide) rfl rfl rfl rfl rfl (r_move hS rfl) ?_; clear hS; intro a hS
    refine s_valgb hS (by decide) rfl rfl rfl rfl rfl (r_bv hS rfl rfl gF (b_eqlF _ _ _)) (fun hc => ?_) (fun hc => ?_)
    · clear hS; intro a hS; have h29 := hc
      refine s_valg hS (by decide) rfl rfl rfl rfl rfl (r_move hS rfl) ?_; clear hS; intro a hS
      refine s_valg hS (by decide) rfl rfl rfl rfl rfl (r_move hS rfl) ?_; clear hS; intro a hS
      refine s_pureg hS hM (by decide) rfl rfl rfl rfl (minus_at hmx _) ?_; clear hS hM; intro a w hS hM
      refine s_valg hS (by decide) rfl rfl rfl rfl rfl (r_pick hS rfl rfl) ?_; clear hS; intro a hS
      refine s_valg hS (by decide) rfl rfl rfl rfl rfl (r_move hS rfl) ?_; clear hS; intro a hS
      refine s_skip hS (by decide) rfl rfl rfl rfl rfl ?_; clear hS; intro a hS
      refine s_skip hS (by decide) rfl rfl rfl rfl rfl ?_; clear hS; intro a hS
      refine s_skip hS (by decide) rfl rfl rfl rfl rfl ?_; clear hS; intro a hS
      refine s_valg hS (by decide) rfl rfl rfl rfl rfl (r_pick hS rfl rfl) ?_; clear hS; intro a hS
      refine s_val hS (by decide) rfl rfl (r_pick hS rfl rfl) ?_; clear hS; intro a hS
      refine s_val hS (by decide) rfl rfl (r_assign hS rfl) ?_; clear hS; intro a hS
      refine s_nil ?_
      refine k_seq ?_
      refine c_false hS rfl rfl ?_
      refine c_seq ?_
      refine c_region ?_
      refine s_val hS (by decide) rfl rfl (r_move hS rfl) ?_; clear hS; intro a hS
      refine s_val hS (by decide) rfl rfl (r_move hS rfl) ?_; clear hS; intro a hS
      refine s_valb hS (by decide) rfl rfl (r_bv hS rfl rfl gF (b_gtrF _ _ _)) (fun hc => ?_) (fun hc => ?_)
      · clear hS; intro a hS; have h43 := hc
        refine s_val hS (by decide) rfl rfl (r_move hS rfl) ?_; clear hS; intro a hS
        refine s_skip hS (by decide) rfl rfl rfl rfl rfl ?_; clear hS; intro a hS
        refine s_skip hS (by decide) rfl rfl rfl rfl rfl ?_; clear hS; intro a hS
        refine s_skip hS (by decide) rfl rfl rfl rfl rfl ?_; clear hS; intro a hS
        refine s_skip hS (by decide) rfl rfl rfl rfl rfl ?_; clear hS; intro a hS
        refine s_skipu hS (by decide) rfl rfl rfl rfl rfl ?_; clear hS; intro a hS
        refine s_skipu hS (by decide) rfl rfl rfl rfl rfl ?_; clear hS; intro a hS
        refine s_skipu hS (by decide) rfl rfl rfl rfl rfl ?_; clear hS; intro a hS
        refine s_skip hS (by decide) rfl rfl rfl rfl rfl ?_; clear hS; intro a hS
        refine s_skip hS (by decide) rfl rfl rfl rfl rfl ?_; clear hS; intro a hS
        refine s_skipu hS (by decide) rfl rfl rfl rfl rfl ?_; clear hS; intro a hS
        refine s_skipu hS (by decide) rfl rfl rfl rfl rfl ?_; clear hS; intro a hS
        refine s_skip hS (by decide) rfl rfl rfl rfl rfl ?_; clear hS; intro a hS
        refine s_val hS (by decide) rfl rfl (r_pick hS rfl rfl) ?_; clear hS; intro a hS
        refine s_val hS (by decide) rfl rfl (r_assign hS rfl) ?_; clear hS; intro a hS
        refine s_nil ?_
        refine k_seq ?_
        refine c_true hS rfl rfl ?_
        refine c_seq ?_
        refine c_region ?_
        refine s_val hS (by decide) rfl rfl (r_assign hS (show ev _ _ = some (N 1) from rfl)) ?_; clear hS; intro a hS
        refine s_nil ?_
        refine k_seq ?_
        refine c_ret ?_
        refine k_inr ?_
        refine k_thenr ?_
        exact k_res1 hS rfl (RV.tmp rfl) ⟨(congrArg (fun q => Ending.returned (.int .i64 q)) (by first | exact ord_lt (nk_key hx hy (fo_lt h25).2.2) | exact tie_lt h29 hmx hmy | exact ord_gt (nk_key hy hx (fo_gt h43).2.2) | exact tie_gt h29 hmx hmy | exact tie_eq h29 (hmx.trans hmy.symm) | exact absurd (h29.symm.trans h47) (by decide) | exact (no_tie hx hy h25 h43 h29).elim)), hM.done trivial⟩
      · clear hS; intro a hS; have h43 := hc
        refine s_val hS (by decide) rfl rfl (r_move hS rfl) ?_; clear hS; intro a hS
        refine s_valg hS (by decide) rfl rfl rfl rfl rfl (r_move hS rfl) ?_; clear hS; intro a hS
        refine s_valg hS (by decide) rfl rfl rfl rfl rfl (r_move hS rfl) ?_; clear hS; intro a hS
        refine s_valgb hS (by decide) rfl rfl rfl rfl rfl (r_bv hS rfl rfl gF (b_eqlF _ _ _)) (fun hc => ?_) (fun hc => ?_)
        · clear hS; intro a hS; have h47 := hc
          refine s_valg hS (by decide) rfl rfl rfl rfl rfl (r_move hS rfl) ?_; clear hS; intro a hS
          refine s_valg hS (by decide) rfl rfl rfl rfl rfl (r_move hS rfl) ?_; clear hS; intro a hS
          refine s_pureg hS hM (by decide) rfl rfl rfl rfl (minus_at hmx _) ?_; clear hS hM; intro a w hS hM
          refine s_valg hS (by decide) rfl rfl rfl rfl rfl (r_not hS rfl) ?_; clear hS; intro a hS
          refine s_valg hS (by decide) rfl rfl rfl rfl rfl (r_pick hS rfl rfl) ?_; clear hS; intro a hS
          refine s_valg hS (by decide) rfl rfl rfl rfl rfl (r_move hS rfl) ?_; clear hS; intro a hS
          refine s_valg hS (by decide) rfl rfl rfl rfl rfl (r_move hS rfl) ?_; clear hS; intro a hS
          refine s_pureg hS hM (by decide) rfl rfl rfl rfl (minus_at hmy _) ?_; clear hS hM; intro a w hS hM
          refine s_valg hS (by decide) rfl rfl rfl rfl rfl (r_pick hS rfl rfl) ?_; clear hS; intro a hS
          refine s_val hS (by decide) rfl rfl (r_pick hS rfl rfl) ?_; clear hS; intro a hS
          refine s_val hS (by decide) rfl rfl (r_assign hS rfl) ?_; clear hS; intro a hS
          refine s_nil ?_
          refine k_seq ?_
          refine c_false hS rfl rfl ?_
          refine c_skip ?_
          refine k_in ?_
          refine k_seq ?_
          refine c_seq ?_
          refine c_region ?_
          refine s_val hS (by decide) rfl rfl (r_assign hS (show ev _ _ = some (N 0) from rfl)) ?_; clear hS; intro a hS
          refine s_nil ?_
          refine k_seq ?_
          refine c_ret ?_
          exact k_res1 hS rfl (RV.tmp rfl) ⟨(congrArg (fun q => Ending.returned (.int .i64 q)) (by first | exact ord_lt (nk_key hx hy (fo_lt h25).2.2) | exact tie_lt h29 hmx hmy | exact ord_gt (nk_key hy hx (fo_gt h43).2.2) | exact tie_gt h29 hmx hmy | exact tie_eq h29 (hmx.trans hmy.symm) | exact absurd (h29.symm.trans h47) (by decide) | exact (no_tie hx hy h25 h43 h29).elim)), hM.done trivial⟩
        · clear hS; intro a hS; have h47 := hc
          refine s_valg hS (by decide) rfl rfl rfl rfl rfl (r_move hS rfl) ?_; clear hS; intro a hS
          refine s_skip hS (by decide) rfl rfl rfl rfl rfl ?_; clear hS; intro a hS
          refine s_skip hS (by decide) rfl rfl rfl rfl rfl ?_; clear hS; intro a hS
          refine s_skip hS (by decide) rfl rfl rfl rfl rfl ?_; clear hS; intro a hS
          refine s_valg hS (by decide) rfl rfl rfl rfl rfl (r_pick hS rfl rfl) ?_; clear hS; intro a hS
          refine s_valg hS (by decide) rfl rfl rfl rfl rfl (r_move hS rfl) ?_; clear hS; intro a hS
          refine s_skip hS (by decide) rfl rfl rfl rfl rfl ?_; clear hS; intro a hS
          refine s_skip hS (by decide) rfl rfl rfl rfl rfl ?_; clear hS; intro a hS
          refine s_valg hS (by decide) rfl rfl rfl rfl rfl (r_pick hS rfl rfl) ?_; clear hS; intro a hS
          refine s_val hS (by decide) rfl rfl (r_pick hS rfl rfl) ?_; clear hS; intro a hS
          refine s_val hS (by decide) rfl rfl (r_assign hS rfl) ?_; clear hS; intro a hS
          refine s_nil ?_
          refine k_seq ?_
          refine c_false hS rfl rfl ?_
          refine c_skip ?_
          refine k_in ?_
          refine k_seq ?_
          refine c_seq ?_
          refine c_region ?_
          refine s_val hS (by decide) rfl rfl (r_assign hS (show ev _ _ = some (N 0) from rfl)) ?_; clear hS; intro a hS
          refine s_nil ?_
          refine k_seq ?_
          refine c_ret ?_
          exact k_res1 hS rfl (RV.tmp rfl) ⟨(congrArg (fun q => Ending.returned (.int .i64 q)) (by first | exact ord_lt (nk_key hx hy (fo_lt h25).2.2) | exact tie_lt h29 hmx hmy | exact ord_gt (nk_key hy hx (fo_gt h43).2.2) | exact tie_gt h29 hmx hmy | exact tie_eq h29 (hmx.trans hmy.symm) | exact absurd (h29.symm.trans h47) (by decide) | exact (no_tie hx hy h25 h43 h29).elim)), hM.done trivial⟩
    · clear hS; intro a hS; have h29 := hc
      refine s_valg hS (by decide) rfl rfl rfl rfl rfl (r_move hS rfl) ?_; clear hS; intro a hS
      refine s_skip hS (by decide) rfl rfl rfl rfl rfl ?_; clear hS; intro a hS
      refine s_skip hS (by decide) rfl rfl rfl rfl rfl ?_; clear hS; intro a hS
      refine s_valg hS (by decide) rfl rfl rfl rfl rfl (r_pick hS rfl rfl) ?_; clear hS; intro a hS
      refine s_valg hS (by decide) rfl rfl rfl rfl rfl (r_move hS rfl) ?_; clear hS; intro a hS
      refine s_skip hS (by decide) rfl rfl rfl rfl rfl ?_; clear hS; intro a hS
      refine s_skip hS (by decide) rfl rfl rfl rfl rfl ?_; clear hS; intro a hS
      refine s_skip hS (by decide) rfl rfl rfl rfl rfl ?_; clear hS; intro a hS
      refine s_valg hS (by decide) rfl rfl rfl rfl rfl (r_pick hS rfl rfl) ?_; clear hS; intro a hS
      refine s_val hS (by decide) rfl rfl (r_pick hS rfl rfl) ?_; clear hS; intro a hS
      refine s_val hS (by decide) rfl rfl (r_assign hS rfl) ?_; clear hS; intro a hS
      refine s_nil ?_
      refine k_seq ?_
      refine c_false hS rfl rfl ?_
      refine c_seq ?_
      refine c_region ?_
      refine s_val hS (by decide) rfl rfl (r_move hS rfl) ?_; clear hS; intro a hS
      refine s_val hS (by decide) rfl rfl (r_move hS rfl) ?_; clear hS; intro a hS
      refine s_valb hS (by decide) rfl rfl (r_bv hS rfl rfl gF (b_gtrF _ _ _)) (fun hc => ?_) (fun hc => ?_)
      · clear hS; intro a hS; have h43 := hc
        refine s_val hS (by decide) rfl rfl (r_move hS rfl) ?_; clear hS; intro a hS
        refine s_skip hS (by decide) rfl rfl rfl rfl rfl ?_; clear hS; intro a hS
        refine s_skip hS (by decide) rfl rfl rfl rfl rfl ?_; clear hS; intro a hS
        refine s_skip hS (by decide) rfl rfl rfl rfl rfl ?_; clear hS; intro a hS
        refine s_skip hS (by decide) rfl rfl rfl rfl rfl ?_; clear hS; intro a hS
        refine s_skipu hS (by decide) rfl rfl rfl rfl rfl ?_; clear hS; intro a hS
        refine s_skipu hS (by decide) rfl rfl rfl rfl rfl ?_; clear hS; intro a hS
        refine s_skipu hS (by decide) rfl rfl rfl rfl rfl ?_; clear hS; intro a hS
        refine s_skip hS (by decide) rfl rfl rfl rfl rfl ?_; clear hS; intro a hS
        refine s_skip hS (by decide) rfl rfl rfl rfl rfl ?_; clear hS; intro a hS
        refine s_skipu hS (by decide) rfl rfl rfl rfl rfl ?_; clear hS; intro a hS
        refine s_skipu hS (by decide) rfl rfl rfl rfl rfl ?_; clear hS; intro a hS
        refine s_skip hS (by decide) rfl rfl rfl rfl rfl ?_; clear hS; intro a hS
        refine s_val hS (by decide) rfl rfl (r_pick hS rfl rfl) ?_; clear hS; intro a hS
        refine s_val hS (by decide) rfl rfl (r_assign hS rfl) ?_; clear hS; intro a hS
        refine s_nil ?_
        refine k_seq ?_
        refine c_true hS rfl rfl ?_
        refine c_seq ?_
        refine c_region ?_
        refine s_val hS (by decide) rfl rfl (r_assign hS (show ev _ _ = some (N 1) from rfl)) ?_; clear hS; intro a hS
        refine s_nil ?_
        refine k_seq ?_
        refine c_ret ?_
        refine k_inr ?_
        refine k_thenr ?_
        exact k_res1 hS rfl (RV.tmp rfl) ⟨(congrArg (fun q => Ending.returned (.int .i64 q)) (by first | exact ord_lt (nk_key hx hy (fo_lt h25).2.2) | exact tie_lt h29 hmx hmy | exact ord_gt (nk_key hy hx (fo_gt h43).2.2) | exact tie_gt h29 hmx hmy | exact tie_eq h29 (hmx.trans hmy.symm) | exact absurd (h29.symm.trans h47) (by decide) | exact (no_tie hx hy h25 h43 h29).elim)), hM.done trivial⟩
      · clear hS; intro a hS; have h43 := hc
        refine s_val hS (by decide) rfl rfl (r_move hS rfl) ?_; clear hS; intro a hS
        refine s_valg hS (by decide) rfl rfl rfl rfl rfl (r_move hS rfl) ?_; clear hS; intro a hS
        refine s_valg hS (by decide) rfl rfl rfl rfl rfl (r_move hS rfl) ?_; clear hS; intro a hS
        refine s_valgb hS (by decide) rfl rfl rfl rfl rfl (r_bv hS rfl rfl gF (b_eqlF _ _ _)) (fun hc => ?_) (fun hc => ?_)
        · clear hS; intro a hS; have h47 := hc
          refine s_valg hS (by decide) rfl rfl rfl rfl rfl (r_move hS rfl) ?_; clear hS; intro a hS
          refine s_valg hS (by decide) rfl rfl rfl rfl rfl (r_move hS rfl) ?_; clear hS; intro a hS
          refine s_pureg hS hM (by decide) rfl rfl rfl rfl (minus_at hmx _) ?_; clear hS hM; intro a w hS hM
          refine s_valg hS (by decide) rfl rfl rfl rfl rfl (r_not hS rfl) ?_; clear hS; intro a hS
          refine s_valg hS (by decide) rfl rfl rfl rfl rfl (r_pick hS rfl rfl) ?_; clear hS; intro a hS
          refine s_valg hS (by decide) rfl rfl rfl rfl rfl (r_move hS rfl) ?_; clear hS; intro a hS
          refine s_valg hS (by decide) rfl rfl rfl rfl rfl (r_move hS rfl) ?_; clear hS; intro a hS
          refine s_pureg hS hM (by decide) rfl rfl rfl rfl (minus_at hmy _) ?_; clear hS hM; intro a w hS hM
          refine s_valg hS (by decide) rfl rfl rfl rfl rfl (r_pick hS rfl rfl) ?_; clear hS; intro a hS
          refine s_val hS (by decide) rfl rfl (r_pick hS rfl rfl) ?_; clear hS; intro a hS
          refine s_val hS (by decide) rfl rfl (r_assign hS rfl) ?_; clear hS; intro a hS
          refine s_nil ?_
          refine k_seq ?_
          refine c_false hS rfl rfl ?_
          refine c_skip ?_
          refine k_in ?_
          refine k_seq ?_
          refine c_seq ?_
          refine c_region ?_
          refine s_val hS (by decide) rfl rfl (r_assign hS (show ev _ _ = some (N 0) from rfl)) ?_; clear hS; intro a hS
          refine s_nil ?_
          refine k_seq ?_
          refine c_ret ?_
          exact k_res1 hS rfl (RV.tmp rfl) ⟨(congrArg (fun q => Ending.returned (.int .i64 q)) (by first | exact ord_lt (nk_key hx hy (fo_lt h25).2.2) | exact tie_lt h29 hmx hmy | exact ord_gt (nk_key hy hx (fo_gt h43).2.2) | exact tie_gt h29 hmx hmy | exact tie_eq h29 (hmx.trans hmy.symm) | exact absurd (h29.symm.trans h47) (by decide) | exact (no_tie hx hy h25 h43 h29).elim)), hM.done trivial⟩
        · clear hS; intro a hS; have h47 := hc
          refine s_valg hS (by decide) rfl rfl rfl rfl rfl (r_move hS rfl) ?_; clear hS; intro a hS
          refine s_skip hS (by decide) rfl rfl rfl rfl rfl ?_; clear hS; intro a hS
          refine s_skip hS (by decide) rfl rfl rfl rfl rfl ?_; clear hS; intro a hS
          refine s_skip hS (by decide) rfl rfl rfl rfl rfl ?_; clear hS; intro a hS
          refine s_valg hS (by decide) rfl rfl rfl rfl rfl (r_pick hS rfl rfl) ?_; clear hS; intro a hS
          refine s_valg hS (by decide) rfl rfl rfl rfl rfl (r_move hS rfl) ?_; clear hS; intro a hS
          refine s_skip hS (by decide) rfl rfl rfl rfl rfl ?_; clear hS; intro a hS
          refine s_skip hS (by decide) rfl rfl rfl rfl rfl ?_; clear hS; intro a hS
          refine s_valg hS (by decide) rfl rfl rfl rfl rfl (r_pick hS rfl rfl) ?_; clear hS; intro a hS
          refine s_val hS (by decide) rfl rfl (r_pick hS rfl rfl) ?_; clear hS; intro a hS
          refine s_val hS (by decide) rfl rfl (r_assign hS rfl) ?_; clear hS; intro a hS
          refine s_nil ?_
          refine k_seq ?_
          refine c_false hS rfl rfl ?_
          refine c_skip ?_
          refine k_in ?_
          refine k_seq ?_
          refine c_seq ?_
          refine c_region ?_
          refine s_val hS (by decide) rfl rfl (r_assign hS (show ev _ _ = some (N 0) from rfl)) ?_; clear hS; intro a hS
          refine s_nil ?_
          refine k_seq ?_
          refine c_ret ?_
          exact k_res1 hS rfl (RV.tmp rfl) ⟨(congrArg (fun q => Ending.returned (.int .i64 q)) (by first | exact ord_lt (nk_key hx hy (fo_lt h25).2.2) | exact tie_lt h29 hmx hmy | exact ord_gt (nk_key hy hx (fo_gt h43).2.2) | exact tie_gt h29 hmx hmy | exact tie_eq h29 (hmx.trans hmy.symm) | exact absurd (h29.symm.trans h47) (by decide) | exact (no_tie hx hy h25 h43 h29).elim)), hM.done trivial⟩

theorem rord_ok (x y : BitVec 64) (w0 : World) : Pure Tryd.prog 13 #[F x, F y] w0 (.int .i64 (ord x y)) := by
  cases hx : nanB x <;> cases hy : nanB y
  · cases hmx : mn x <;> cases hmy : mn y
    · exact rord_ffpp w0 x y hx hy hmx hmy
    · exact rord_ffpm w0 x y hx hy hmx hmy
    · exact rord_ffmp w0 x y hx hy hmx hmy
    · exact rord_ffmm w0 x y hx hy hmx hmy
  · exact rord_fn w0 x y hx hy
  · exact rord_nf w0 x y hx hy
  · exact rord_nn w0 x y hx hy


set_option maxRecDepth 100000 in
theorem alike_ok (x y : BitVec 64) (w0 : World) : Pure Tryd.prog 10 #[F x, F y] w0 (.bool (decide (ord x y = 0))) := by
  refine ⟨by kernel_rfl, ?_⟩
  refine calls_sym Tryd.func10 rfl (by kernel_rfl) ?_
  intro a hS
  have hM : Mem w0 w0 [] := Mem.refl w0
  refine c_seq ?_
  refine c_region ?_
  refine s_val hS (by decide) rfl rfl (r_assign hS rfl) ?_; clear hS; intro a hS
  refine s_nil ?_
  refine k_seq ?_
  refine c_seq ?_
  refine c_region ?_
  refine s_val hS (by decide) rfl rfl (r_move hS rfl) ?_; clear hS; intro a hS
  refine s_val hS (by decide) rfl rfl (r_move hS rfl) ?_; clear hS; intro a hS
  refine s_pure hS hM (by decide) rfl (rord_ok _ _ _) ?_; clear hS hM; intro a w hS hM
  refine s_val hS (by decide) rfl rfl (r_bv hS rfl (show ev _ _ = some (.int .i64 (0)) from rfl) gZ (b_eqlZ _ _ _)) ?_; clear hS; intro a hS
  refine s_val hS (by decide) rfl rfl (r_assign hS rfl) ?_; clear hS; intro a hS
  refine s_nil ?_
  refine k_seq ?_
  refine c_ret ?_
  exact k_res1 hS rfl (RV.tmp rfl) ⟨rfl, hM.done trivial⟩

set_option maxRecDepth 100000 in
theorem isinf_ok (w0 : World) (x : BitVec 64) : Pure Tryd.prog 29 #[F x, N 0] w0 (.bool (rung x == infR)) := by
  refine ⟨by kernel_rfl, ?_⟩
  refine calls_sym Tryd.func29 rfl (by kernel_rfl) ?_
  intro a hS
  have hM : Mem w0 w0 [] := Mem.refl w0
  refine c_seq ?_
  refine c_region ?_
  refine s_val hS (by decide) rfl rfl (r_assign hS rfl) ?_; clear hS; intro a hS
  refine s_nil ?_
  refine k_seq ?_
  refine c_seq ?_
  refine c_seq ?_
  refine c_region ?_
  refine s_val hS (by decide) rfl rfl (r_move hS rfl) ?_; clear hS; intro a hS
  refine s_val hS (by decide) rfl rfl (r_bv hS rfl (show ev _ _ = some (N 0) from rfl) gN (b_eqlN _ _ _)) ?_; clear hS; intro a hS
  refine s_nil ?_
  refine k_seq ?_
  refine c_true hS rfl rfl ?_
  refine c_region ?_
  refine s_val hS (by decide) rfl rfl (r_move hS rfl) ?_; clear hS; intro a hS
  refine s_pure hS hM (by decide) rfl (abs_ok _ _) ?_; clear hS hM; intro a w hS hM
  refine s_val hS (by decide) rfl rfl (r_assign hS rfl) ?_; clear hS; intro a hS
  refine s_nil ?_
  refine k_seq ?_
  refine c_seq ?_
  refine c_region ?_
  refine s_val hS (by decide) rfl rfl (r_move hS rfl) ?_; clear hS; intro a hS
  refine s_val hS (by decide) rfl rfl (r_bv hS rfl (show ev _ _ = some (F 9218868437227405311#64) from rfl) gF (b_gtrF _ _ _)) ?_; clear hS; intro a hS
  refine s_val hS (by decide) rfl rfl (r_assign hS rfl) ?_; clear hS; intro a hS
  refine s_nil ?_
  refine k_seq ?_
  refine c_ret ?_
  exact k_res1 hS rfl (RV.tmp rfl) ⟨(congrArg (fun q => Ending.returned (.bool q)) (isinf_eq x)), hM.done trivial⟩

set_option maxRecDepth 100000 in
theorem rate_ok (w0 : World) (n m : Int) : Tells Tryd.prog 11 #[.int .i64 n, .int .i64 m] w0 (rate n m) := by
  refine ⟨by kernel_rfl, ?_⟩
  refine calls_sym Tryd.func11 rfl (by kernel_rfl) ?_
  intro a hS
  have hM : Mem w0 w0 [] := Mem.refl w0
  refine c_seq ?_
  refine c_region ?_
  refine s_val hS (by decide) rfl rfl (r_assign hS (show ev _ _ = some (F 0#64) from rfl)) ?_; clear hS; intro a hS
  refine s_nil ?_
  refine k_seq ?_
  refine c_seq ?_
  refine c_region ?_
  refine s_val hS (by decide) rfl rfl (r_move hS rfl) ?_; clear hS; intro a hS
  refine s_val hS (by decide) rfl rfl (r_convIF hS rfl (by kernel_rfl) Tryd.underlying22) ?_; clear hS; intro a hS
  refine s_val hS (by decide) rfl rfl (r_move hS rfl) ?_; clear hS; intro a hS
  refine s_val hS (by decide) rfl rfl (r_convIF hS rfl (by kernel_rfl) Tryd.underlying22) ?_; clear hS; intro a hS
  refine s_float hS hM (by decide) rfl rfl (.inr (.inr (.inr rfl))) ?_; clear hS hM; intro a w r9 hr9 hS hM
  refine s_val hS (by decide) rfl rfl (r_assign hS rfl) ?_; clear hS; intro a hS
  refine s_nil ?_
  refine k_seq ?_
  refine c_ret ?_
  exact k_res1 hS rfl (RV.tmp rfl) ⟨_, rfl, ⟨_, rfl, hr9⟩, hM.done trivial⟩

set_option maxRecDepth 100000 in
theorem rrate_ok (w0 : World) (n m : Int) : Tells Tryd.prog 12 #[.int .i64 n, .int .i64 m] w0 (rate n m) := by
  refine ⟨by kernel_rfl, ?_⟩
  refine calls_sym Tryd.func12 rfl (by kernel_rfl) ?_
  intro a hS
  have hM : Mem w0 w0 [] := Mem.refl w0
  refine c_seq ?_
  refine c_region ?_
  refine s_val hS (by decide) rfl rfl (r_assign hS (show ev _ _ = some (F 0#64) from rfl)) ?_; clear hS; intro a hS
  refine s_nil ?_
  refine k_seq ?_
  refine c_seq ?_
  refine c_region ?_
  refine s_val hS (by decide) rfl rfl (r_move hS rfl) ?_; clear hS; intro a hS
  refine s_val hS (by decide) rfl rfl (r_convIF hS rfl (by kernel_rfl) Tryd.underlying22) ?_; clear hS; intro a hS
  refine s_val hS (by decide) rfl rfl (r_move hS rfl) ?_; clear hS; intro a hS
  refine s_val hS (by decide) rfl rfl (r_convIF hS rfl (by kernel_rfl) Tryd.underlying22) ?_; clear hS; intro a hS
  refine s_float hS hM (by decide) rfl rfl (.inr (.inr (.inr rfl))) ?_; clear hS hM; intro a w r9 hr9 hS hM
  refine s_val hS (by decide) rfl rfl (r_assign hS rfl) ?_; clear hS; intro a hS
  refine s_nil ?_
  refine k_seq ?_
  refine c_ret ?_
  exact k_res1 hS rfl (RV.tmp rfl) ⟨_, rfl, ⟨_, rfl, hr9⟩, hM.done trivial⟩

set_option maxRecDepth 100000 in
theorem smooth_ok (w0 : World) (x y : BitVec 64) : Tells Tryd.prog 14 #[F x, F y] w0 (smooth x y) := by
  refine ⟨by kernel_rfl, ?_⟩
  refine calls_sym Tryd.func14 rfl (by kernel_rfl) ?_
  intro a hS
  have hM : Mem w0 w0 [] := Mem.refl w0
  refine c_seq ?_
  refine c_region ?_
  refine s_val hS (by decide) rfl rfl (r_assign hS (show ev _ _ = some (F 0#64) from rfl)) ?_; clear hS; intro a hS
  refine s_nil ?_
  refine k_seq ?_
  refine c_seq ?_
  refine c_block ?_
  refine c_seq ?_
  refine c_region ?_
  refine s_val hS (by decide) rfl rfl (r_move hS rfl) ?_; clear hS; intro a hS
  refine s_pure hS hM (by decide) rfl (isnan_ok _ _) ?_; clear hS hM; intro a w hS hM
  refine s_val hS (by decide) rfl rfl (r_assign hS rfl) ?_; clear hS; intro a hS
  refine s_nil ?_
  refine k_seq ?_
  refine c_cond hS rfl (fun hc => ?_) (fun hc => ?_)
  · have h5 := hc
    refine c_seq ?_
    refine c_region ?_
    refine s_val hS (by decide) rfl rfl (r_move hS rfl) ?_; clear hS; intro a hS
    refine s_val hS (by decide) rfl rfl (r_assign hS rfl) ?_; clear hS; intro a hS
    refine s_nil ?_
    refine k_seq ?_
    refine c_ret ?_
    refine k_inr ?_
    refine k_thenr ?_
    exact k_res1 hS rfl (RV.tmp rfl) ⟨_, rfl, (by first | exact smooth_old h5 | exact smooth_now h5 h9 | exact smooth_mid h5 h9 hr16 hr17 hr18), hM.done trivial⟩
  · have h5 := hc
    refine c_seq ?_
    refine c_region ?_
    refine s_val hS (by decide) rfl rfl (r_move hS rfl) ?_; clear hS; intro a hS
    refine s_pure hS hM (by decide) rfl (isnan_ok _ _) ?_; clear hS hM; intro a w hS hM
    refine s_val hS (by decide) rfl rfl (r_assign hS rfl) ?_; clear hS; intro a hS
    refine s_nil ?_
    refine k_seq ?_
    refine c_cond hS rfl (fun hc => ?_) (fun hc => ?_)
    · have h9 := hc
      refine c_seq ?_
      refine c_region ?_
      refine s_val hS (by decide) rfl rfl (r_move hS rfl) ?_; clear hS; intro a hS
      refine s_val hS (by decide) rfl rfl (r_assign hS rfl) ?_; clear hS; intro a hS
      refine s_nil ?_
      refine k_seq ?_
      refine c_ret ?_
      refine k_inr ?_
      refine k_thenr ?_
      exact k_res1 hS rfl (RV.tmp rfl) ⟨_, rfl, (by first | exact smooth_old h5 | exact smooth_now h5 h9 | exact smooth_mid h5 h9 hr16 hr17 hr18), hM.done trivial⟩
    · have h9 := hc
      refine c_skip ?_
      refine k_in ?_
      refine k_seq ?_
      refine c_seq ?_
      refine c_region ?_
      refine s_val hS (by decide) rfl rfl (r_move hS rfl) ?_; clear hS; intro a hS
      refine s_val hS (by decide) rfl rfl (r_move hS rfl) ?_; clear hS; intro a hS
      refine s_val hS (by decide) rfl rfl (r_move hS rfl) ?_; clear hS; intro a hS
      refine s_float hS hM (by decide) rfl rfl (.inr (.inl rfl)) ?_; clear hS hM; intro a w r16 hr16 hS hM
      refine s_float hS hM (by decide) rfl (show ev _ _ = some (F 4620693217682128896#64) from rfl) (.inr (.inr (.inr rfl))) ?_; clear hS hM; intro a w r17 hr17 hS hM
      refine s_float hS hM (by decide) rfl rfl (.inl rfl) ?_; clear hS hM; intro a w r18 hr18 hS hM
      refine s_val hS (by decide) rfl rfl (r_assign hS rfl) ?_; clear hS; intro a hS
      refine s_nil ?_
      refine k_seq ?_
      refine c_ret ?_
      exact k_res1 hS rfl (RV.tmp rfl) ⟨_, rfl, (by first | exact smooth_old h5 | exact smooth_now h5 h9 | exact smooth_mid h5 h9 hr16 hr17 hr18), hM.done trivial⟩

set_option maxRecDepth 100000 in
theorem rsmooth_ok (w0 : World) (x y : BitVec 64) : Tells Tryd.prog 15 #[F x, F y] w0 (smooth x y) := by
  refine ⟨by kernel_rfl, ?_⟩
  refine calls_sym Tryd.func15 rfl (by kernel_rfl) ?_
  intro a hS
  have hM : Mem w0 w0 [] := Mem.refl w0
  refine c_seq ?_
  refine c_region ?_
  refine s_val hS (by decide) rfl rfl (r_assign hS (show ev _ _ = some (F 0#64) from rfl)) ?_; clear hS; intro a hS
  refine s_nil ?_
  refine k_seq ?_
  refine c_seq ?_
  refine c_seq ?_
  refine c_region ?_
  refine s_val hS (by decide) rfl rfl (r_move hS rfl) ?_; clear hS; intro a hS
  refine s_val hS (by decide) rfl rfl (r_move hS rfl) ?_; clear hS; intro a hS
  refine s_val hS (by decide) rfl rfl (r_bv hS rfl rfl gF (b_neqF _ _ _)) ?_; clear hS; intro a hS
  refine s_nil ?_
  refine k_seq ?_
  refine c_cond hS rfl (fun hc => ?_) (fun hc => ?_)
  · rw [fo_self] at hc; have h5 := hc
    refine c_seq ?_
    refine c_region ?_
    refine s_val hS (by decide) rfl rfl (r_move hS rfl) ?_; clear hS; intro a hS
    refine s_val hS (by decide) rfl rfl (r_assign hS rfl) ?_; clear hS; intro a hS
    refine s_nil ?_
    refine k_seq ?_
    refine c_ret ?_
    refine k_thenr ?_
    exact k_res1 hS rfl (RV.tmp rfl) ⟨_, rfl, (by first | exact smooth_old h5 | exact smooth_now h5 h9 | exact smooth_mid h5 h9 hr17 hr19 hr22), hM.done trivial⟩
  · rw [fo_self] at hc; have h5 := hc
    refine c_skip ?_
    refine k_seq ?_
    refine c_seq ?_
    refine c_seq ?_
    refine c_region ?_
    refine s_val hS (by decide) rfl rfl (r_move hS rfl) ?_; clear hS; intro a hS
    refine s_val hS (by decide) rfl rfl (r_move hS rfl) ?_; clear hS; intro a hS
    refine s_val hS (by decide) rfl rfl (r_bv hS rfl rfl gF (b_neqF _ _ _)) ?_; clear hS; intro a hS
    refine s_nil ?_
    refine k_seq ?_
    refine c_cond hS rfl (fun hc => ?_) (fun hc => ?_)
    · rw [fo_self] at hc; have h9 := hc
      refine c_seq ?_
      refine c_region ?_
      refine s_val hS (by decide) rfl rfl (r_move hS rfl) ?_; clear hS; intro a hS
      refine s_val hS (by decide) rfl rfl (r_assign hS rfl) ?_; clear hS; intro a hS
      refine s_nil ?_
      refine k_seq ?_
      refine c_ret ?_
      refine k_thenr ?_
      exact k_res1 hS rfl (RV.tmp rfl) ⟨_, rfl, (by first | exact smooth_old h5 | exact smooth_now h5 h9 | exact smooth_mid h5 h9 hr17 hr19 hr22), hM.done trivial⟩
    · rw [fo_self] at hc; have h9 := hc
      refine c_skip ?_
      refine k_seq ?_
      refine c_seq ?_
      refine c_region ?_
      refine s_val hS (by decide) rfl rfl (r_move hS rfl) ?_; clear hS; intro a hS
      refine s_val hS (by decide) rfl rfl (r_move hS rfl) ?_; clear hS; intro a hS
      refine s_float hS hM (by decide) rfl rfl (.inr (.inl rfl)) ?_; clear hS hM; intro a w r17 hr17 hS hM
      refine s_val hS (by decide) rfl rfl (r_assign hS rfl) ?_; clear hS; intro a hS
      refine s_nil ?_
      refine k_seq ?_
      refine c_seq ?_
      refine c_region ?_
      refine s_val hS (by decide) rfl rfl (r_move hS rfl) ?_; clear hS; intro a hS
      refine s_float hS hM (by decide) rfl (show ev _ _ = some (F 4620693217682128896#64) from rfl) (.inr (.inr (.inr rfl))) ?_; clear hS hM; intro a w r19 hr19 hS hM
      refine s_val hS (by decide) rfl rfl (r_assign hS rfl) ?_; clear hS; intro a hS
      refine s_nil ?_
      refine k_seq ?_
      refine c_seq ?_
      refine c_region ?_
      refine s_val hS (by decide) rfl rfl (r_move hS rfl) ?_; clear hS; intro a hS
      refine s_val hS (by decide) rfl rfl (r_move hS rfl) ?_; clear hS; intro a hS
      refine s_float hS hM (by decide) rfl rfl (.inl rfl) ?_; clear hS hM; intro a w r22 hr22 hS hM
      refine s_val hS (by decide) rfl rfl (r_assign hS rfl) ?_; clear hS; intro a hS
      refine s_nil ?_
      refine k_seq ?_
      refine c_ret ?_
      exact k_res1 hS rfl (RV.tmp rfl) ⟨_, rfl, (by first | exact smooth_old h5 | exact smooth_now h5 h9 | exact smooth_mid h5 h9 hr17 hr19 hr22), hM.done trivial⟩

set_option maxRecDepth 100000 in
theorem show_ok (w0 : World) (hG : PW w0) (x : BitVec 64) : Pure Tryd.prog 16 #[F x] w0 (SV (shw x)) := by
  refine ⟨by kernel_rfl, ?_⟩
  refine calls_sym Tryd.func16 rfl (by kernel_rfl) ?_
  intro a hS
  have hM : Mem w0 w0 [] := Mem.refl w0
  refine c_seq ?_
  refine c_region ?_
  refine s_val hS (by decide) rfl rfl (r_assign hS (show ev _ _ = some (SV []) from rfl)) ?_; clear hS; intro a hS
  refine s_nil ?_
  refine k_seq ?_
  refine c_seq ?_
  refine c_seq ?_
  refine c_region ?_
  refine s_val hS (by decide) rfl rfl (r_move hS rfl) ?_; clear hS; intro a hS
  refine s_pure hS hM (by decide) rfl (isnan_ok _ _) ?_; clear hS hM; intro a w hS hM
  refine s_nil ?_
  refine k_seq ?_
  refine c_cond hS rfl (fun hc => ?_) (fun hc => ?_)
  · have h6 := hc
    refine c_seq ?_
    refine c_region ?_
    refine s_val hS (by decide) rfl rfl (r_assign hS (show ev _ _ = some (SV [110, 97, 110]) from rfl)) ?_; clear hS; intro a hS
    refine s_nil ?_
    refine k_seq ?_
    refine c_ret ?_
    refine k_thenr ?_
    exact k_res1 hS rfl (RV.tmp rfl) ⟨(congrArg (fun q => Ending.returned (SV q)) (by first | exact (shw_nan h6).symm | (rw [shw_inf h6 h12, h8]; rfl) | (rw [shw_big h6 h12 h17, h8]; rfl) | (rw [shw_th h6 h12 h17, h8]; rfl))), hM.done trivial⟩
  · have h6 := hc
    refine c_skip ?_
    refine k_seq ?_
    refine c_seq ?_
    refine c_region ?_
    refine s_val hS (by decide) rfl rfl (r_assign hS (show ev _ _ = some (SV []) from rfl)) ?_; clear hS; intro a hS
    refine s_nil ?_
    refine k_seq ?_
    refine c_seq ?_
    refine c_seq ?_
    refine c_region ?_
    refine s_val hS (by decide) rfl rfl (r_move hS rfl) ?_; clear hS; intro a hS
    refine s_pure hS hM (by decide) rfl (signbit_ok _ _) ?_; clear hS hM; intro a w hS hM
    refine s_nil ?_
    refine k_seq ?_
    refine c_cond hS rfl (fun hc => ?_) (fun hc => ?_)
    · have h8 := hc
      refine c_region ?_
      refine s_val hS (by decide) rfl rfl (r_assign hS (show ev _ _ = some (SV [45]) from rfl)) ?_; clear hS; intro a hS
      refine s_nil ?_
      refine k_seq ?_
      refine c_seq ?_
      refine c_region ?_
      refine s_val hS (by decide) rfl rfl (r_move hS rfl) ?_; clear hS; intro a hS
      refine s_pure hS hM (by decide) rfl (abs_ok _ _) ?_; clear hS hM; intro a w hS hM
      refine s_float hS hM (by decide) rfl (show ev _ _ = some (F 4652007308841189376#64) from rfl) (.inr (.inr (.inl rfl))) ?_; clear hS hM; intro a w r11 hr11 hS hM
      obtain ⟨he, hs, hnn⟩ := mul_eq (sgn_abs x) (by rw [nan_abs]; exact h6) hr11; subst he
      refine s_val hS (by decide) rfl rfl (r_assign hS rfl) ?_; clear hS; intro a hS
      refine s_nil ?_
      refine k_seq ?_
      refine c_seq ?_
      refine c_block ?_
      refine c_seq ?_
      refine c_region ?_
      refine s_val hS (by decide) rfl rfl (r_move hS rfl) ?_; clear hS; intro a hS
      refine s_pure hS hM (by decide) (vs := [_, N 0]) rfl (isinf_ok _ _) ?_; clear hS hM; intro a w hS hM
      refine s_val hS (by decide) rfl rfl (r_assign hS rfl) ?_; clear hS; intro a hS
      refine s_nil ?_
      refine k_seq ?_
      refine c_cond hS rfl (fun hc => ?_) (fun hc => ?_)
      · have h12 := eq_of_beq hc
        refine c_seq ?_
        refine c_region ?_
        refine s_val hS (by decide) rfl rfl (r_move hS rfl) ?_; clear hS; intro a hS
        refine s_val hS (by decide) rfl rfl (r_addS hS rfl (show ev _ _ = some (SV [105, 110, 102]) from rfl) (by decide) (by decide)) ?_; clear hS; intro a hS
        refine s_val hS (by decide) rfl rfl (r_assign hS rfl) ?_; clear hS; intro a hS
        refine s_nil ?_
        refine k_seq ?_
        refine c_ret ?_
        refine k_inr ?_
        refine k_thenr ?_
        exact k_res1 hS rfl (RV.tmp rfl) ⟨(congrArg (fun q => Ending.returned (SV q)) (by first | exact (shw_nan h6).symm | (rw [shw_inf h6 h12, h8]; rfl) | (rw [shw_big h6 h12 h17, h8]; rfl) | (rw [shw_th h6 h12 h17, h8]; rfl))), hM.done trivial⟩
      · have h12 := ne_of_beq_false hc
        refine c_seq ?_
        refine c_region ?_
        refine s_val hS (by decide) rfl rfl (r_move hS rfl) ?_; clear hS; intro a hS
        refine s_val hS (by decide) rfl rfl (r_bv hS rfl (show ev _ _ = some (F 4845873199050653696#64) from rfl) gF (b_geqF _ _ _)) ?_; clear hS; intro a hS
        refine s_val hS (by decide) rfl rfl (r_assign hS rfl) ?_; clear hS; intro a hS
        refine s_nil ?_
        refine k_seq ?_
        refine c_cond hS rfl (fun hc => ?_) (fun hc => ?_)
        · rw [big_iff hs hnn] at hc; have h17 := Nat.not_lt.2 (of_decide_eq_true hc)
          refine c_seq ?_
          refine c_region ?_
          refine s_val hS (by decide) rfl rfl (r_move hS rfl) ?_; clear hS; intro a hS
          refine s_val hS (by decide) rfl rfl (r_addS hS rfl (show ev _ _ = some (SV [98, 105, 103]) from rfl) (by decide) (by decide)) ?_; clear hS; intro a hS
          refine s_val hS (by decide) rfl rfl (r_assign hS rfl) ?_; clear hS; intro a hS
          refine s_nil ?_
          refine k_seq ?_
          refine c_ret ?_
          refine k_inr ?_
          refine k_thenr ?_
          exact k_res1 hS rfl (RV.tmp rfl) ⟨(congrArg (fun q => Ending.returned (SV q)) (by first | exact (shw_nan h6).symm | (rw [shw_inf h6 h12, h8]; rfl) | (rw [shw_big h6 h12 h17, h8]; rfl) | (rw [shw_th h6 h12 h17, h8]; rfl))), hM.done trivial⟩
        · rw [big_iff hs hnn] at hc; have h17 := Nat.lt_of_not_le (of_decide_eq_false hc); have hfl := (fl_int hs h17).2
          refine c_skip ?_
          refine k_in ?_
          refine k_seq ?_
          refine c_seq ?_
          refine c_region ?_
          refine s_val hS (by decide) rfl rfl (r_move hS rfl) ?_; clear hS; intro a hS
          refine s_val hS (by decide) rfl rfl (r_move hS rfl) ?_; clear hS; intro a hS
          refine s_val hS (by decide) rfl rfl (r_convFI hS rfl (by kernel_rfl) Tryd.underlying42 (fl_u64 hs h17)) ?_; clear hS; intro a hS
          refine s_pure hS hM (by decide) rfl (thou_ok _ (hG.keep hM trivial) _ (by omega)) ?_; clear hS hM; intro a w hS hM
          refine s_val hS (by decide) rfl rfl (r_addS hS rfl rfl (by decide) (th_len _)) ?_; clear hS; intro a hS
          refine s_val hS (by decide) rfl rfl (r_assign hS rfl) ?_; clear hS; intro a hS
          refine s_nil ?_
          refine k_seq ?_
          refine c_ret ?_
          exact k_res1 hS rfl (RV.tmp rfl) ⟨(congrArg (fun q => Ending.returned (SV q)) (by first | exact (shw_nan h6).symm | (rw [shw_inf h6 h12, h8]; rfl) | (rw [shw_big h6 h12 h17, h8]; rfl) | (rw [shw_th h6 h12 h17, h8]; rfl))), hM.done trivial⟩
    · have h8 := hc
      refine c_skip ?_
      refine k_seq ?_
      refine c_seq ?_
      refine c_region ?_
      refine s_val hS (by decide) rfl rfl (r_move hS rfl) ?_; clear hS; intro a hS
      refine s_pure hS hM (by decide) rfl (abs_ok _ _) ?_; clear hS hM; intro a w hS hM
      refine s_float hS hM (by decide) rfl (show ev _ _ = some (F 4652007308841189376#64) from rfl) (.inr (.inr (.inl rfl))) ?_; clear hS hM; intro a w r11 hr11 hS hM
      obtain ⟨he, hs, hnn⟩ := mul_eq (sgn_abs x) (by rw [nan_abs]; exact h6) hr11; subst he
      refine s_val hS (by decide) rfl rfl (r_assign hS rfl) ?_; clear hS; intro a hS
      refine s_nil ?_
      refine k_seq ?_
      refine c_seq ?_
      refine c_block ?_
      refine c_seq ?_
      refine c_region ?_
      refine s_val hS (by decide) rfl rfl (r_move hS rfl) ?_; clear hS; intro a hS
      refine s_pure hS hM (by decide) (vs := [_, N 0]) rfl (isinf_ok _ _) ?_; clear hS hM; intro a w hS hM
      refine s_val hS (by decide) rfl rfl (r_assign hS rfl) ?_; clear hS; intro a hS
      refine s_nil ?_
      refine k_seq ?_
      refine c_cond hS rfl (fun hc => ?_) (fun hc => ?_)
      · have h12 := eq_of_beq hc
        refine c_seq ?_
        refine c_region ?_
        refine s_val hS (by decide) rfl rfl (r_move hS rfl) ?_; clear hS; intro a hS
        refine s_val hS (by decide) rfl rfl (r_addS hS rfl (show ev _ _ = some (SV [105, 110, 102]) from rfl) (by decide) (by decide)) ?_; clear hS; intro a hS
        refine s_val hS (by decide) rfl rfl (r_assign hS rfl) ?_; clear hS; intro a hS
        refine s_nil ?_
        refine k_seq ?_
        refine c_ret ?_
        refine k_inr ?_
        refine k_thenr ?_
        exact k_res1 hS rfl (RV.tmp rfl) ⟨(congrArg (fun q => Ending.returned (SV q)) (by first | exact (shw_nan h6).symm | (rw [shw_inf h6 h12, h8]; rfl) | (rw [shw_big h6 h12 h17, h8]; rfl) | (rw [shw_th h6 h12 h17, h8]; rfl))), hM.done trivial⟩
      · have h12 := ne_of_beq_false hc
        refine c_seq ?_
        refine c_region ?_
        refine s_val hS (by decide) rfl rfl (r_move hS rfl) ?_; clear hS; intro a hS
        refine s_val hS (by decide) rfl rfl (r_bv hS rfl (show ev _ _ = some (F 4845873199050653696#64) from rfl) gF (b_geqF _ _ _)) ?_; clear hS; intro a hS
        refine s_val hS (by decide) rfl rfl (r_assign hS rfl) ?_; clear hS; intro a hS
        refine s_nil ?_
        refine k_seq ?_
        refine c_cond hS rfl (fun hc => ?_) (fun hc => ?_)
        · rw [big_iff hs hnn] at hc; have h17 := Nat.not_lt.2 (of_decide_eq_true hc)
          refine c_seq ?_
          refine c_region ?_
          refine s_val hS (by decide) rfl rfl (r_move hS rfl) ?_; clear hS; intro a hS
          refine s_val hS (by decide) rfl rfl (r_addS hS rfl (show ev _ _ = some (SV [98, 105, 103]) from rfl) (by decide) (by decide)) ?_; clear hS; intro a hS
          refine s_val hS (by decide) rfl rfl (r_assign hS rfl) ?_; clear hS; intro a hS
          refine s_nil ?_
          refine k_seq ?_
          refine c_ret ?_
          refine k_inr ?_
          refine k_thenr ?_
          exact k_res1 hS rfl (RV.tmp rfl) ⟨(congrArg (fun q => Ending.returned (SV q)) (by first | exact (shw_nan h6).symm | (rw [shw_inf h6 h12, h8]; rfl) | (rw [shw_big h6 h12 h17, h8]; rfl) | (rw [shw_th h6 h12 h17, h8]; rfl))), hM.done trivial⟩
        · rw [big_iff hs hnn] at hc; have h17 := Nat.lt_of_not_le (of_decide_eq_false hc); have hfl := (fl_int hs h17).2
          refine c_skip ?_
          refine k_in ?_
          refine k_seq ?_
          refine c_seq ?_
          refine c_region ?_
          refine s_val hS (by decide) rfl rfl (r_move hS rfl) ?_; clear hS; intro a hS
          refine s_val hS (by decide) rfl rfl (r_move hS rfl) ?_; clear hS; intro a hS
          refine s_val hS (by decide) rfl rfl (r_convFI hS rfl (by kernel_rfl) Tryd.underlying42 (fl_u64 hs h17)) ?_; clear hS; intro a hS
          refine s_pure hS hM (by decide) rfl (thou_ok _ (hG.keep hM trivial) _ (by omega)) ?_; clear hS hM; intro a w hS hM
          refine s_val hS (by decide) rfl rfl (r_addS hS rfl rfl (by decide) (th_len _)) ?_; clear hS; intro a hS
          refine s_val hS (by decide) rfl rfl (r_assign hS rfl) ?_; clear hS; intro a hS
          refine s_nil ?_
          refine k_seq ?_
          refine c_ret ?_
          exact k_res1 hS rfl (RV.tmp rfl) ⟨(congrArg (fun q => Ending.returned (SV q)) (by first | exact (shw_nan h6).symm | (rw [shw_inf h6 h12, h8]; rfl) | (rw [shw_big h6 h12 h17, h8]; rfl) | (rw [shw_th h6 h12 h17, h8]; rfl))), hM.done trivial⟩

set_option maxRecDepth 100000 in
theorem rshow_ok (w0 : World) (x : BitVec 64) : Pure Tryd.prog 17 #[F x] w0 (SV (shw x)) := by
  refine ⟨by kernel_rfl, ?_⟩
  refine calls_sym Tryd.func17 rfl (by kernel_rfl) ?_
  intro a hS
  have hM : Mem w0 w0 [] := Mem.refl w0
  refine c_seq ?_
  refine c_region ?_
  refine s_val hS (by decide) rfl rfl (r_assign hS (show ev _ _ = some (SV []) from rfl)) ?_; clear hS; intro a hS
  refine s_nil ?_
  refine k_seq ?_
  refine c_seq ?_
  refine c_seq ?_
  refine c_region ?_
  refine s_val hS (by decide) rfl rfl (r_move hS rfl) ?_; clear hS; intro a hS
  refine s_val hS (by decide) rfl rfl (r_move hS rfl) ?_; clear hS; intro a hS
  refine s_val hS (by decide) rfl rfl (r_bv hS rfl rfl gF (b_neqF _ _ _)) ?_; clear hS; intro a hS
  refine s_nil ?_
  refine k_seq ?_
  refine c_cond hS rfl (fun hc => ?_) (fun hc => ?_)
  · rw [fo_self] at hc; have h6 := hc
    refine c_seq ?_
    refine c_region ?_
    refine s_val hS (by decide) rfl rfl (r_assign hS (show ev _ _ = some (SV [110, 97, 110]) from rfl)) ?_; clear hS; intro a hS
    refine s_nil ?_
    refine k_seq ?_
    refine c_ret ?_
    refine k_thenr ?_
    exact k_res1 hS rfl (RV.tmp rfl) ⟨(congrArg (fun q => Ending.returned (SV q)) (by first | exact (shw_nan h6).symm | (rw [shw_inf h6 h12, h8]; rfl) | (rw [shw_big h6 h12 h17, h8]; rfl) | (rw [shw_th h6 h12 h17, h8, th_def, tl_drop]; rfl))), hM.done trivial⟩
  · rw [fo_self] at hc; have h6 := hc; have hz := sgn_abs x; have hzn := (nan_abs x).trans h6
    refine c_skip ?_
    refine k_seq ?_
    refine c_seq ?_
    refine c_region ?_
    refine s_val hS (by decide) rfl rfl (r_assign hS (show ev _ _ = some (SV []) from rfl)) ?_; clear hS; intro a hS
    refine s_nil ?_
    refine k_seq ?_
    refine c_seq ?_
    refine c_seq ?_
    refine c_region ?_
    refine s_val hS (by decide) rfl rfl (r_move hS rfl) ?_; clear hS; intro a hS
    refine s_pure hS hM (by decide) rfl (minus_ok _ _) ?_; clear hS hM; intro a w hS hM
    refine s_nil ?_
    refine k_seq ?_
    refine c_cond hS rfl (fun hc => ?_) (fun hc => ?_)
    · rw [mn_num h6] at hc; have h8 := hc
      refine c_seq ?_
      refine c_region ?_
      refine s_val hS (by decide) rfl rfl (r_assign hS (show ev _ _ = some (SV [45]) from rfl)) ?_; clear hS; intro a hS
      refine s_nil ?_
      refine k_seq ?_
      refine c_region ?_
      refine s_val hS (by decide) rfl rfl (r_move hS rfl) ?_; clear hS; intro a hS
      refine s_val hS (by decide) rfl rfl (r_negF hS rfl) ?_; clear hS; intro a hS
      refine s_val hS (by decide) rfl rfl (r_assign hS rfl) ?_; clear hS; intro a hS
      rw [neg_abs h8] at hS
      refine s_nil ?_
      refine k_seq ?_
      refine c_seq ?_
      refine c_seq ?_
      refine c_region ?_
      refine s_val hS (by decide) rfl rfl (r_move hS rfl) ?_; clear hS; intro a hS
      refine s_valb hS (by decide) rfl rfl (r_bv hS rfl (show ev _ _ = some (F 0#64) from rfl) gF (b_gtrF _ _ _)) (fun hc => ?_) (fun hc => ?_)
      · clear hS; intro a hS; rw [gt_zero hz hzn] at hc; have h14 := of_decide_eq_true hc
        refine s_val hS (by decide) rfl rfl (r_move hS rfl) ?_; clear hS; intro a hS
        refine s_valg hS (by decide) rfl rfl rfl rfl rfl (r_move hS rfl) ?_; clear hS; intro a hS
        refine s_valg hS (by decide) rfl rfl rfl rfl rfl (r_move hS rfl) ?_; clear hS; intro a hS
        refine s_floatg hS hM (by decide) rfl (show ev _ _ = some (F 4611686018427387904#64) from rfl) rfl rfl rfl (.inr (.inr (.inr rfl))) ?_; clear hS hM; intro a w r18 hr18 hS hM
        refine s_valg hS (by decide) rfl rfl rfl rfl rfl (r_bv hS rfl rfl gF (b_eqlF _ _ _)) ?_; clear hS; intro a hS
        refine s_val hS (by decide) rfl rfl (r_pick hS rfl rfl) ?_; clear hS; intro a hS
        refine s_nil ?_
        refine k_seq ?_
        refine c_cond hS rfl (fun hc => ?_) (fun hc => ?_)
        · have h12 := (rung_abs x).symm.trans (eq_of_beq ((half_eq hz hzn h14 hr18).symm.trans hc))
          refine c_seq ?_
          refine c_region ?_
          refine s_val hS (by decide) rfl rfl (r_move hS rfl) ?_; clear hS; intro a hS
          refine s_val hS (by decide) rfl rfl (r_addS hS rfl (show ev _ _ = some (SV [105, 110, 102]) from rfl) (by decide) (by decide)) ?_; clear hS; intro a hS
          refine s_val hS (by decide) rfl rfl (r_assign hS rfl) ?_; clear hS; intro a hS
          refine s_nil ?_
          refine k_seq ?_
          refine c_ret ?_
          refine k_thenr ?_
          exact k_res1 hS rfl (RV.tmp rfl) ⟨(congrArg (fun q => Ending.returned (SV q)) (by first | exact (shw_nan h6).symm | (rw [shw_inf h6 h12, h8]; rfl) | (rw [shw_big h6 h12 h17, h8]; rfl) | (rw [shw_th h6 h12 h17, h8, th_def, tl_drop]; rfl))), hM.done trivial⟩
        · have h12 : ¬ rung x = infR := (by intro e; exact ne_of_beq_false ((half_eq hz hzn h14 hr18).symm.trans hc) ((rung_abs x).trans e))
          refine c_skip ?_
          refine k_seq ?_
          refine c_seq ?_
          refine c_region ?_
          refine s_val hS (by decide) rfl rfl (r_move hS rfl) ?_; clear hS; intro a hS
          refine s_float hS hM (by decide) rfl (show ev _ _ = some (F 4652007308841189376#64) from rfl) (.inr (.inr (.inl rfl))) ?_; clear hS hM; intro a w r24 hr24 hS hM
          obtain ⟨he, hs, hnn⟩ := mul_eq (sgn_abs x) (by rw [nan_abs]; exact h6) hr24; subst he
          refine s_val hS (by decide) rfl rfl (r_assign hS rfl) ?_; clear hS; intro a hS
          refine s_nil ?_
          refine k_seq ?_
          refine c_seq ?_
          refine c_seq ?_
          refine c_region ?_
          refine s_val hS (by decide) rfl rfl (r_move hS rfl) ?_; clear hS; intro a hS
          refine s_val hS (by decide) rfl rfl (r_bv hS rfl (show ev _ _ = some (F 4845873199050653696#64) from rfl) gF (b_geqF _ _ _)) ?_; clear hS; intro a hS
          refine s_nil ?_
          refine k_seq ?_
          refine c_cond hS rfl (fun hc => ?_) (fun hc => ?_)
          · rw [big_iff hs hnn] at hc; have h17 := Nat.not_lt.2 (of_decide_eq_true hc)
            refine c_seq ?_
            refine c_region ?_
            refine s_val hS (by decide) rfl rfl (r_move hS rfl) ?_; clear hS; intro a hS
            refine s_val hS (by decide) rfl rfl (r_addS hS rfl (show ev _ _ = some (SV [98, 105, 103]) from rfl) (by decide) (by decide)) ?_; clear hS; intro a hS
            refine s_val hS (by decide) rfl rfl (r_assign hS rfl) ?_; clear hS; intro a hS
            refine s_nil ?_
            refine k_seq ?_
            refine c_ret ?_
            refine k_thenr ?_
            exact k_res1 hS rfl (RV.tmp rfl) ⟨(congrArg (fun q => Ending.returned (SV q)) (by first | exact (shw_nan h6).symm | (rw [shw_inf h6 h12, h8]; rfl) | (rw [shw_big h6 h12 h17, h8]; rfl) | (rw [shw_th h6 h12 h17, h8, th_def, tl_drop]; rfl))), hM.done trivial⟩
          · rw [big_iff hs hnn] at hc; have h17 := Nat.lt_of_not_le (of_decide_eq_false hc); have hfl := (fl_int hs h17).2
            refine c_skip ?_
            refine k_seq ?_
            refine c_seq ?_
            refine c_region ?_
            refine s_val hS (by decide) rfl rfl (r_move hS rfl) ?_; clear hS; intro a hS
            refine s_val hS (by decide) rfl rfl (r_convFI hS rfl (by kernel_rfl) Tryd.underlying3 (fl_i64 hs h17)) ?_; clear hS; intro a hS
            refine s_val hS (by decide) rfl rfl (r_assign hS rfl) ?_; clear hS; intro a hS
            refine s_nil ?_
            refine k_seq ?_
            refine c_seq ?_
            refine c_region ?_
            refine s_val hS (by decide) rfl rfl (r_move hS rfl) ?_; clear hS; intro a hS
            refine s_val hS (by decide) rfl rfl (r_move hS rfl) ?_; clear hS; intro a hS
            refine s_val hS (by decide) rfl rfl (r_bv hS rfl (show ev _ _ = some (N 1000) from rfl) gN (b_quoN _ _ _ (by omega) (by omega))) ?_; clear hS; intro a hS
            refine s_pure hS hM (by decide) rfl (dec_ok _ _ (by omega)) ?_; clear hS hM; intro a w hS hM
            refine s_val hS (by decide) rfl rfl (r_addS hS rfl rfl (by decide) (ds_short _)) ?_; clear hS; intro a hS
            refine s_val hS (by decide) rfl rfl (r_addS hS rfl (show ev _ _ = some (SV [46]) from rfl) (pre_len (by decide)) (by decide)) ?_; clear hS; intro a hS
            refine s_val hS (by decide) rfl rfl (r_move hS rfl) ?_; clear hS; intro a hS
            refine s_val hS (by decide) rfl rfl (r_bv hS rfl (show ev _ _ = some (N 1000) from rfl) gN (b_remN _ _ _ (by omega))) ?_; clear hS; intro a hS
            refine s_val hS (by decide) rfl rfl (r_bv hS (show ev _ _ = some (N 1000) from rfl) rfl gN (b_addN _ _ _ (by omega))) ?_; clear hS; intro a hS
            refine s_pure hS hM (by decide) rfl (dec_ok _ _ (by omega)) ?_; clear hS hM; intro a w hS hM
            refine s_val hS (by decide) rfl rfl (r_partS hS rfl ⟨_, (show ev _ _ = some (.int .i64 ((1 : Nat) : Int)) from rfl)⟩ rfl Tryd.underlying9 (ds_len _).1 (Nat.le_refl _)) ?_; clear hS; intro a hS
            refine s_val hS (by decide) rfl rfl (r_addS hS rfl rfl (pre_dot (by decide)) (cut_len _)) ?_; clear hS; intro a hS
            refine s_val hS (by decide) rfl rfl (r_assign hS rfl) ?_; clear hS; intro a hS
            refine s_nil ?_
            refine k_seq ?_
            refine c_ret ?_
            exact k_res1 hS rfl (RV.tmp rfl) ⟨(congrArg (fun q => Ending.returned (SV q)) (by first | exact (shw_nan h6).symm | (rw [shw_inf h6 h12, h8]; rfl) | (rw [shw_big h6 h12 h17, h8]; rfl) | (rw [shw_th h6 h12 h17, h8, th_def, tl_drop]; rfl))), hM.done trivial⟩
      · clear hS; intro a hS; rw [gt_zero hz hzn, rung_abs] at hc; have h14 := of_decide_eq_false hc
        refine s_val hS (by decide) rfl rfl (r_move hS rfl) ?_; clear hS; intro a hS
        refine s_skip hS (by decide) rfl rfl rfl rfl rfl ?_; clear hS; intro a hS
        refine s_skip hS (by decide) rfl rfl rfl rfl rfl ?_; clear hS; intro a hS
        refine s_skip hS (by decide) rfl rfl rfl rfl rfl ?_; clear hS; intro a hS
        refine s_skip hS (by decide) rfl rfl rfl rfl rfl ?_; clear hS; intro a hS
        refine s_val hS (by decide) rfl rfl (r_pick hS rfl rfl) ?_; clear hS; intro a hS
        refine s_nil ?_
        refine k_seq ?_
        refine c_false hS rfl rfl ?_
        have h12 : ¬ rung x = infR := (by intro e; rw [e] at h14; exact h14 (by decide))
        refine c_skip ?_
        refine k_seq ?_
        refine c_seq ?_
        refine c_region ?_
        refine s_val hS (by decide) rfl rfl (r_move hS rfl) ?_; clear hS; intro a hS
        refine s_float hS hM (by decide) rfl (show ev _ _ = some (F 4652007308841189376#64) from rfl) (.inr (.inr (.inl rfl))) ?_; clear hS hM; intro a w r24 hr24 hS hM
        obtain ⟨he, hs, hnn⟩ := mul_eq (sgn_abs x) (by rw [nan_abs]; exact h6) hr24; subst he
        refine s_val hS (by decide) rfl rfl (r_assign hS rfl) ?_; clear hS; intro a hS
        refine s_nil ?_
        refine k_seq ?_
        refine c_seq ?_
        refine c_seq ?_
        refine c_region ?_
        refine s_val hS (by decide) rfl rfl (r_move hS rfl) ?_; clear hS; intro a hS
        refine s_val hS (by decide) rfl rfl (r_bv hS rfl (show ev _ _ = some (F 4845873199050653696#64) from rfl) gF (b_geqF _ _ _)) ?_; clear hS; intro a hS
        refine s_nil ?_
        refine k_seq ?_
        refine c_cond hS rfl (fun hc => ?_) (fun hc => ?_)
        · rw [big_iff hs hnn] at hc; have h17 := Nat.not_lt.2 (of_decide_eq_true hc)
          refine c_seq ?_
          refine c_region ?_
          refine s_val hS (by decide) rfl rfl (r_move hS rfl) ?_; clear hS; intro a hS
          refine s_val hS (by decide) rfl rfl (r_addS hS rfl (show ev _ _ = some (SV [98, 105, 103]) from rfl) (by decide) (by decide)) ?_; clear hS; intro a hS
          refine s_val hS (by decide) rfl rfl (r_assign hS rfl) ?_; clear hS; intro a hS
          refine s_nil ?_
          refine k_seq ?_
          refine c_ret ?_
          refine k_thenr ?_
          exact k_res1 hS rfl (RV.tmp rfl) ⟨(congrArg (fun q => Ending.returned (SV q)) (by first | exact (shw_nan h6).symm | (rw [shw_inf h6 h12, h8]; rfl) | (rw [shw_big h6 h12 h17, h8]; rfl) | (rw [shw_th h6 h12 h17, h8, th_def, tl_drop]; rfl))), hM.done trivial⟩
        · rw [big_iff hs hnn] at hc; have h17 := Nat.lt_of_not_le (of_decide_eq_false hc); have hfl := (fl_int hs h17).2
          refine c_skip ?_
          refine k_seq ?_
          refine c_seq ?_
          refine c_region ?_
          refine s_val hS (by decide) rfl rfl (r_move hS rfl) ?_; clear hS; intro a hS
          refine s_val hS (by decide) rfl rfl (r_convFI hS rfl (by kernel_rfl) Tryd.underlying3 (fl_i64 hs h17)) ?_; clear hS; intro a hS
          refine s_val hS (by decide) rfl rfl (r_assign hS rfl) ?_; clear hS; intro a hS
          refine s_nil ?_
          refine k_seq ?_
          refine c_seq ?_
          refine c_region ?_
          refine s_val hS (by decide) rfl rfl (r_move hS rfl) ?_; clear hS; intro a hS
          refine s_val hS (by decide) rfl rfl (r_move hS rfl) ?_; clear hS; intro a hS
          refine s_val hS (by decide) rfl rfl (r_bv hS rfl (show ev _ _ = some (N 1000) from rfl) gN (b_quoN _ _ _ (by omega) (by omega))) ?_; clear hS; intro a hS
          refine s_pure hS hM (by decide) rfl (dec_ok _ _ (by omega)) ?_; clear hS hM; intro a w hS hM
          refine s_val hS (by decide) rfl rfl (r_addS hS rfl rfl (by decide) (ds_short _)) ?_; clear hS; intro a hS
          refine s_val hS (by decide) rfl rfl (r_addS hS rfl (show ev _ _ = some (SV [46]) from rfl) (pre_len (by decide)) (by decide)) ?_; clear hS; intro a hS
          refine s_val hS (by decide) rfl rfl (r_move hS rfl) ?_; clear hS; intro a hS
          refine s_val hS (by decide) rfl rfl (r_bv hS rfl (show ev _ _ = some (N 1000) from rfl) gN (b_remN _ _ _ (by omega))) ?_; clear hS; intro a hS
          refine s_val hS (by decide) rfl rfl (r_bv hS (show ev _ _ = some (N 1000) from rfl) rfl gN (b_addN _ _ _ (by omega))) ?_; clear hS; intro a hS
          refine s_pure hS hM (by decide) rfl (dec_ok _ _ (by omega)) ?_; clear hS hM; intro a w hS hM
          refine s_val hS (by decide) rfl rfl (r_partS hS rfl ⟨_, (show ev _ _ = some (.int .i64 ((1 : Nat) : Int)) from rfl)⟩ rfl Tryd.underlying9 (ds_len _).1 (Nat.le_refl _)) ?_; clear hS; intro a hS
          refine s_val hS (by decide) rfl rfl (r_addS hS rfl rfl (pre_dot (by decide)) (cut_len _)) ?_; clear hS; intro a hS
          refine s_val hS (by decide) rfl rfl (r_assign hS rfl) ?_; clear hS; intro a hS
          refine s_nil ?_
          refine k_seq ?_
          refine c_ret ?_
          exact k_res1 hS rfl (RV.tmp rfl) ⟨(congrArg (fun q => Ending.returned (SV q)) (by first | exact (shw_nan h6).symm | (rw [shw_inf h6 h12, h8]; rfl) | (rw [shw_big h6 h12 h17, h8]; rfl) | (rw [shw_th h6 h12 h17, h8, th_def, tl_drop]; rfl))), hM.done trivial⟩
    · rw [mn_num h6] at hc; have h8 := hc; rw [← abs_self h8] at hS
      refine c_skip ?_
      refine k_seq ?_
      refine c_seq ?_
      refine c_seq ?_
      refine c_region ?_
      refine s_val hS (by decide) rfl rfl (r_move hS rfl) ?_; clear hS; intro a hS
      refine s_valb hS (by decide) rfl rfl (r_bv hS rfl (show ev _ _ = some (F 0#64) from rfl) gF (b_gtrF _ _ _)) (fun hc => ?_) (fun hc => ?_)
      · clear hS; intro a hS; rw [gt_zero hz hzn] at hc; have h14 := of_decide_eq_true hc
        refine s_val hS (by decide) rfl rfl (r_move hS rfl) ?_; clear hS; intro a hS
        refine s_valg hS (by decide) rfl rfl rfl rfl rfl (r_move hS rfl) ?_; clear hS; intro a hS
        refine s_valg hS (by decide) rfl rfl rfl rfl rfl (r_move hS rfl) ?_; clear hS; intro a hS
        refine s_floatg hS hM (by decide) rfl (show ev _ _ = some (F 4611686018427387904#64) from rfl) rfl rfl rfl (.inr (.inr (.inr rfl))) ?_; clear hS hM; intro a w r18 hr18 hS hM
        refine s_valg hS (by decide) rfl rfl rfl rfl rfl (r_bv hS rfl rfl gF (b_eqlF _ _ _)) ?_; clear hS; intro a hS
        refine s_val hS (by decide) rfl rfl (r_pick hS rfl rfl) ?_; clear hS; intro a hS
        refine s_nil ?_
        refine k_seq ?_
        refine c_cond hS rfl (fun hc => ?_) (fun hc => ?_)
        · have h12 := (rung_abs x).symm.trans (eq_of_beq ((half_eq hz hzn h14 hr18).symm.trans hc))
          refine c_seq ?_
          refine c_region ?_
          refine s_val hS (by decide) rfl rfl (r_move hS rfl) ?_; clear hS; intro a hS
          refine s_val hS (by decide) rfl rfl (r_addS hS rfl (show ev _ _ = some (SV [105, 110, 102]) from rfl) (by decide) (by decide)) ?_; clear hS; intro a hS
          refine s_val hS (by decide) rfl rfl (r_assign hS rfl) ?_; clear hS; intro a hS
          refine s_nil ?_
          refine k_seq ?_
          refine c_ret ?_
          refine k_thenr ?_
          exact k_res1 hS rfl (RV.tmp rfl) ⟨(congrArg (fun q => Ending.returned (SV q)) (by first | exact (shw_nan h6).symm | (rw [shw_inf h6 h12, h8]; rfl) | (rw [shw_big h6 h12 h17, h8]; rfl) | (rw [shw_th h6 h12 h17, h8, th_def, tl_drop]; rfl))), hM.done trivial⟩
        · have h12 : ¬ rung x = infR := (by intro e; exact ne_of_beq_false ((half_eq hz hzn h14 hr18).symm.trans hc) ((rung_abs x).trans e))
          refine c_skip ?_
          refine k_seq ?_
          refine c_seq ?_
          refine c_region ?_
          refine s_val hS (by decide) rfl rfl (r_move hS rfl) ?_; clear hS; intro a hS
          refine s_float hS hM (by decide) rfl (show ev _ _ = some (F 4652007308841189376#64) from rfl) (.inr (.inr (.inl rfl))) ?_; clear hS hM; intro a w r24 hr24 hS hM
          obtain ⟨he, hs, hnn⟩ := mul_eq (sgn_abs x) (by rw [nan_abs]; exact h6) hr24; subst he
          refine s_val hS (by decide) rfl rfl (r_assign hS rfl) ?_; clear hS; intro a hS
          refine s_nil ?_
          refine k_seq ?_
          refine c_seq ?_
          refine c_seq ?_
          refine c_region ?_
          refine s_val hS (by decide) rfl rfl (r_move hS rfl) ?_; clear hS; intro a hS
          refine s_val hS (by decide) rfl rfl (r_bv hS rfl (show ev _ _ = some (F 4845873199050653696#64) from rfl) gF (b_geqF _ _ _)) ?_; clear hS; intro a hS
          refine s_nil ?_
          refine k_seq ?_
          refine c_cond hS rfl (fun hc => ?_) (fun hc => ?_)
          · rw [big_iff hs hnn] at hc; have h17 := Nat.not_lt.2 (of_decide_eq_true hc)
            refine c_seq ?_
            refine c_region ?_
            refine s_val hS (by decide) rfl rfl (r_move hS rfl) ?_; clear hS; intro a hS
            refine s_val hS (by decide) rfl rfl (r_addS hS rfl (show ev _ _ = some (SV [98, 105, 103]) from rfl) (by decide) (by decide)) ?_; clear hS; intro a hS
            refine s_val hS (by decide) rfl rfl (r_assign hS rfl) ?_; clear hS; intro a hS
            refine s_nil ?_
            refine k_seq ?_
            refine c_ret ?_
            refine k_thenr ?_
            exact k_res1 hS rfl (RV.tmp rfl) ⟨(congrArg (fun q => Ending.returned (SV q)) (by first | exact (shw_nan h6).symm | (rw [shw_inf h6 h12, h8]; rfl) | (rw [shw_big h6 h12 h17, h8]; rfl) | (rw [shw_th h6 h12 h17, h8, th_def, tl_drop]; rfl))), hM.done trivial⟩
          · rw [big_iff hs hnn] at hc; have h17 := Nat.lt_of_not_le (of_decide_eq_false hc); have hfl := (fl_int hs h17).2
            refine c_skip ?_
            refine k_seq ?_
            refine c_seq ?_
            refine c_region ?_
            refine s_val hS (by decide) rfl rfl (r_move hS rfl) ?_; clear hS; intro a hS
            refine s_val hS (by decide) rfl rfl (r_convFI hS rfl (by kernel_rfl) Tryd.underlying3 (fl_i64 hs h17)) ?_; clear hS; intro a hS
            refine s_val hS (by decide) rfl rfl (r_assign hS rfl) ?_; clear hS; intro a hS
            refine s_nil ?_
            refine k_seq ?_
            refine c_seq ?_
            refine c_region ?_
            refine s_val hS (by decide) rfl rfl (r_move hS rfl) ?_; clear hS; intro a hS
            refine s_val hS (by decide) rfl rfl (r_move hS rfl) ?_; clear hS; intro a hS
            refine s_val hS (by decide) rfl rfl (r_bv hS rfl (show ev _ _ = some (N 1000) from rfl) gN (b_quoN _ _ _ (by omega) (by omega))) ?_; clear hS; intro a hS
            refine s_pure hS hM (by decide) rfl (dec_ok _ _ (by omega)) ?_; clear hS hM; intro a w hS hM
            refine s_val hS (by decide) rfl rfl (r_addS hS rfl rfl (by decide) (ds_short _)) ?_; clear hS; intro a hS
            refine s_val hS (by decide) rfl rfl (r_addS hS rfl (show ev _ _ = some (SV [46]) from rfl) (pre_len (by decide)) (by decide)) ?_; clear hS; intro a hS
            refine s_val hS (by decide) rfl rfl (r_move hS rfl) ?_; clear hS; intro a hS
            refine s_val hS (by decide) rfl rfl (r_bv hS rfl (show ev _ _ = some (N 1000) from rfl) gN (b_remN _ _ _ (by omega))) ?_; clear hS; intro a hS
            refine s_val hS (by decide) rfl rfl (r_bv hS (show ev _ _ = some (N 1000) from rfl) rfl gN (b_addN _ _ _ (by omega))) ?_; clear hS; intro a hS
            refine s_pure hS hM (by decide) rfl (dec_ok _ _ (by omega)) ?_; clear hS hM; intro a w hS hM
            refine s_val hS (by decide) rfl rfl (r_partS hS rfl ⟨_, (show ev _ _ = some (.int .i64 ((1 : Nat) : Int)) from rfl)⟩ rfl Tryd.underlying9 (ds_len _).1 (Nat.le_refl _)) ?_; clear hS; intro a hS
            refine s_val hS (by decide) rfl rfl (r_addS hS rfl rfl (pre_dot (by decide)) (cut_len _)) ?_; clear hS; intro a hS
            refine s_val hS (by decide) rfl rfl (r_assign hS rfl) ?_; clear hS; intro a hS
            refine s_nil ?_
            refine k_seq ?_
            refine c_ret ?_
            exact k_res1 hS rfl (RV.tmp rfl) ⟨(congrArg (fun q => Ending.returned (SV q)) (by first | exact (shw_nan h6).symm | (rw [shw_inf h6 h12, h8]; rfl) | (rw [shw_big h6 h12 h17, h8]; rfl) | (rw [shw_th h6 h12 h17, h8, th_def, tl_drop]; rfl))), hM.done trivial⟩
      · clear hS; intro a hS; rw [gt_zero hz hzn, rung_abs] at hc; have h14 := of_decide_eq_false hc
        refine s_val hS (by decide) rfl rfl (r_move hS rfl) ?_; clear hS; intro a hS
        refine s_skip hS (by decide) rfl rfl rfl rfl rfl ?_; clear hS; intro a hS
        refine s_skip hS (by decide) rfl rfl rfl rfl rfl ?_; clear hS; intro a hS
        refine s_skip hS (by decide) rfl rfl rfl rfl rfl ?_; clear hS; intro a hS
        refine s_skip hS (by decide) rfl rfl rfl rfl rfl ?_; clear hS; intro a hS
        refine s_val hS (by decide) rfl rfl (r_pick hS rfl rfl) ?_; clear hS; intro a hS
        refine s_nil ?_
        refine k_seq ?_
        refine c_false hS rfl rfl ?_
        have h12 : ¬ rung x = infR := (by intro e; rw [e] at h14; exact h14 (by decide))
        refine c_skip ?_
        refine k_seq ?_
        refine c_seq ?_
        refine c_region ?_
        refine s_val hS (by decide) rfl rfl (r_move hS rfl) ?_; clear hS; intro a hS
        refine s_float hS hM (by decide) rfl (show ev _ _ = some (F 4652007308841189376#64) from rfl) (.inr (.inr (.inl rfl))) ?_; clear hS hM; intro a w r24 hr24 hS hM
        obtain ⟨he, hs, hnn⟩ := mul_eq (sgn_abs x) (by rw [nan_abs]; exact h6) hr24; subst he
        refine s_val hS (by decide) rfl rfl (r_assign hS rfl) ?_; clear hS; intro a hS
        refine s_nil ?_
        refine k_seq ?_
        refine c_seq ?_
        refine c_seq ?_
        refine c_region ?_
        refine s_val hS (by decide) rfl rfl (r_move hS rfl) ?_; clear hS; intro a hS
        refine s_val hS (by decide) rfl rfl (r_bv hS rfl (show ev _ _ = some (F 4845873199050653696#64) from rfl) gF (b_geqF _ _ _)) ?_; clear hS; intro a hS
        refine s_nil ?_
        refine k_seq ?_
        refine c_cond hS rfl (fun hc => ?_) (fun hc => ?_)
        · rw [big_iff hs hnn] at hc; have h17 := Nat.not_lt.2 (of_decide_eq_true hc)
          refine c_seq ?_
          refine c_region ?_
          refine s_val hS (by decide) rfl rfl (r_move hS rfl) ?_; clear hS; intro a hS
          refine s_val hS (by decide) rfl rfl (r_addS hS rfl (show ev _ _ = some (SV [98, 105, 103]) from rfl) (by decide) (by decide)) ?_; clear hS; intro a hS
          refine s_val hS (by decide) rfl rfl (r_assign hS rfl) ?_; clear hS; intro a hS
          refine s_nil ?_
          refine k_seq ?_
          refine c_ret ?_
          refine k_thenr ?_
          exact k_res1 hS rfl (RV.tmp rfl) ⟨(congrArg (fun q => Ending.returned (SV q)) (by first | exact (shw_nan h6).symm | (rw [shw_inf h6 h12, h8]; rfl) | (rw [shw_big h6 h12 h17, h8]; rfl) | (rw [shw_th h6 h12 h17, h8, th_def, tl_drop]; rfl))), hM.done trivial⟩
        · rw [big_iff hs hnn] at hc; have h17 := Nat.lt_of_not_le (of_decide_eq_false hc); have hfl := (fl_int hs h17).2
          refine c_skip ?_
          refine k_seq ?_
          refine c_seq ?_
          refine c_region ?_
          refine s_val hS (by decide) rfl rfl (r_move hS rfl) ?_; clear hS; intro a hS
          refine s_val hS (by decide) rfl rfl (r_convFI hS rfl (by kernel_rfl) Tryd.underlying3 (fl_i64 hs h17)) ?_; clear hS; intro a hS
          refine s_val hS (by decide) rfl rfl (r_assign hS rfl) ?_; clear hS; intro a hS
          refine s_nil ?_
          refine k_seq ?_
          refine c_seq ?_
          refine c_region ?_
          refine s_val hS (by decide) rfl rfl (r_move hS rfl) ?_; clear hS; intro a hS
          refine s_val hS (by decide) rfl rfl (r_move hS rfl) ?_; clear hS; intro a hS
          refine s_val hS (by decide) rfl rfl (r_bv hS rfl (show ev _ _ = some (N 1000) from rfl) gN (b_quoN _ _ _ (by omega) (by omega))) ?_; clear hS; intro a hS
          refine s_pure hS hM (by decide) rfl (dec_ok _ _ (by omega)) ?_; clear hS hM; intro a w hS hM
          refine s_val hS (by decide) rfl rfl (r_addS hS rfl rfl (by decide) (ds_short _)) ?_; clear hS; intro a hS
          refine s_val hS (by decide) rfl rfl (r_addS hS rfl (show ev _ _ = some (SV [46]) from rfl) (pre_len (by decide)) (by decide)) ?_; clear hS; intro a hS
          refine s_val hS (by decide) rfl rfl (r_move hS rfl) ?_; clear hS; intro a hS
          refine s_val hS (by decide) rfl rfl (r_bv hS rfl (show ev _ _ = some (N 1000) from rfl) gN (b_remN _ _ _ (by omega))) ?_; clear hS; intro a hS
          refine s_val hS (by decide) rfl rfl (r_bv hS (show ev _ _ = some (N 1000) from rfl) rfl gN (b_addN _ _ _ (by omega))) ?_; clear hS; intro a hS
          refine s_pure hS hM (by decide) rfl (dec_ok _ _ (by omega)) ?_; clear hS hM; intro a w hS hM
          refine s_val hS (by decide) rfl rfl (r_partS hS rfl ⟨_, (show ev _ _ = some (.int .i64 ((1 : Nat) : Int)) from rfl)⟩ rfl Tryd.underlying9 (ds_len _).1 (Nat.le_refl _)) ?_; clear hS; intro a hS
          refine s_val hS (by decide) rfl rfl (r_addS hS rfl rfl (pre_dot (by decide)) (cut_len _)) ?_; clear hS; intro a hS
          refine s_val hS (by decide) rfl rfl (r_assign hS rfl) ?_; clear hS; intro a hS
          refine s_nil ?_
          refine k_seq ?_
          refine c_ret ?_
          exact k_res1 hS rfl (RV.tmp rfl) ⟨(congrArg (fun q => Ending.returned (SV q)) (by first | exact (shw_nan h6).symm | (rw [shw_inf h6 h12, h8]; rfl) | (rw [shw_big h6 h12 h17, h8]; rfl) | (rw [shw_th h6 h12 h17, h8, th_def, tl_drop]; rfl))), hM.done trivial⟩
end Go.Proofs.YtbfiaoemoookcaaDoor
