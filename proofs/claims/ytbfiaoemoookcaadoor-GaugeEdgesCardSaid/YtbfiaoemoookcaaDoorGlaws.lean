/- The walks of the laws of chapter 30 on single numbers. Printed by a program of mine (walk.py). -/
import Derived.Test.YtbfiaoemoookcaaDoorGref
import Derived.Test.YtbfiaoemoookcaaDoorGlaw
namespace Go.Proofs.YtbfiaoemoookcaaDoor
open Go Go.Sym
attribute [local irreducible] dsF blen nd th fl mulR shw ds

theorem alike_al {x y : BitVec 64} (h : al x y) (w0 : World) : Pure Tryd.prog 10 #[F x, F y] w0 (.bool true) := by
  have := alike_ok x y w0
  rwa [decide_eq_true h.ord] at this


set_option maxRecDepth 100000 in
theorem alive_ok (w0 : World) (hG : PW w0) : Pure Tryd.prog 8 #[] w0 (.bool true) := by
  refine ⟨by kernel_rfl, ?_⟩
  refine calls_sym Tryd.func8 rfl (by kernel_rfl) ?_
  intro a hS
  have hM : Mem w0 w0 [] := Mem.refl w0
  refine c_seq ?_
  refine c_region ?_
  refine s_val hS (by decide) rfl rfl (r_assign hS rfl) ?_; clear hS; intro a hS
  refine s_nil ?_
  refine k_seq ?_
  refine c_seq ?_
  refine c_region ?_
  refine s_tells hS hM (by decide) (vs := [.int .i64 0, .int .i64 (-5)]) rfl (rate_ok _ 0 (-5)) ?_; clear hS hM; intro a w v1 hv1 hS hM
  obtain ⟨r1, rfl, hr1⟩ := hv1; obtain rfl := hr1.eq (v := 9223372036854775808#64) rate_m
  refine s_pure hS hM (by decide) rfl (show_ok _ (hG.keep hM trivial) _) ?_; clear hS hM; intro a w hS hM
  refine s_val hS (by decide) rfl rfl (r_eqlST hS rfl (show ev _ _ = some (SV [45, 48, 46, 48, 48, 48]) from rfl) shw_m) ?_; clear hS; intro a hS
  refine s_val hS (by decide) rfl rfl (r_move hS rfl) ?_; clear hS; intro a hS
  refine s_pureg hS hM (by decide) (vs := [F 4609434218613702656#64]) rfl rfl rfl rfl (show_ok _ (hG.keep hM trivial) _) ?_; clear hS hM; intro a w hS hM
  refine s_valg hS (by decide) rfl rfl rfl rfl rfl (r_eqlST hS rfl (show ev _ _ = some (SV [49, 46, 53, 48, 48]) from rfl) shw_15) ?_; clear hS; intro a hS
  refine s_val hS (by decide) rfl rfl (r_pick hS rfl rfl) ?_; clear hS; intro a hS
  refine s_val hS (by decide) rfl rfl (r_move hS rfl) ?_; clear hS; intro a hS
  refine s_pureg hS hM (by decide) (vs := [F 4607182418800017408#64, F 4611686018427387904#64]) rfl rfl rfl rfl (gord_ok _ _ _) ?_; clear hS hM; intro a w hS hM
  refine s_valg hS (by decide) rfl rfl rfl rfl rfl (r_bv hS rfl (show ev _ _ = some (.int .i64 (-1)) from rfl) gZ (b_eqlZ _ _ _)) ?_; clear hS; intro a hS
  refine s_val hS (by decide) rfl rfl (r_pick hS rfl rfl) ?_; clear hS; intro a hS
  refine s_val hS (by decide) rfl rfl (r_assign hS rfl) ?_; clear hS; intro a hS
  refine s_nil ?_
  refine k_seq ?_
  refine c_ret ?_
  exact k_res1 hS rfl (RV.tmp rfl) ⟨(congrArg (fun q => Ending.returned (.bool q)) (decide_eq_true ord_12)), hM.done trivial⟩

set_option maxRecDepth 100000 in
theorem gaugeTells_ok (w0 : World) (hG : PW w0) (n m : Int) (x y : BitVec 64) : Pure Tryd.prog 4 #[.int .i64 n, .int .i64 m, F x, F y] w0 (.bool true) := by
  refine ⟨by kernel_rfl, ?_⟩
  refine calls_sym Tryd.func4 rfl (by kernel_rfl) ?_
  intro a hS
  have hM : Mem w0 w0 [] := Mem.refl w0
  refine c_seq ?_
  refine c_region ?_
  refine s_val hS (by decide) rfl rfl (r_assign hS rfl) ?_; clear hS; intro a hS
  refine s_nil ?_
  refine k_seq ?_
  refine c_seq ?_
  refine c_region ?_
  refine s_pure hS hM (by decide) rfl (alive_ok _ (hG.keep hM trivial)) ?_; clear hS hM; intro a w hS hM
  refine s_val hS (by decide) rfl rfl (r_assign hS rfl) ?_; clear hS; intro a hS
  refine s_nil ?_
  refine k_seq ?_
  refine c_seq ?_
  refine c_region ?_
  refine s_val hS (by decide) rfl rfl (r_move hS rfl) ?_; clear hS; intro a hS
  refine s_val hS (by decide) rfl rfl (r_move hS rfl) ?_; clear hS; intro a hS
  refine s_valg hS (by decide) rfl rfl rfl rfl rfl (r_move hS rfl) ?_; clear hS; intro a hS
  refine s_valg hS (by decide) rfl rfl rfl rfl rfl (r_move hS rfl) ?_; clear hS; intro a hS
  refine s_tellsg hS hM (by decide) rfl rfl rfl rfl (rate_ok _ _ _) ?_; clear hS hM; intro a w v15 hv15 hS hM
  refine s_valg hS (by decide) rfl rfl rfl rfl rfl (r_move hS rfl) ?_; clear hS; intro a hS
  refine s_valg hS (by decide) rfl rfl rfl rfl rfl (r_move hS rfl) ?_; clear hS; intro a hS
  refine s_tellsg hS hM (by decide) rfl rfl rfl rfl (rrate_ok _ _ _) ?_; clear hS hM; intro a w v18 hv18 hS hM
  obtain ⟨ra, rb, rfl, rfl, hal⟩ := rate_al hv15 hv18
  refine s_pureg hS hM (by decide) rfl rfl rfl rfl (alike_al hal _) ?_; clear hS hM; intro a w hS hM
  refine s_val hS (by decide) rfl rfl (r_pick hS rfl rfl) ?_; clear hS; intro a hS
  refine s_val hS (by decide) rfl rfl (r_move hS rfl) ?_; clear hS; intro a hS
  refine s_valg hS (by decide) rfl rfl rfl rfl rfl (r_move hS rfl) ?_; clear hS; intro a hS
  refine s_valg hS (by decide) rfl rfl rfl rfl rfl (r_move hS rfl) ?_; clear hS; intro a hS
  refine s_pureg hS hM (by decide) rfl rfl rfl rfl (gord_ok _ _ _) ?_; clear hS hM; intro a w hS hM
  refine s_valg hS (by decide) rfl rfl rfl rfl rfl (r_move hS rfl) ?_; clear hS; intro a hS
  refine s_valg hS (by decide) rfl rfl rfl rfl rfl (r_move hS rfl) ?_; clear hS; intro a hS
  refine s_pureg hS hM (by decide) rfl rfl rfl rfl (rord_ok _ _ _) ?_; clear hS hM; intro a w hS hM
  refine s_valg hS (by decide) rfl rfl rfl rfl rfl (r_bv hS rfl rfl gZ ((b_eqlZ _ _ _).trans (by rw [decide_eq_true rfl]))) ?_; clear hS; intro a hS
  refine s_val hS (by decide) rfl rfl (r_pick hS rfl rfl) ?_; clear hS; intro a hS
  refine s_val hS (by decide) rfl rfl (r_move hS rfl) ?_; clear hS; intro a hS
  refine s_valg hS (by decide) rfl rfl rfl rfl rfl (r_move hS rfl) ?_; clear hS; intro a hS
  refine s_valg hS (by decide) rfl rfl rfl rfl rfl (r_move hS rfl) ?_; clear hS; intro a hS
  refine s_tellsg hS hM (by decide) rfl rfl rfl rfl (smooth_ok _ _ _) ?_; clear hS hM; intro a w v33 hv33 hS hM
  refine s_valg hS (by decide) rfl rfl rfl rfl rfl (r_move hS rfl) ?_; clear hS; intro a hS
  refine s_valg hS (by decide) rfl rfl rfl rfl rfl (r_move hS rfl) ?_; clear hS; intro a hS
  refine s_tellsg hS hM (by decide) rfl rfl rfl rfl (rsmooth_ok _ _ _) ?_; clear hS hM; intro a w v36 hv36 hS hM
  obtain ⟨sa, sb, rfl, rfl, hsl⟩ := smooth_al hv33 hv36
  refine s_pureg hS hM (by decide) rfl rfl rfl rfl (alike_al hsl _) ?_; clear hS hM; intro a w hS hM
  refine s_val hS (by decide) rfl rfl (r_pick hS rfl rfl) ?_; clear hS; intro a hS
  refine s_val hS (by decide) rfl rfl (r_move hS rfl) ?_; clear hS; intro a hS
  refine s_valg hS (by decide) rfl rfl rfl rfl rfl (r_move hS rfl) ?_; clear hS; intro a hS
  refine s_pureg hS hM (by decide) rfl rfl rfl rfl (show_ok _ (hG.keep hM trivial) _) ?_; clear hS hM; intro a w hS hM
  refine s_valg hS (by decide) rfl rfl rfl rfl rfl (r_move hS rfl) ?_; clear hS; intro a hS
  refine s_pureg hS hM (by decide) rfl rfl rfl rfl (rshow_ok _ _) ?_; clear hS hM; intro a w hS hM
  refine s_valg hS (by decide) rfl rfl rfl rfl rfl (r_eqlST hS rfl rfl rfl) ?_; clear hS; intro a hS
  refine s_val hS (by decide) rfl rfl (r_pick hS rfl rfl) ?_; clear hS; intro a hS
  refine s_val hS (by decide) rfl rfl (r_move hS rfl) ?_; clear hS; intro a hS
  refine s_valg hS (by decide) rfl rfl rfl rfl rfl (r_move hS rfl) ?_; clear hS; intro a hS
  refine s_valg hS (by decide) rfl rfl rfl rfl rfl (r_move hS rfl) ?_; clear hS; intro a hS
  refine s_tellsg hS hM (by decide) rfl rfl rfl rfl (rate_ok _ _ _) ?_; clear hS hM; intro a w v49 hv49 hS hM
  obtain ⟨rc, rfl, hrc⟩ := hv49
  refine s_pureg hS hM (by decide) rfl rfl rfl rfl (show_ok _ (hG.keep hM trivial) _) ?_; clear hS hM; intro a w hS hM
  refine s_valg hS (by decide) rfl rfl rfl rfl rfl (r_move hS rfl) ?_; clear hS; intro a hS
  refine s_valg hS (by decide) rfl rfl rfl rfl rfl (r_move hS rfl) ?_; clear hS; intro a hS
  refine s_tellsg hS hM (by decide) rfl rfl rfl rfl (rrate_ok _ _ _) ?_; clear hS hM; intro a w v53 hv53 hS hM
  obtain ⟨rd, rfl, hrd⟩ := hv53
  refine s_pureg hS hM (by decide) rfl rfl rfl rfl (rshow_ok _ _) ?_; clear hS hM; intro a w hS hM
  refine s_valg hS (by decide) rfl rfl rfl rfl rfl (r_eqlST hS rfl rfl (shw_al (hrc.al (al.refl _) (al.refl _) hrd))) ?_; clear hS; intro a hS
  refine s_val hS (by decide) rfl rfl (r_pick hS rfl rfl) ?_; clear hS; intro a hS
  refine s_val hS (by decide) rfl rfl (r_assign hS rfl) ?_; clear hS; intro a hS
  refine s_nil ?_
  refine k_seq ?_
  refine c_ret ?_
  exact k_res1 hS rfl (RV.tmp rfl) ⟨rfl, hM.done trivial⟩

set_option maxRecDepth 100000 in
theorem gorder_nn (w0 : World) (hG : PW w0) (x y z : BitVec 64) (hx : nanB x = true) (hy : nanB y = true) : Pure Tryd.prog 3 #[F x, F y, F z] w0 (.bool true) := by
  refine ⟨by kernel_rfl, ?_⟩
  refine calls_sym Tryd.func3 rfl (by kernel_rfl) ?_
  intro a hS
  have hM : Mem w0 w0 [] := Mem.refl w0
  refine c_seq ?_
  refine c_region ?_
  refine s_val hS (by decide) rfl rfl (r_assign hS rfl) ?_; clear hS; intro a hS
  refine s_nil ?_
  refine k_seq ?_
  refine c_seq ?_
  refine c_region ?_
  refine s_pure hS hM (by decide) rfl (alive_ok _ (hG.keep hM trivial)) ?_; clear hS hM; intro a w hS hM
  refine s_val hS (by decide) rfl rfl (r_assign hS rfl) ?_; clear hS; intro a hS
  refine s_nil ?_
  refine k_seq ?_
  refine c_seq ?_
  refine c_region ?_
  refine s_val hS (by decide) rfl rfl (r_move hS rfl) ?_; clear hS; intro a hS
  refine s_val hS (by decide) rfl rfl (r_move hS rfl) ?_; clear hS; intro a hS
  refine s_pure hS hM (by decide) rfl (gord_ok _ _ _) ?_; clear hS hM; intro a w hS hM
  refine s_val hS (by decide) rfl rfl (r_assign hS rfl) ?_; clear hS; intro a hS
  refine s_nil ?_
  refine k_seq ?_
  refine c_seq ?_
  refine c_region ?_
  refine s_val hS (by decide) rfl rfl (r_move hS rfl) ?_; clear hS; intro a hS
  refine s_val hS (by decide) rfl rfl (r_move hS rfl) ?_; clear hS; intro a hS
  refine s_pure hS hM (by decide) rfl (gord_ok _ _ _) ?_; clear hS hM; intro a w hS hM
  refine s_val hS (by decide) rfl rfl (r_assign hS rfl) ?_; clear hS; intro a hS
  refine s_nil ?_
  refine k_seq ?_
  refine c_seq ?_
  refine c_seq ?_
  refine c_region ?_
  refine s_val hS (by decide) rfl rfl (r_move hS rfl) ?_; clear hS; intro a hS
  refine s_val hS (by decide) rfl rfl (r_not hS rfl) ?_; clear hS; intro a hS
  refine s_val hS (by decide) rfl rfl (r_move hS rfl) ?_; clear hS; intro a hS
  refine s_valg hS (by decide) rfl rfl rfl rfl rfl (r_move hS rfl) ?_; clear hS; intro a hS
  refine s_valg hS (by decide) rfl rfl rfl rfl rfl (r_move hS rfl) ?_; clear hS; intro a hS
  refine s_valg hS (by decide) rfl rfl rfl rfl rfl (r_move hS rfl) ?_; clear hS; intro a hS
  refine s_pureg hS hM (by decide) rfl rfl rfl rfl (gord_ok _ _ _) ?_; clear hS hM; intro a w hS hM
  refine s_valg hS (by decide) rfl rfl rfl rfl rfl (r_negZ hS rfl (by have := ord_bnd y x; omega)) ?_; clear hS; intro a hS
  refine s_valg hS (by decide) rfl rfl rfl rfl rfl (r_bv hS rfl rfl gZ ((b_neqZ _ _ _).trans (by rw [ord_neg x y, decide_eq_true rfl]))) ?_; clear hS; intro a hS
  refine s_val hS (by decide) rfl rfl (r_pick hS rfl rfl) ?_; clear hS; intro a hS
  refine s_val hS (by decide) rfl rfl (r_move hS rfl) ?_; clear hS; intro a hS
  refine s_valg hS (by decide) rfl rfl rfl rfl rfl (r_move hS rfl) ?_; clear hS; intro a hS
  refine s_valg hS (by decide) rfl rfl rfl rfl rfl (r_move hS rfl) ?_; clear hS; intro a hS
  refine s_pureg hS hM (by decide) rfl rfl rfl rfl (gord_ok _ _ _) ?_; clear hS hM; intro a w hS hM
  refine s_valg hS (by decide) rfl rfl rfl rfl rfl (r_bv hS rfl (show ev _ _ = some (.int .i64 0) from rfl) gZ ((b_neqZ _ _ _).trans (by rw [ord_self, decide_eq_true rfl]))) ?_; clear hS; intro a hS
  refine s_val hS (by decide) rfl rfl (r_pick hS rfl rfl) ?_; clear hS; intro a hS
  refine s_val hS (by decide) rfl rfl (r_move hS rfl) ?_; clear hS; intro a hS
  refine s_valg hS (by decide) rfl rfl rfl rfl rfl (r_move hS rfl) ?_; clear hS; intro a hS
  refine s_valgb hS (by decide) rfl rfl rfl rfl rfl (r_bv hS rfl (show ev _ _ = some (.int .i64 (0)) from rfl) gZ (b_leqZ _ _ _)) (fun hc => ?_) (fun hc => ?_)
  · clear hS; intro a hS; have h36 := of_decide_eq_true hc
    refine s_valg hS (by decide) rfl rfl rfl rfl rfl (r_move hS rfl) ?_; clear hS; intro a hS
    refine s_valg hS (by decide) rfl rfl rfl rfl rfl (r_move hS rfl) ?_; clear hS; intro a hS
    refine s_valgb hS (by decide) rfl rfl rfl rfl rfl (r_bv hS rfl (show ev _ _ = some (.int .i64 (0)) from rfl) gZ (b_leqZ _ _ _)) (fun hc => ?_) (fun hc => ?_)
    · clear hS; intro a hS; have h39 := of_decide_eq_true hc
      refine s_valg hS (by decide) rfl rfl rfl rfl rfl (r_pick hS rfl rfl) ?_; clear hS; intro a hS
      refine s_valg hS (by decide) rfl rfl rfl rfl rfl (r_move hS rfl) ?_; clear hS; intro a hS
      refine s_valg hS (by decide) rfl rfl rfl rfl rfl (r_move hS rfl) ?_; clear hS; intro a hS
      refine s_valg hS (by decide) rfl rfl rfl rfl rfl (r_move hS rfl) ?_; clear hS; intro a hS
      refine s_pureg hS hM (by decide) rfl rfl rfl rfl (gord_ok _ _ _) ?_; clear hS hM; intro a w hS hM
      refine s_valg hS (by decide) rfl rfl rfl rfl rfl (r_bv hS rfl (show ev _ _ = some (.int .i64 0) from rfl) gZ ((b_gtrZ _ _ _).trans (by rw [ord_trans h36 h39]))) ?_; clear hS; intro a hS
      refine s_valg hS (by decide) rfl rfl rfl rfl rfl (r_pick hS rfl rfl) ?_; clear hS; intro a hS
      refine s_val hS (by decide) rfl rfl (r_pick hS rfl rfl) ?_; clear hS; intro a hS
      refine s_nil ?_
      refine k_seq ?_
      refine c_false hS rfl rfl ?_
      refine c_skip ?_
      refine k_seq ?_
      refine c_seq ?_
      refine c_region ?_
      refine s_val hS (by decide) rfl rfl (r_move hS rfl) ?_; clear hS; intro a hS
      refine s_val hS (by decide) rfl rfl (r_move hS rfl) ?_; clear hS; intro a hS
      refine s_val hS (by decide) rfl rfl (r_bv hS rfl rfl gF (b_neqFn _ hx)) ?_; clear hS; intro a hS
      refine s_val hS (by decide) rfl rfl (r_move hS rfl) ?_; clear hS; intro a hS
      refine s_valg hS (by decide) rfl rfl rfl rfl rfl (r_move hS rfl) ?_; clear hS; intro a hS
      refine s_valg hS (by decide) rfl rfl rfl rfl rfl (r_move hS rfl) ?_; clear hS; intro a hS
      refine s_valg hS (by decide) rfl rfl rfl rfl rfl (r_bv hS rfl rfl gF (b_neqFn _ hy)) ?_; clear hS; intro a hS
      refine s_val hS (by decide) rfl rfl (r_pick hS rfl rfl) ?_; clear hS; intro a hS
      refine s_val hS (by decide) rfl rfl (r_move hS rfl) ?_; clear hS; intro a hS
      refine s_skip hS (by decide) rfl rfl rfl rfl rfl ?_; clear hS; intro a hS
      refine s_skip hS (by decide) rfl rfl rfl rfl rfl ?_; clear hS; intro a hS
      refine s_skip hS (by decide) rfl rfl rfl rfl rfl ?_; clear hS; intro a hS
      refine s_skip hS (by decide) rfl rfl rfl rfl rfl ?_; clear hS; intro a hS
      refine s_skipu hS (by decide) rfl rfl rfl rfl rfl ?_; clear hS; intro a hS
      refine s_skipu hS (by decide) rfl rfl rfl rfl rfl ?_; clear hS; intro a hS
      refine s_skipu hS (by decide) rfl rfl rfl rfl rfl ?_; clear hS; intro a hS
      refine s_skipu hS (by decide) rfl rfl rfl rfl rfl ?_; clear hS; intro a hS
      refine s_skipu hS (by decide) rfl rfl rfl rfl rfl ?_; clear hS; intro a hS
      refine s_skipu hS (by decide) rfl rfl rfl rfl rfl ?_; clear hS; intro a hS
      refine s_skipu hS (by decide) rfl rfl rfl rfl rfl ?_; clear hS; intro a hS
      refine s_skipu hS (by decide) rfl rfl rfl rfl rfl ?_; clear hS; intro a hS
      refine s_skipu hS (by decide) rfl rfl rfl rfl rfl ?_; clear hS; intro a hS
      refine s_skip hS (by decide) rfl rfl rfl rfl rfl ?_; clear hS; intro a hS
      refine s_val hS (by decide) rfl rfl (r_pick hS rfl rfl) ?_; clear hS; intro a hS
      refine s_val hS (by decide) rfl rfl (r_assign hS rfl) ?_; clear hS; intro a hS
      refine s_nil ?_
      refine k_seq ?_
      refine c_seq ?_
      refine c_region ?_
      refine s_val hS (by decide) rfl rfl (r_move hS rfl) ?_; clear hS; intro a hS
      refine s_val hS (by decide) rfl rfl (r_bv hS rfl (show ev _ _ = some (.int .i64 (0)) from rfl) gZ (b_eqlZ _ _ _)) ?_; clear hS; intro a hS
      refine s_val hS (by decide) rfl rfl (r_move hS rfl) ?_; clear hS; intro a hS
      refine s_val hS (by decide) rfl rfl (r_eqbt hS rfl rfl Tryd.underlying4 (nan_ord2 hx hy)) ?_; clear hS; intro a hS
      refine s_val hS (by decide) rfl rfl (r_move hS rfl) ?_; clear hS; intro a hS
      refine s_valg hS (by decide) rfl rfl rfl rfl rfl (r_move hS rfl) ?_; clear hS; intro a hS
      refine s_valg hS (by decide) rfl rfl rfl rfl rfl (r_move hS rfl) ?_; clear hS; intro a hS
      refine s_valg hS (by decide) rfl rfl rfl rfl rfl (r_bv hS rfl rfl gF (b_neqFn _ hx)) ?_; clear hS; intro a hS
      refine s_valg hS (by decide) rfl rfl rfl rfl rfl (r_move hS rfl) ?_; clear hS; intro a hS
      refine s_skip hS (by decide) rfl rfl rfl rfl rfl ?_; clear hS; intro a hS
      refine s_skip hS (by decide) rfl rfl rfl rfl rfl ?_; clear hS; intro a hS
      refine s_skip hS (by decide) rfl rfl rfl rfl rfl ?_; clear hS; intro a hS
      refine s_valg hS (by decide) rfl rfl rfl rfl rfl (r_pick hS rfl rfl) ?_; clear hS; intro a hS
      refine s_valg hS (by decide) rfl rfl rfl rfl rfl (r_move hS rfl) ?_; clear hS; intro a hS
      refine s_skip hS (by decide) rfl rfl rfl rfl rfl ?_; clear hS; intro a hS
      refine s_skip hS (by decide) rfl rfl rfl rfl rfl ?_; clear hS; intro a hS
      refine s_skip hS (by decide) rfl rfl rfl rfl rfl ?_; clear hS; intro a hS
      refine s_valg hS (by decide) rfl rfl rfl rfl rfl (r_pick hS rfl rfl) ?_; clear hS; intro a hS
      refine s_valg hS (by decide) rfl rfl rfl rfl rfl (r_move hS rfl) ?_; clear hS; intro a hS
      refine s_skip hS (by decide) rfl rfl rfl rfl rfl ?_; clear hS; intro a hS
      refine s_skip hS (by decide) rfl rfl rfl rfl rfl ?_; clear hS; intro a hS
      refine s_skip hS (by decide) rfl rfl rfl rfl rfl ?_; clear hS; intro a hS
      refine s_skip hS (by decide) rfl rfl rfl rfl rfl ?_; clear hS; intro a hS
      refine s_skip hS (by decide) rfl rfl rfl rfl rfl ?_; clear hS; intro a hS
      refine s_skip hS (by decide) rfl rfl rfl rfl rfl ?_; clear hS; intro a hS
      refine s_valg hS (by decide) rfl rfl rfl rfl rfl (r_pick hS rfl rfl) ?_; clear hS; intro a hS
      refine s_val hS (by decide) rfl rfl (r_pick hS rfl rfl) ?_; clear hS; intro a hS
      refine s_val hS (by decide) rfl rfl (r_assign hS rfl) ?_; clear hS; intro a hS
      refine s_nil ?_
      refine k_seq ?_
      refine c_ret ?_
      exact k_res1 hS rfl (RV.tmp rfl) ⟨rfl, hM.done trivial⟩
    · clear hS; intro a hS
      refine s_valg hS (by decide) rfl rfl rfl rfl rfl (r_pick hS rfl rfl) ?_; clear hS; intro a hS
      refine s_valg hS (by decide) rfl rfl rfl rfl rfl (r_move hS rfl) ?_; clear hS; intro a hS
      refine s_skip hS (by decide) rfl rfl rfl rfl rfl ?_; clear hS; intro a hS
      refine s_skip hS (by decide) rfl rfl rfl rfl rfl ?_; clear hS; intro a hS
      refine s_skip hS (by decide) rfl rfl rfl rfl rfl ?_; clear hS; intro a hS
      refine s_skip hS (by decide) rfl rfl rfl rfl rfl ?_; clear hS; intro a hS
      refine s_valg hS (by decide) rfl rfl rfl rfl rfl (r_pick hS rfl rfl) ?_; clear hS; intro a hS
      refine s_val hS (by decide) rfl rfl (r_pick hS rfl rfl) ?_; clear hS; intro a hS
      refine s_nil ?_
      refine k_seq ?_
      refine c_false hS rfl rfl ?_
      refine c_skip ?_
      refine k_seq ?_
      refine c_seq ?_
      refine c_region ?_
      refine s_val hS (by decide) rfl rfl (r_move hS rfl) ?_; clear hS; intro a hS
      refine s_val hS (by decide) rfl rfl (r_move hS rfl) ?_; clear hS; intro a hS
      refine s_val hS (by decide) rfl rfl (r_bv hS rfl rfl gF (b_neqFn _ hx)) ?_; clear hS; intro a hS
      refine s_val hS (by decide) rfl rfl (r_move hS rfl) ?_; clear hS; intro a hS
      refine s_valg hS (by decide) rfl rfl rfl rfl rfl (r_move hS rfl) ?_; clear hS; intro a hS
      refine s_valg hS (by decide) rfl rfl rfl rfl rfl (r_move hS rfl) ?_; clear hS; intro a hS
      refine s_valg hS (by decide) rfl rfl rfl rfl rfl (r_bv hS rfl rfl gF (b_neqFn _ hy)) ?_; clear hS; intro a hS
      refine s_val hS (by decide) rfl rfl (r_pick hS rfl rfl) ?_; clear hS; intro a hS
      refine s_val hS (by decide) rfl rfl (r_move hS rfl) ?_; clear hS; intro a hS
      refine s_skip hS (by decide) rfl rfl rfl rfl rfl ?_; clear hS; intro a hS
      refine s_skip hS (by decide) rfl rfl rfl rfl rfl ?_; clear hS; intro a hS
      refine s_skip hS (by decide) rfl rfl rfl rfl rfl ?_; clear hS; intro a hS
      refine s_skip hS (by decide) rfl rfl rfl rfl rfl ?_; clear hS; intro a hS
      refine s_skipu hS (by decide) rfl rfl rfl rfl rfl ?_; clear hS; intro a hS
      refine s_skipu hS (by decide) rfl rfl rfl rfl rfl ?_; clear hS; intro a hS
      refine s_skipu hS (by decide) rfl rfl rfl rfl rfl ?_; clear hS; intro a hS
      refine s_skipu hS (by decide) rfl rfl rfl rfl rfl ?_; clear hS; intro a hS
      refine s_skipu hS (by decide) rfl rfl rfl rfl rfl ?_; clear hS; intro a hS
      refine s_skipu hS (by decide) rfl rfl rfl rfl rfl ?_; clear hS; intro a hS
      refine s_skipu hS (by decide) rfl rfl rfl rfl rfl ?_; clear hS; intro a hS
      refine s_skipu hS (by decide) rfl rfl rfl rfl rfl ?_; clear hS; intro a hS
      refine s_skipu hS (by decide) rfl rfl rfl rfl rfl ?_; clear hS; intro a hS
      refine s_skip hS (by decide) rfl rfl rfl rfl rfl ?_; clear hS; intro a hS
      refine s_val hS (by decide) rfl rfl (r_pick hS rfl rfl) ?_; clear hS; intro a hS
      refine s_val hS (by decide) rfl rfl (r_assign hS rfl) ?_; clear hS; intro a hS
      refine s_nil ?_
      refine k_seq ?_
      refine c_seq ?_
      refine c_region ?_
      refine s_val hS (by decide) rfl rfl (r_move hS rfl) ?_; clear hS; intro a hS
      refine s_val hS (by decide) rfl rfl (r_bv hS rfl (show ev _ _ = some (.int .i64 (0)) from rfl) gZ (b_eqlZ _ _ _)) ?_; clear hS; intro a hS
      refine s_val hS (by decide) rfl rfl (r_move hS rfl) ?_; clear hS; intro a hS
      refine s_val hS (by decide) rfl rfl (r_eqbt hS rfl rfl Tryd.underlying4 (nan_ord2 hx hy)) ?_; clear hS; intro a hS
      refine s_val hS (by decide) rfl rfl (r_move hS rfl) ?_; clear hS; intro a hS
      refine s_valg hS (by decide) rfl rfl rfl rfl rfl (r_move hS rfl) ?_; clear hS; intro a hS
      refine s_valg hS (by decide) rfl rfl rfl rfl rfl (r_move hS rfl) ?_; clear hS; intro a hS
      refine s_valg hS (by decide) rfl rfl rfl rfl rfl (r_bv hS rfl rfl gF (b_neqFn _ hx)) ?_; clear hS; intro a hS
      refine s_valg hS (by decide) rfl rfl rfl rfl rfl (r_move hS rfl) ?_; clear hS; intro a hS
      refine s_skip hS (by decide) rfl rfl rfl rfl rfl ?_; clear hS; intro a hS
      refine s_skip hS (by decide) rfl rfl rfl rfl rfl ?_; clear hS; intro a hS
      refine s_skip hS (by decide) rfl rfl rfl rfl rfl ?_; clear hS; intro a hS
      refine s_valg hS (by decide) rfl rfl rfl rfl rfl (r_pick hS rfl rfl) ?_; clear hS; intro a hS
      refine s_valg hS (by decide) rfl rfl rfl rfl rfl (r_move hS rfl) ?_; clear hS; intro a hS
      refine s_skip hS (by decide) rfl rfl rfl rfl rfl ?_; clear hS; intro a hS
      refine s_skip hS (by decide) rfl rfl rfl rfl rfl ?_; clear hS; intro a hS
      refine s_skip hS (by decide) rfl rfl rfl rfl rfl ?_; clear hS; intro a hS
      refine s_valg hS (by decide) rfl rfl rfl rfl rfl (r_pick hS rfl rfl) ?_; clear hS; intro a hS
      refine s_valg hS (by decide) rfl rfl rfl rfl rfl (r_move hS rfl) ?_; clear hS; intro a hS
      refine s_skip hS (by decide) rfl rfl rfl rfl rfl ?_; clear hS; intro a hS
      refine s_skip hS (by decide) rfl rfl rfl rfl rfl ?_; clear hS; intro a hS
      refine s_skip hS (by decide) rfl rfl rfl rfl rfl ?_; clear hS; intro a hS
      refine s_skip hS (by decide) rfl rfl rfl rfl rfl ?_; clear hS; intro a hS
      refine s_skip hS (by decide) rfl rfl rfl rfl rfl ?_; clear hS; intro a hS
      refine s_skip hS (by decide) rfl rfl rfl rfl rfl ?_; clear hS; intro a hS
      refine s_valg hS (by decide) rfl rfl rfl rfl rfl (r_pick hS rfl rfl) ?_; clear hS; intro a hS
      refine s_val hS (by decide) rfl rfl (r_pick hS rfl rfl) ?_; clear hS; intro a hS
      refine s_val hS (by decide) rfl rfl (r_assign hS rfl) ?_; clear hS; intro a hS
      refine s_nil ?_
      refine k_seq ?_
      refine c_ret ?_
      exact k_res1 hS rfl (RV.tmp rfl) ⟨rfl, hM.done trivial⟩
  · clear hS; intro a hS
    refine s_valg hS (by decide) rfl rfl rfl rfl rfl (r_move hS rfl) ?_; clear hS; intro a hS
    refine s_skip hS (by decide) rfl rfl rfl rfl rfl ?_; clear hS; intro a hS
    refine s_skip hS (by decide) rfl rfl rfl rfl rfl ?_; clear hS; intro a hS
    refine s_valg hS (by decide) rfl rfl rfl rfl rfl (r_pick hS rfl rfl) ?_; clear hS; intro a hS
    refine s_valg hS (by decide) rfl rfl rfl rfl rfl (r_move hS rfl) ?_; clear hS; intro a hS
    refine s_skip hS (by decide) rfl rfl rfl rfl rfl ?_; clear hS; intro a hS
    refine s_skip hS (by decide) rfl rfl rfl rfl rfl ?_; clear hS; intro a hS
    refine s_skip hS (by decide) rfl rfl rfl rfl rfl ?_; clear hS; intro a hS
    refine s_skip hS (by decide) rfl rfl rfl rfl rfl ?_; clear hS; intro a hS
    refine s_valg hS (by decide) rfl rfl rfl rfl rfl (r_pick hS rfl rfl) ?_; clear hS; intro a hS
    refine s_val hS (by decide) rfl rfl (r_pick hS rfl rfl) ?_; clear hS; intro a hS
    refine s_nil ?_
    refine k_seq ?_
    refine c_false hS rfl rfl ?_
    refine c_skip ?_
    refine k_seq ?_
    refine c_seq ?_
    refine c_region ?_
    refine s_val hS (by decide) rfl rfl (r_move hS rfl) ?_; clear hS; intro a hS
    refine s_val hS (by decide) rfl rfl (r_move hS rfl) ?_; clear hS; intro a hS
    refine s_val hS (by decide) rfl rfl (r_bv hS rfl rfl gF (b_neqFn _ hx)) ?_; clear hS; intro a hS
    refine s_val hS (by decide) rfl rfl (r_move hS rfl) ?_; clear hS; intro a hS
    refine s_valg hS (by decide) rfl rfl rfl rfl rfl (r_move hS rfl) ?_; clear hS; intro a hS
    refine s_valg hS (by decide) rfl rfl rfl rfl rfl (r_move hS rfl) ?_; clear hS; intro a hS
    refine s_valg hS (by decide) rfl rfl rfl rfl rfl (r_bv hS rfl rfl gF (b_neqFn _ hy)) ?_; clear hS; intro a hS
    refine s_val hS (by decide) rfl rfl (r_pick hS rfl rfl) ?_; clear hS; intro a hS
    refine s_val hS (by decide) rfl rfl (r_move hS rfl) ?_; clear hS; intro a hS
    refine s_skip hS (by decide) rfl rfl rfl rfl rfl ?_; clear hS; intro a hS
    refine s_skip hS (by decide) rfl rfl rfl rfl rfl ?_; clear hS; intro a hS
    refine s_skip hS (by decide) rfl rfl rfl rfl rfl ?_; clear hS; intro a hS
    refine s_skip hS (by decide) rfl rfl rfl rfl rfl ?_; clear hS; intro a hS
    refine s_skipu hS (by decide) rfl rfl rfl rfl rfl ?_; clear hS; intro a hS
    refine s_skipu hS (by decide) rfl rfl rfl rfl rfl ?_; clear hS; intro a hS
    refine s_skipu hS (by decide) rfl rfl rfl rfl rfl ?_; clear hS; intro a hS
    refine s_skipu hS (by decide) rfl rfl rfl rfl rfl ?_; clear hS; intro a hS
    refine s_skipu hS (by decide) rfl rfl rfl rfl rfl ?_; clear hS; intro a hS
    refine s_skipu hS (by decide) rfl rfl rfl rfl rfl ?_; clear hS; intro a hS
    refine s_skipu hS (by decide) rfl rfl rfl rfl rfl ?_; clear hS; intro a hS
    refine s_skipu hS (by decide) rfl rfl rfl rfl rfl ?_; clear hS; intro a hS
    refine s_skipu hS (by decide) rfl rfl rfl rfl rfl ?_; clear hS; intro a hS
    refine s_skip hS (by decide) rfl rfl rfl rfl rfl ?_; clear hS; intro a hS
    refine s_val hS (by decide) rfl rfl (r_pick hS rfl rfl) ?_; clear hS; intro a hS
    refine s_val hS (by decide) rfl rfl (r_assign hS rfl) ?_; clear hS; intro a hS
    refine s_nil ?_
    refine k_seq ?_
    refine c_seq ?_
    refine c_region ?_
    refine s_val hS (by decide) rfl rfl (r_move hS rfl) ?_; clear hS; intro a hS
    refine s_val hS (by decide) rfl rfl (r_bv hS rfl (show ev _ _ = some (.int .i64 (0)) from rfl) gZ (b_eqlZ _ _ _)) ?_; clear hS; intro a hS
    refine s_val hS (by decide) rfl rfl (r_move hS rfl) ?_; clear hS; intro a hS
    refine s_val hS (by decide) rfl rfl (r_eqbt hS rfl rfl Tryd.underlying4 (nan_ord2 hx hy)) ?_; clear hS; intro a hS
    refine s_val hS (by decide) rfl rfl (r_move hS rfl) ?_; clear hS; intro a hS
    refine s_valg hS (by decide) rfl rfl rfl rfl rfl (r_move hS rfl) ?_; clear hS; intro a hS
    refine s_valg hS (by decide) rfl rfl rfl rfl rfl (r_move hS rfl) ?_; clear hS; intro a hS
    refine s_valg hS (by decide) rfl rfl rfl rfl rfl (r_bv hS rfl rfl gF (b_neqFn _ hx)) ?_; clear hS; intro a hS
    refine s_valg hS (by decide) rfl rfl rfl rfl rfl (r_move hS rfl) ?_; clear hS; intro a hS
    refine s_skip hS (by decide) rfl rfl rfl rfl rfl ?_; clear hS; intro a hS
    refine s_skip hS (by decide) rfl rfl rfl rfl rfl ?_; clear hS; intro a hS
    refine s_skip hS (by decide) rfl rfl rfl rfl rfl ?_; clear hS; intro a hS
    refine s_valg hS (by decide) rfl rfl rfl rfl rfl (r_pick hS rfl rfl) ?_; clear hS; intro a hS
    refine s_valg hS (by decide) rfl rfl rfl rfl rfl (r_move hS rfl) ?_; clear hS; intro a hS
    refine s_skip hS (by decide) rfl rfl rfl rfl rfl ?_; clear hS; intro a hS
    refine s_skip hS (by decide) rfl rfl rfl rfl rfl ?_; clear hS; intro a hS
    refine s_skip hS (by decide) rfl rfl rfl rfl rfl ?_; clear hS; intro a hS
    refine s_valg hS (by decide) rfl rfl rfl rfl rfl (r_pick hS rfl rfl) ?_; clear hS; intro a hS
    refine s_valg hS (by decide) rfl rfl rfl rfl rfl (r_move hS rfl) ?_; clear hS; intro a hS
    refine s_skip hS (by decide) rfl rfl rfl rfl rfl ?_; clear hS; intro a hS
    refine s_skip hS (by decide) rfl rfl rfl rfl rfl ?_; clear hS; intro a hS
    refine s_skip hS (by decide) rfl rfl rfl rfl rfl ?_; clear hS; intro a hS
    refine s_skip hS (by decide) rfl rfl rfl rfl rfl ?_; clear hS; intro a hS
    refine s_skip hS (by decide) rfl rfl rfl rfl rfl ?_; clear hS; intro a hS
    refine s_skip hS (by decide) rfl rfl rfl rfl rfl ?_; clear hS; intro a hS
    refine s_valg hS (by decide) rfl rfl rfl rfl rfl (r_pick hS rfl rfl) ?_; clear hS; intro a hS
    refine s_val hS (by decide) rfl rfl (r_pick hS rfl rfl) ?_; clear hS; intro a hS
    refine s_val hS (by decide) rfl rfl (r_assign hS rfl) ?_; clear hS; intro a hS
    refine s_nil ?_
    refine k_seq ?_
    refine c_ret ?_
    exact k_res1 hS rfl (RV.tmp rfl) ⟨rfl, hM.done trivial⟩

set_option maxRecDepth 100000 in
theorem gorder_nf (w0 : World) (hG : PW w0) (x y z : BitVec 64) (hx : nanB x = true) (hy : nanB y = false) : Pure Tryd.prog 3 #[F x, F y, F z] w0 (.bool true) := by
  refine ⟨by kernel_rfl, ?_⟩
  refine calls_sym Tryd.func3 rfl (by kernel_rfl) ?_
  intro a hS
  have hM : Mem w0 w0 [] := Mem.refl w0
  refine c_seq ?_
  refine c_region ?_
  refine s_val hS (by decide) rfl rfl (r_assign hS rfl) ?_; clear hS; intro a hS
  refine s_nil ?_
  refine k_seq ?_
  refine c_seq ?_
  refine c_region ?_
  refine s_pure hS hM (by decide) rfl (alive_ok _ (hG.keep hM trivial)) ?_; clear hS hM; intro a w hS hM
  refine s_val hS (by decide) rfl rfl (r_assign hS rfl) ?_; clear hS; intro a hS
  refine s_nil ?_
  refine k_seq ?_
  refine c_seq ?_
  refine c_region ?_
  refine s_val hS (by decide) rfl rfl (r_move hS rfl) ?_; clear hS; intro a hS
  refine s_val hS (by decide) rfl rfl (r_move hS rfl) ?_; clear hS; intro a hS
  refine s_pure hS hM (by decide) rfl (gord_ok _ _ _) ?_; clear hS hM; intro a w hS hM
  refine s_val hS (by decide) rfl rfl (r_assign hS rfl) ?_; clear hS; intro a hS
  refine s_nil ?_
  refine k_seq ?_
  refine c_seq ?_
  refine c_region ?_
  refine s_val hS (by decide) rfl rfl (r_move hS rfl) ?_; clear hS; intro a hS
  refine s_val hS (by decide) rfl rfl (r_move hS rfl) ?_; clear hS; intro a hS
  refine s_pure hS hM (by decide) rfl (gord_ok _ _ _) ?_; clear hS hM; intro a w hS hM
  refine s_val hS (by decide) rfl rfl (r_assign hS rfl) ?_; clear hS; intro a hS
  refine s_nil ?_
  refine k_seq ?_
  refine c_seq ?_
  refine c_seq ?_
  refine c_region ?_
  refine s_val hS (by decide) rfl rfl (r_move hS rfl) ?_; clear hS; intro a hS
  refine s_val hS (by decide) rfl rfl (r_not hS rfl) ?_; clear hS; intro a hS
  refine s_val hS (by decide) rfl rfl (r_move hS rfl) ?_; clear hS; intro a hS
  refine s_valg hS (by decide) rfl rfl rfl rfl rfl (r_move hS rfl) ?_; clear hS; intro a hS
  refine s_valg hS (by decide) rfl rfl rfl rfl rfl (r_move hS rfl) ?_; clear hS; intro a hS
  refine s_valg hS (by decide) rfl rfl rfl rfl rfl (r_move hS rfl) ?_; clear hS; intro a hS
  refine s_pureg hS hM (by decide) rfl rfl rfl rfl (gord_ok _ _ _) ?_; clear hS hM; intro a w hS hM
  refine s_valg hS (by decide) rfl rfl rfl rfl rfl (r_negZ hS rfl (by have := ord_bnd y x; omega)) ?_; clear hS; intro a hS
  refine s_valg hS (by decide) rfl rfl rfl rfl rfl (r_bv hS rfl rfl gZ ((b_neqZ _ _ _).trans (by rw [ord_neg x y, decide_eq_true rfl]))) ?_; clear hS; intro a hS
  refine s_val hS (by decide) rfl rfl (r_pick hS rfl rfl) ?_; clear hS; intro a hS
  refine s_val hS (by decide) rfl rfl (r_move hS rfl) ?_; clear hS; intro a hS
  refine s_valg hS (by decide) rfl rfl rfl rfl rfl (r_move hS rfl) ?_; clear hS; intro a hS
  refine s_valg hS (by decide) rfl rfl rfl rfl rfl (r_move hS rfl) ?_; clear hS; intro a hS
  refine s_pureg hS hM (by decide) rfl rfl rfl rfl (gord_ok _ _ _) ?_; clear hS hM; intro a w hS hM
  refine s_valg hS (by decide) rfl rfl rfl rfl rfl (r_bv hS rfl (show ev _ _ = some (.int .i64 0) from rfl) gZ ((b_neqZ _ _ _).trans (by rw [ord_self, decide_eq_true rfl]))) ?_; clear hS; intro a hS
  refine s_val hS (by decide) rfl rfl (r_pick hS rfl rfl) ?_; clear hS; intro a hS
  refine s_val hS (by decide) rfl rfl (r_move hS rfl) ?_; clear hS; intro a hS
  refine s_valg hS (by decide) rfl rfl rfl rfl rfl (r_move hS rfl) ?_; clear hS; intro a hS
  refine s_valgb hS (by decide) rfl rfl rfl rfl rfl (r_bv hS rfl (show ev _ _ = some (.int .i64 (0)) from rfl) gZ (b_leqZ _ _ _)) (fun hc => ?_) (fun hc => ?_)
  · clear hS; intro a hS; have h36 := of_decide_eq_true hc
    refine s_valg hS (by decide) rfl rfl rfl rfl rfl (r_move hS rfl) ?_; clear hS; intro a hS
    refine s_valg hS (by decide) rfl rfl rfl rfl rfl (r_move hS rfl) ?_; clear hS; intro a hS
    refine s_valgb hS (by decide) rfl rfl rfl rfl rfl (r_bv hS rfl (show ev _ _ = some (.int .i64 (0)) from rfl) gZ (b_leqZ _ _ _)) (fun hc => ?_) (fun hc => ?_)
    · clear hS; intro a hS; have h39 := of_decide_eq_true hc
      refine s_valg hS (by decide) rfl rfl rfl rfl rfl (r_pick hS rfl rfl) ?_; clear hS; intro a hS
      refine s_valg hS (by decide) rfl rfl rfl rfl rfl (r_move hS rfl) ?_; clear hS; intro a hS
      refine s_valg hS (by decide) rfl rfl rfl rfl rfl (r_move hS rfl) ?_; clear hS; intro a hS
      refine s_valg hS (by decide) rfl rfl rfl rfl rfl (r_move hS rfl) ?_; clear hS; intro a hS
      refine s_pureg hS hM (by decide) rfl rfl rfl rfl (gord_ok _ _ _) ?_; clear hS hM; intro a w hS hM
      refine s_valg hS (by decide) rfl rfl rfl rfl rfl (r_bv hS rfl (show ev _ _ = some (.int .i64 0) from rfl) gZ ((b_gtrZ _ _ _).trans (by rw [ord_trans h36 h39]))) ?_; clear hS; intro a hS
      refine s_valg hS (by decide) rfl rfl rfl rfl rfl (r_pick hS rfl rfl) ?_; clear hS; intro a hS
      refine s_val hS (by decide) rfl rfl (r_pick hS rfl rfl) ?_; clear hS; intro a hS
      refine s_nil ?_
      refine k_seq ?_
      refine c_false hS rfl rfl ?_
      refine c_skip ?_
      refine k_seq ?_
      refine c_seq ?_
      refine c_region ?_
      refine s_val hS (by decide) rfl rfl (r_move hS rfl) ?_; clear hS; intro a hS
      refine s_val hS (by decide) rfl rfl (r_move hS rfl) ?_; clear hS; intro a hS
      refine s_val hS (by decide) rfl rfl (r_bv hS rfl rfl gF (b_neqFn _ hx)) ?_; clear hS; intro a hS
      refine s_val hS (by decide) rfl rfl (r_move hS rfl) ?_; clear hS; intro a hS
      refine s_valg hS (by decide) rfl rfl rfl rfl rfl (r_move hS rfl) ?_; clear hS; intro a hS
      refine s_valg hS (by decide) rfl rfl rfl rfl rfl (r_move hS rfl) ?_; clear hS; intro a hS
      refine s_valg hS (by decide) rfl rfl rfl rfl rfl (r_bv hS rfl rfl gF (b_neqFn _ hy)) ?_; clear hS; intro a hS
      refine s_val hS (by decide) rfl rfl (r_pick hS rfl rfl) ?_; clear hS; intro a hS
      refine s_val hS (by decide) rfl rfl (r_move hS rfl) ?_; clear hS; intro a hS
      refine s_valg hS (by decide) rfl rfl rfl rfl rfl (r_move hS rfl) ?_; clear hS; intro a hS
      refine s_valg hS (by decide) rfl rfl rfl rfl rfl (r_move hS rfl) ?_; clear hS; intro a hS
      refine s_valg hS (by decide) rfl rfl rfl rfl rfl (r_bv hS rfl rfl gF ((b_eqlF _ _ _).trans (by rw [fo_nanL hx]))) ?_; clear hS; intro a hS
      refine s_valg hS (by decide) rfl rfl rfl rfl rfl (r_move hS rfl) ?_; clear hS; intro a hS
      refine s_skip hS (by decide) rfl rfl rfl rfl rfl ?_; clear hS; intro a hS
      refine s_skip hS (by decide) rfl rfl rfl rfl rfl ?_; clear hS; intro a hS
      refine s_skip hS (by decide) rfl rfl rfl rfl rfl ?_; clear hS; intro a hS
      refine s_skipu hS (by decide) rfl rfl rfl rfl rfl ?_; clear hS; intro a hS
      refine s_skipu hS (by decide) rfl rfl rfl rfl rfl ?_; clear hS; intro a hS
      refine s_skipu hS (by decide) rfl rfl rfl rfl rfl ?_; clear hS; intro a hS
      refine s_skipu hS (by decide) rfl rfl rfl rfl rfl ?_; clear hS; intro a hS
      refine s_skipu hS (by decide) rfl rfl rfl rfl rfl ?_; clear hS; intro a hS
      refine s_skip hS (by decide) rfl rfl rfl rfl rfl ?_; clear hS; intro a hS
      refine s_valg hS (by decide) rfl rfl rfl rfl rfl (r_pick hS rfl rfl) ?_; clear hS; intro a hS
      refine s_val hS (by decide) rfl rfl (r_pick hS rfl rfl) ?_; clear hS; intro a hS
      refine s_val hS (by decide) rfl rfl (r_assign hS rfl) ?_; clear hS; intro a hS
      refine s_nil ?_
      refine k_seq ?_
      refine c_seq ?_
      refine c_region ?_
      refine s_val hS (by decide) rfl rfl (r_move hS rfl) ?_; clear hS; intro a hS
      refine s_val hS (by decide) rfl rfl (r_bv hS rfl (show ev _ _ = some (.int .i64 (0)) from rfl) gZ (b_eqlZ _ _ _)) ?_; clear hS; intro a hS
      refine s_val hS (by decide) rfl rfl (r_move hS rfl) ?_; clear hS; intro a hS
      refine s_val hS (by decide) rfl rfl (r_eqbt hS rfl rfl Tryd.underlying4 (nan_ord hx hy)) ?_; clear hS; intro a hS
      refine s_val hS (by decide) rfl rfl (r_move hS rfl) ?_; clear hS; intro a hS
      refine s_valg hS (by decide) rfl rfl rfl rfl rfl (r_move hS rfl) ?_; clear hS; intro a hS
      refine s_valg hS (by decide) rfl rfl rfl rfl rfl (r_move hS rfl) ?_; clear hS; intro a hS
      refine s_valg hS (by decide) rfl rfl rfl rfl rfl (r_bv hS rfl rfl gF (b_neqFn _ hx)) ?_; clear hS; intro a hS
      refine s_valg hS (by decide) rfl rfl rfl rfl rfl (r_move hS rfl) ?_; clear hS; intro a hS
      refine s_skip hS (by decide) rfl rfl rfl rfl rfl ?_; clear hS; intro a hS
      refine s_skip hS (by decide) rfl rfl rfl rfl rfl ?_; clear hS; intro a hS
      refine s_skip hS (by decide) rfl rfl rfl rfl rfl ?_; clear hS; intro a hS
      refine s_valg hS (by decide) rfl rfl rfl rfl rfl (r_pick hS rfl rfl) ?_; clear hS; intro a hS
      refine s_valg hS (by decide) rfl rfl rfl rfl rfl (r_move hS rfl) ?_; clear hS; intro a hS
      refine s_skip hS (by decide) rfl rfl rfl rfl rfl ?_; clear hS; intro a hS
      refine s_skip hS (by decide) rfl rfl rfl rfl rfl ?_; clear hS; intro a hS
      refine s_skip hS (by decide) rfl rfl rfl rfl rfl ?_; clear hS; intro a hS
      refine s_valg hS (by decide) rfl rfl rfl rfl rfl (r_pick hS rfl rfl) ?_; clear hS; intro a hS
      refine s_valg hS (by decide) rfl rfl rfl rfl rfl (r_move hS rfl) ?_; clear hS; intro a hS
      refine s_skip hS (by decide) rfl rfl rfl rfl rfl ?_; clear hS; intro a hS
      refine s_skip hS (by decide) rfl rfl rfl rfl rfl ?_; clear hS; intro a hS
      refine s_skip hS (by decide) rfl rfl rfl rfl rfl ?_; clear hS; intro a hS
      refine s_skip hS (by decide) rfl rfl rfl rfl rfl ?_; clear hS; intro a hS
      refine s_skip hS (by decide) rfl rfl rfl rfl rfl ?_; clear hS; intro a hS
      refine s_skip hS (by decide) rfl rfl rfl rfl rfl ?_; clear hS; intro a hS
      refine s_valg hS (by decide) rfl rfl rfl rfl rfl (r_pick hS rfl rfl) ?_; clear hS; intro a hS
      refine s_val hS (by decide) rfl rfl (r_pick hS rfl rfl) ?_; clear hS; intro a hS
      refine s_val hS (by decide) rfl rfl (r_assign hS rfl) ?_; clear hS; intro a hS
      refine s_nil ?_
      refine k_seq ?_
      refine c_ret ?_
      exact k_res1 hS rfl (RV.tmp rfl) ⟨rfl, hM.done trivial⟩
    · clear hS; intro a hS
      refine s_valg hS (by decide) rfl rfl rfl rfl rfl (r_pick hS rfl rfl) ?_; clear hS; intro a hS
      refine s_valg hS (by decide) rfl rfl rfl rfl rfl (r_move hS rfl) ?_; clear hS; intro a hS
      refine s_skip hS (by decide) rfl rfl rfl rfl rfl ?_; clear hS; intro a hS
      refine s_skip hS (by decide) rfl rfl rfl rfl rfl ?_; clear hS; intro a hS
      refine s_skip hS (by decide) rfl rfl rfl rfl rfl ?_; clear hS; intro a hS
      refine s_skip hS (by decide) rfl rfl rfl rfl rfl ?_; clear hS; intro a hS
      refine s_valg hS (by decide) rfl rfl rfl rfl rfl (r_pick hS rfl rfl) ?_; clear hS; intro a hS
      refine s_val hS (by decide) rfl rfl (r_pick hS rfl rfl) ?_; clear hS; intro a hS
      refine s_nil ?_
      refine k_seq ?_
      refine c_false hS rfl rfl ?_
      refine c_skip ?_
      refine k_seq ?_
      refine c_seq ?_
      refine c_region ?_
      refine s_val hS (by decide) rfl rfl (r_move hS rfl) ?_; clear hS; intro a hS
      refine s_val hS (by decide) rfl rfl (r_move hS rfl) ?_; clear hS; intro a hS
      refine s_val hS (by decide) rfl rfl (r_bv hS rfl rfl gF (b_neqFn _ hx)) ?_; clear hS; intro a hS
      refine s_val hS (by decide) rfl rfl (r_move hS rfl) ?_; clear hS; intro a hS
      refine s_valg hS (by decide) rfl rfl rfl rfl rfl (r_move hS rfl) ?_; clear hS; intro a hS
      refine s_valg hS (by decide) rfl rfl rfl rfl rfl (r_move hS rfl) ?_; clear hS; intro a hS
      refine s_valg hS (by decide) rfl rfl rfl rfl rfl (r_bv hS rfl rfl gF (b_neqFn _ hy)) ?_; clear hS; intro a hS
      refine s_val hS (by decide) rfl rfl (r_pick hS rfl rfl) ?_; clear hS; intro a hS
      refine s_val hS (by decide) rfl rfl (r_move hS rfl) ?_; clear hS; intro a hS
      refine s_valg hS (by decide) rfl rfl rfl rfl rfl (r_move hS rfl) ?_; clear hS; intro a hS
      refine s_valg hS (by decide) rfl rfl rfl rfl rfl (r_move hS rfl) ?_; clear hS; intro a hS
      refine s_valg hS (by decide) rfl rfl rfl rfl rfl (r_bv hS rfl rfl gF ((b_eqlF _ _ _).trans (by rw [fo_nanL hx]))) ?_; clear hS; intro a hS
      refine s_valg hS (by decide) rfl rfl rfl rfl rfl (r_move hS rfl) ?_; clear hS; intro a hS
      refine s_skip hS (by decide) rfl rfl rfl rfl rfl ?_; clear hS; intro a hS
      refine s_skip hS (by decide) rfl rfl rfl rfl rfl ?_; clear hS; intro a hS
      refine s_skip hS (by decide) rfl rfl rfl rfl rfl ?_; clear hS; intro a hS
      refine s_skipu hS (by decide) rfl rfl rfl rfl rfl ?_; clear hS; intro a hS
      refine s_skipu hS (by decide) rfl rfl rfl rfl rfl ?_; clear hS; intro a hS
      refine s_skipu hS (by decide) rfl rfl rfl rfl rfl ?_; clear hS; intro a hS
      refine s_skipu hS (by decide) rfl rfl rfl rfl rfl ?_; clear hS; intro a hS
      refine s_skipu hS (by decide) rfl rfl rfl rfl rfl ?_; clear hS; intro a hS
      refine s_skip hS (by decide) rfl rfl rfl rfl rfl ?_; clear hS; intro a hS
      refine s_valg hS (by decide) rfl rfl rfl rfl rfl (r_pick hS rfl rfl) ?_; clear hS; intro a hS
      refine s_val hS (by decide) rfl rfl (r_pick hS rfl rfl) ?_; clear hS; intro a hS
      refine s_val hS (by decide) rfl rfl (r_assign hS rfl) ?_; clear hS; intro a hS
      refine s_nil ?_
      refine k_seq ?_
      refine c_seq ?_
      refine c_region ?_
      refine s_val hS (by decide) rfl rfl (r_move hS rfl) ?_; clear hS; intro a hS
      refine s_val hS (by decide) rfl rfl (r_bv hS rfl (show ev _ _ = some (.int .i64 (0)) from rfl) gZ (b_eqlZ _ _ _)) ?_; clear hS; intro a hS
      refine s_val hS (by decide) rfl rfl (r_move hS rfl) ?_; clear hS; intro a hS
      refine s_val hS (by decide) rfl rfl (r_eqbt hS rfl rfl Tryd.underlying4 (nan_ord hx hy)) ?_; clear hS; intro a hS
      refine s_val hS (by decide) rfl rfl (r_move hS rfl) ?_; clear hS; intro a hS
      refine s_valg hS (by decide) rfl rfl rfl rfl rfl (r_move hS rfl) ?_; clear hS; intro a hS
      refine s_valg hS (by decide) rfl rfl rfl rfl rfl (r_move hS rfl) ?_; clear hS; intro a hS
      refine s_valg hS (by decide) rfl rfl rfl rfl rfl (r_bv hS rfl rfl gF (b_neqFn _ hx)) ?_; clear hS; intro a hS
      refine s_valg hS (by decide) rfl rfl rfl rfl rfl (r_move hS rfl) ?_; clear hS; intro a hS
      refine s_skip hS (by decide) rfl rfl rfl rfl rfl ?_; clear hS; intro a hS
      refine s_skip hS (by decide) rfl rfl rfl rfl rfl ?_; clear hS; intro a hS
      refine s_skip hS (by decide) rfl rfl rfl rfl rfl ?_; clear hS; intro a hS
      refine s_valg hS (by decide) rfl rfl rfl rfl rfl (r_pick hS rfl rfl) ?_; clear hS; intro a hS
      refine s_valg hS (by decide) rfl rfl rfl rfl rfl (r_move hS rfl) ?_; clear hS; intro a hS
      refine s_skip hS (by decide) rfl rfl rfl rfl rfl ?_; clear hS; intro a hS
      refine s_skip hS (by decide) rfl rfl rfl rfl rfl ?_; clear hS; intro a hS
      refine s_skip hS (by decide) rfl rfl rfl rfl rfl ?_; clear hS; intro a hS
      refine s_valg hS (by decide) rfl rfl rfl rfl rfl (r_pick hS rfl rfl) ?_; clear hS; intro a hS
      refine s_valg hS (by decide) rfl rfl rfl rfl rfl (r_move hS rfl) ?_; clear hS; intro a hS
      refine s_skip hS (by decide) rfl rfl rfl rfl rfl ?_; clear hS; intro a hS
      refine s_skip hS (by decide) rfl rfl rfl rfl rfl ?_; clear hS; intro a hS
      refine s_skip hS (by decide) rfl rfl rfl rfl rfl ?_; clear hS; intro a hS
      refine s_skip hS (by decide) rfl rfl rfl rfl rfl ?_; clear hS; intro a hS
      refine s_skip hS (by decide) rfl rfl rfl rfl rfl ?_; clear hS; intro a hS
      refine s_skip hS (by decide) rfl rfl rfl rfl rfl ?_; clear hS; intro a hS
      refine s_valg hS (by decide) rfl rfl rfl rfl rfl (r_pick hS rfl rfl) ?_; clear hS; intro a hS
      refine s_val hS (by decide) rfl rfl (r_pick hS rfl rfl) ?_; clear hS; intro a hS
      refine s_val hS (by decide) rfl rfl (r_assign hS rfl) ?_; clear hS; intro a hS
      refine s_nil ?_
      refine k_seq ?_
      refine c_ret ?_
      exact k_res1 hS rfl (RV.tmp rfl) ⟨rfl, hM.done trivial⟩
  · clear hS; intro a hS
    refine s_valg hS (by decide) rfl rfl rfl rfl rfl (r_move hS rfl) ?_; clear hS; intro a hS
    refine s_skip hS (by decide) rfl rfl rfl rfl rfl ?_; clear hS; intro a hS
    refine s_skip hS (by decide) rfl rfl rfl rfl rfl ?_; clear hS; intro a hS
    refine s_valg hS (by decide) rfl rfl rfl rfl rfl (r_pick hS rfl rfl) ?_; clear hS; intro a hS
    refine s_valg hS (by decide) rfl rfl rfl rfl rfl (r_move hS rfl) ?_; clear hS; intro a hS
    refine s_skip hS (by decide) rfl rfl rfl rfl rfl ?_; clear hS; intro a hS
    refine s_skip hS (by decide) rfl rfl rfl rfl rfl ?_; clear hS; intro a hS
    refine s_skip hS (by decide) rfl rfl rfl rfl rfl ?_; clear hS; intro a hS
    refine s_skip hS (by decide) rfl rfl rfl rfl rfl ?_; clear hS; intro a hS
    refine s_valg hS (by decide) rfl rfl rfl rfl rfl (r_pick hS rfl rfl) ?_; clear hS; intro a hS
    refine s_val hS (by decide) rfl rfl (r_pick hS rfl rfl) ?_; clear hS; intro a hS
    refine s_nil ?_
    refine k_seq ?_
    refine c_false hS rfl rfl ?_
    refine c_skip ?_
    refine k_seq ?_
    refine c_seq ?_
    refine c_region ?_
    refine s_val hS (by decide) rfl rfl (r_move hS rfl) ?_; clear hS; intro a hS
    refine s_val hS (by decide) rfl rfl (r_move hS rfl) ?_; clear hS; intro a hS
    refine s_val hS (by decide) rfl rfl (r_bv hS rfl rfl gF (b_neqFn _ hx)) ?_; clear hS; intro a hS
    refine s_val hS (by decide) rfl rfl (r_move hS rfl) ?_; clear hS; intro a hS
    refine s_valg hS (by decide) rfl rfl rfl rfl rfl (r_move hS rfl) ?_; clear hS; intro a hS
    refine s_valg hS (by decide) rfl rfl rfl rfl rfl (r_move hS rfl) ?_; clear hS; intro a hS
    refine s_valg hS (by decide) rfl rfl rfl rfl rfl (r_bv hS rfl rfl gF (b_neqFn _ hy)) ?_; clear hS; intro a hS
    refine s_val hS (by decide) rfl rfl (r_pick hS rfl rfl) ?_; clear hS; intro a hS
    refine s_val hS (by decide) rfl rfl (r_move hS rfl) ?_; clear hS; intro a hS
    refine s_valg hS (by decide) rfl rfl rfl rfl rfl (r_move hS rfl) ?_; clear hS; intro a hS
    refine s_valg hS (by decide) rfl rfl rfl rfl rfl (r_move hS rfl) ?_; clear hS; intro a hS
    refine s_valg hS (by decide) rfl rfl rfl rfl rfl (r_bv hS rfl rfl gF ((b_eqlF _ _ _).trans (by rw [fo_nanL hx]))) ?_; clear hS; intro a hS
    refine s_valg hS (by decide) rfl rfl rfl rfl rfl (r_move hS rfl) ?_; clear hS; intro a hS
    refine s_skip hS (by decide) rfl rfl rfl rfl rfl ?_; clear hS; intro a hS
    refine s_skip hS (by decide) rfl rfl rfl rfl rfl ?_; clear hS; intro a hS
    refine s_skip hS (by decide) rfl rfl rfl rfl rfl ?_; clear hS; intro a hS
    refine s_skipu hS (by decide) rfl rfl rfl rfl rfl ?_; clear hS; intro a hS
    refine s_skipu hS (by decide) rfl rfl rfl rfl rfl ?_; clear hS; intro a hS
    refine s_skipu hS (by decide) rfl rfl rfl rfl rfl ?_; clear hS; intro a hS
    refine s_skipu hS (by decide) rfl rfl rfl rfl rfl ?_; clear hS; intro a hS
    refine s_skipu hS (by decide) rfl rfl rfl rfl rfl ?_; clear hS; intro a hS
    refine s_skip hS (by decide) rfl rfl rfl rfl rfl ?_; clear hS; intro a hS
    refine s_valg hS (by decide) rfl rfl rfl rfl rfl (r_pick hS rfl rfl) ?_; clear hS; intro a hS
    refine s_val hS (by decide) rfl rfl (r_pick hS rfl rfl) ?_; clear hS; intro a hS
    refine s_val hS (by decide) rfl rfl (r_assign hS rfl) ?_; clear hS; intro a hS
    refine s_nil ?_
    refine k_seq ?_
    refine c_seq ?_
    refine c_region ?_
    refine s_val hS (by decide) rfl rfl (r_move hS rfl) ?_; clear hS; intro a hS
    refine s_val hS (by decide) rfl rfl (r_bv hS rfl (show ev _ _ = some (.int .i64 (0)) from rfl) gZ (b_eqlZ _ _ _)) ?_; clear hS; intro a hS
    refine s_val hS (by decide) rfl rfl (r_move hS rfl) ?_; clear hS; intro a hS
    refine s_val hS (by decide) rfl rfl (r_eqbt hS rfl rfl Tryd.underlying4 (nan_ord hx hy)) ?_; clear hS; intro a hS
    refine s_val hS (by decide) rfl rfl (r_move hS rfl) ?_; clear hS; intro a hS
    refine s_valg hS (by decide) rfl rfl rfl rfl rfl (r_move hS rfl) ?_; clear hS; intro a hS
    refine s_valg hS (by decide) rfl rfl rfl rfl rfl (r_move hS rfl) ?_; clear hS; intro a hS
    refine s_valg hS (by decide) rfl rfl rfl rfl rfl (r_bv hS rfl rfl gF (b_neqFn _ hx)) ?_; clear hS; intro a hS
    refine s_valg hS (by decide) rfl rfl rfl rfl rfl (r_move hS rfl) ?_; clear hS; intro a hS
    refine s_skip hS (by decide) rfl rfl rfl rfl rfl ?_; clear hS; intro a hS
    refine s_skip hS (by decide) rfl rfl rfl rfl rfl ?_; clear hS; intro a hS
    refine s_skip hS (by decide) rfl rfl rfl rfl rfl ?_; clear hS; intro a hS
    refine s_valg hS (by decide) rfl rfl rfl rfl rfl (r_pick hS rfl rfl) ?_; clear hS; intro a hS
    refine s_valg hS (by decide) rfl rfl rfl rfl rfl (r_move hS rfl) ?_; clear hS; intro a hS
    refine s_skip hS (by decide) rfl rfl rfl rfl rfl ?_; clear hS; intro a hS
    refine s_skip hS (by decide) rfl rfl rfl rfl rfl ?_; clear hS; intro a hS
    refine s_skip hS (by decide) rfl rfl rfl rfl rfl ?_; clear hS; intro a hS
    refine s_valg hS (by decide) rfl rfl rfl rfl rfl (r_pick hS rfl rfl) ?_; clear hS; intro a hS
    refine s_valg hS (by decide) rfl rfl rfl rfl rfl (r_move hS rfl) ?_; clear hS; intro a hS
    refine s_skip hS (by decide) rfl rfl rfl rfl rfl ?_; clear hS; intro a hS
    refine s_skip hS (by decide) rfl rfl rfl rfl rfl ?_; clear hS; intro a hS
    refine s_skip hS (by decide) rfl rfl rfl rfl rfl ?_; clear hS; intro a hS
    refine s_skip hS (by decide) rfl rfl rfl rfl rfl ?_; clear hS; intro a hS
    refine s_skip hS (by decide) rfl rfl rfl rfl rfl ?_; clear hS; intro a hS
    refine s_skip hS (by decide) rfl rfl rfl rfl rfl ?_; clear hS; intro a hS
    refine s_valg hS (by decide) rfl rfl rfl rfl rfl (r_pick hS rfl rfl) ?_; clear hS; intro a hS
    refine s_val hS (by decide) rfl rfl (r_pick hS rfl rfl) ?_; clear hS; intro a hS
    refine s_val hS (by decide) rfl rfl (r_assign hS rfl) ?_; clear hS; intro a hS
    refine s_nil ?_
    refine k_seq ?_
    refine c_ret ?_
    exact k_res1 hS rfl (RV.tmp rfl) ⟨rfl, hM.done trivial⟩

set_option maxRecDepth 100000 in
theorem gorder_fn (w0 : World) (hG : PW w0) (x y z : BitVec 64) (hx : nanB x = false) (hy : nanB y = true) : Pure Tryd.prog 3 #[F x, F y, F z] w0 (.bool true) := by
  refine ⟨by kernel_rfl, ?_⟩
  refine calls_sym Tryd.func3 rfl (by kernel_rfl) ?_
  intro a hS
  have hM : Mem w0 w0 [] := Mem.refl w0
  refine c_seq ?_
  refine c_region ?_
  refine s_val hS (by decide) rfl rfl (r_assign hS rfl) ?_; clear hS; intro a hS
  refine s_nil ?_
  refine k_seq ?_
  refine c_seq ?_
  refine c_region ?_
  refine s_pure hS hM (by decide) rfl (alive_ok _ (hG.keep hM trivial)) ?_; clear hS hM; intro a w hS hM
  refine s_val hS (by decide) rfl rfl (r_assign hS rfl) ?_; clear hS; intro a hS
  refine s_nil ?_
  refine k_seq ?_
  refine c_seq ?_
  refine c_region ?_
  refine s_val hS (by decide) rfl rfl (r_move hS rfl) ?_; clear hS; intro a hS
  refine s_val hS (by decide) rfl rfl (r_move hS rfl) ?_; clear hS; intro a hS
  refine s_pure hS hM (by decide) rfl (gord_ok _ _ _) ?_; clear hS hM; intro a w hS hM
  refine s_val hS (by decide) rfl rfl (r_assign hS rfl) ?_; clear hS; intro a hS
  refine s_nil ?_
  refine k_seq ?_
  refine c_seq ?_
  refine c_region ?_
  refine s_val hS (by decide) rfl rfl (r_move hS rfl) ?_; clear hS; intro a hS
  refine s_val hS (by decide) rfl rfl (r_move hS rfl) ?_; clear hS; intro a hS
  refine s_pure hS hM (by decide) rfl (gord_ok _ _ _) ?_; clear hS hM; intro a w hS hM
  refine s_val hS (by decide) rfl rfl (r_assign hS rfl) ?_; clear hS; intro a hS
  refine s_nil ?_
  refine k_seq ?_
  refine c_seq ?_
  refine c_seq ?_
  refine c_region ?_
  refine s_val hS (by decide) rfl rfl (r_move hS rfl) ?_; clear hS; intro a hS
  refine s_val hS (by decide) rfl rfl (r_not hS rfl) ?_; clear hS; intro a hS
  refine s_val hS (by decide) rfl rfl (r_move hS rfl) ?_; clear hS; intro a hS
  refine s_valg hS (by decide) rfl rfl rfl rfl rfl (r_move hS rfl) ?_; clear hS; intro a hS
  refine s_valg hS (by decide) rfl rfl rfl rfl rfl (r_move hS rfl) ?_; clear hS; intro a hS
  refine s_valg hS (by decide) rfl rfl rfl rfl rfl (r_move hS rfl) ?_; clear hS; intro a hS
  refine s_pureg hS hM (by decide) rfl rfl rfl rfl (gord_ok _ _ _) ?_; clear hS hM; intro a w hS hM
  refine s_valg hS (by decide) rfl rfl rfl rfl rfl (r_negZ hS rfl (by have := ord_bnd y x; omega)) ?_; clear hS; intro a hS
  refine s_valg hS (by decide) rfl rfl rfl rfl rfl (r_bv hS rfl rfl gZ ((b_neqZ _ _ _).trans (by rw [ord_neg x y, decide_eq_true rfl]))) ?_; clear hS; intro a hS
  refine s_val hS (by decide) rfl rfl (r_pick hS rfl rfl) ?_; clear hS; intro a hS
  refine s_val hS (by decide) rfl rfl (r_move hS rfl) ?_; clear hS; intro a hS
  refine s_valg hS (by decide) rfl rfl rfl rfl rfl (r_move hS rfl) ?_; clear hS; intro a hS
  refine s_valg hS (by decide) rfl rfl rfl rfl rfl (r_move hS rfl) ?_; clear hS; intro a hS
  refine s_pureg hS hM (by decide) rfl rfl rfl rfl (gord_ok _ _ _) ?_; clear hS hM; intro a w hS hM
  refine s_valg hS (by decide) rfl rfl rfl rfl rfl (r_bv hS rfl (show ev _ _ = some (.int .i64 0) from rfl) gZ ((b_neqZ _ _ _).trans (by rw [ord_self, decide_eq_true rfl]))) ?_; clear hS; intro a hS
  refine s_val hS (by decide) rfl rfl (r_pick hS rfl rfl) ?_; clear hS; intro a hS
  refine s_val hS (by decide) rfl rfl (r_move hS rfl) ?_; clear hS; intro a hS
  refine s_valg hS (by decide) rfl rfl rfl rfl rfl (r_move hS rfl) ?_; clear hS; intro a hS
  refine s_valgb hS (by decide) rfl rfl rfl rfl rfl (r_bv hS rfl (show ev _ _ = some (.int .i64 (0)) from rfl) gZ (b_leqZ _ _ _)) (fun hc => ?_) (fun hc => ?_)
  · clear hS; intro a hS; have h36 := of_decide_eq_true hc
    refine s_valg hS (by decide) rfl rfl rfl rfl rfl (r_move hS rfl) ?_; clear hS; intro a hS
    refine s_valg hS (by decide) rfl rfl rfl rfl rfl (r_move hS rfl) ?_; clear hS; intro a hS
    refine s_valgb hS (by decide) rfl rfl rfl rfl rfl (r_bv hS rfl (show ev _ _ = some (.int .i64 (0)) from rfl) gZ (b_leqZ _ _ _)) (fun hc => ?_) (fun hc => ?_)
    · clear hS; intro a hS; have h39 := of_decide_eq_true hc
      refine s_valg hS (by decide) rfl rfl rfl rfl rfl (r_pick hS rfl rfl) ?_; clear hS; intro a hS
      refine s_valg hS (by decide) rfl rfl rfl rfl rfl (r_move hS rfl) ?_; clear hS; intro a hS
      refine s_valg hS (by decide) rfl rfl rfl rfl rfl (r_move hS rfl) ?_; clear hS; intro a hS
      refine s_valg hS (by decide) rfl rfl rfl rfl rfl (r_move hS rfl) ?_; clear hS; intro a hS
      refine s_pureg hS hM (by decide) rfl rfl rfl rfl (gord_ok _ _ _) ?_; clear hS hM; intro a w hS hM
      refine s_valg hS (by decide) rfl rfl rfl rfl rfl (r_bv hS rfl (show ev _ _ = some (.int .i64 0) from rfl) gZ ((b_gtrZ _ _ _).trans (by rw [ord_trans h36 h39]))) ?_; clear hS; intro a hS
      refine s_valg hS (by decide) rfl rfl rfl rfl rfl (r_pick hS rfl rfl) ?_; clear hS; intro a hS
      refine s_val hS (by decide) rfl rfl (r_pick hS rfl rfl) ?_; clear hS; intro a hS
      refine s_nil ?_
      refine k_seq ?_
      refine c_false hS rfl rfl ?_
      refine c_skip ?_
      refine k_seq ?_
      refine c_seq ?_
      refine c_region ?_
      refine s_val hS (by decide) rfl rfl (r_move hS rfl) ?_; clear hS; intro a hS
      refine s_val hS (by decide) rfl rfl (r_move hS rfl) ?_; clear hS; intro a hS
      refine s_val hS (by decide) rfl rfl (r_bv hS rfl rfl gF (b_neqFn _ hx)) ?_; clear hS; intro a hS
      refine s_val hS (by decide) rfl rfl (r_move hS rfl) ?_; clear hS; intro a hS
      refine s_skip hS (by decide) rfl rfl rfl rfl rfl ?_; clear hS; intro a hS
      refine s_skip hS (by decide) rfl rfl rfl rfl rfl ?_; clear hS; intro a hS
      refine s_skip hS (by decide) rfl rfl rfl rfl rfl ?_; clear hS; intro a hS
      refine s_val hS (by decide) rfl rfl (r_pick hS rfl rfl) ?_; clear hS; intro a hS
      refine s_val hS (by decide) rfl rfl (r_move hS rfl) ?_; clear hS; intro a hS
      refine s_valg hS (by decide) rfl rfl rfl rfl rfl (r_move hS rfl) ?_; clear hS; intro a hS
      refine s_valg hS (by decide) rfl rfl rfl rfl rfl (r_move hS rfl) ?_; clear hS; intro a hS
      refine s_valg hS (by decide) rfl rfl rfl rfl rfl (r_bv hS rfl rfl gF ((b_eqlF _ _ _).trans (by rw [fo_nanR hy]))) ?_; clear hS; intro a hS
      refine s_valg hS (by decide) rfl rfl rfl rfl rfl (r_move hS rfl) ?_; clear hS; intro a hS
      refine s_skip hS (by decide) rfl rfl rfl rfl rfl ?_; clear hS; intro a hS
      refine s_skip hS (by decide) rfl rfl rfl rfl rfl ?_; clear hS; intro a hS
      refine s_skip hS (by decide) rfl rfl rfl rfl rfl ?_; clear hS; intro a hS
      refine s_skipu hS (by decide) rfl rfl rfl rfl rfl ?_; clear hS; intro a hS
      refine s_skipu hS (by decide) rfl rfl rfl rfl rfl ?_; clear hS; intro a hS
      refine s_skipu hS (by decide) rfl rfl rfl rfl rfl ?_; clear hS; intro a hS
      refine s_skipu hS (by decide) rfl rfl rfl rfl rfl ?_; clear hS; intro a hS
      refine s_skipu hS (by decide) rfl rfl rfl rfl rfl ?_; clear hS; intro a hS
      refine s_skip hS (by decide) rfl rfl rfl rfl rfl ?_; clear hS; intro a hS
      refine s_valg hS (by decide) rfl rfl rfl rfl rfl (r_pick hS rfl rfl) ?_; clear hS; intro a hS
      refine s_val hS (by decide) rfl rfl (r_pick hS rfl rfl) ?_; clear hS; intro a hS
      refine s_val hS (by decide) rfl rfl (r_assign hS rfl) ?_; clear hS; intro a hS
      refine s_nil ?_
      refine k_seq ?_
      refine c_seq ?_
      refine c_region ?_
      refine s_val hS (by decide) rfl rfl (r_move hS rfl) ?_; clear hS; intro a hS
      refine s_val hS (by decide) rfl rfl (r_bv hS rfl (show ev _ _ = some (.int .i64 (0)) from rfl) gZ (b_eqlZ _ _ _)) ?_; clear hS; intro a hS
      refine s_val hS (by decide) rfl rfl (r_move hS rfl) ?_; clear hS; intro a hS
      refine s_val hS (by decide) rfl rfl (r_eqbt hS rfl rfl Tryd.underlying4 (ord_nan hx hy)) ?_; clear hS; intro a hS
      refine s_val hS (by decide) rfl rfl (r_move hS rfl) ?_; clear hS; intro a hS
      refine s_valg hS (by decide) rfl rfl rfl rfl rfl (r_move hS rfl) ?_; clear hS; intro a hS
      refine s_valg hS (by decide) rfl rfl rfl rfl rfl (r_move hS rfl) ?_; clear hS; intro a hS
      refine s_valg hS (by decide) rfl rfl rfl rfl rfl (r_bv hS rfl rfl gF (b_neqFn _ hx)) ?_; clear hS; intro a hS
      refine s_valg hS (by decide) rfl rfl rfl rfl rfl (r_move hS rfl) ?_; clear hS; intro a hS
      refine s_valg hS (by decide) rfl rfl rfl rfl rfl (r_move hS rfl) ?_; clear hS; intro a hS
      refine s_valg hS (by decide) rfl rfl rfl rfl rfl (r_move hS rfl) ?_; clear hS; intro a hS
      refine s_valg hS (by decide) rfl rfl rfl rfl rfl (r_bv hS rfl rfl gF (b_neqFn _ hy)) ?_; clear hS; intro a hS
      refine s_valg hS (by decide) rfl rfl rfl rfl rfl (r_pick hS rfl rfl) ?_; clear hS; intro a hS
      refine s_valg hS (by decide) rfl rfl rfl rfl rfl (r_move hS rfl) ?_; clear hS; intro a hS
      refine s_skip hS (by decide) rfl rfl rfl rfl rfl ?_; clear hS; intro a hS
      refine s_skip hS (by decide) rfl rfl rfl rfl rfl ?_; clear hS; intro a hS
      refine s_skip hS (by decide) rfl rfl rfl rfl rfl ?_; clear hS; intro a hS
      refine s_valg hS (by decide) rfl rfl rfl rfl rfl (r_pick hS rfl rfl) ?_; clear hS; intro a hS
      refine s_valg hS (by decide) rfl rfl rfl rfl rfl (r_move hS rfl) ?_; clear hS; intro a hS
      refine s_skip hS (by decide) rfl rfl rfl rfl rfl ?_; clear hS; intro a hS
      refine s_skip hS (by decide) rfl rfl rfl rfl rfl ?_; clear hS; intro a hS
      refine s_skip hS (by decide) rfl rfl rfl rfl rfl ?_; clear hS; intro a hS
      refine s_skip hS (by decide) rfl rfl rfl rfl rfl ?_; clear hS; intro a hS
      refine s_skip hS (by decide) rfl rfl rfl rfl rfl ?_; clear hS; intro a hS
      refine s_skip hS (by decide) rfl rfl rfl rfl rfl ?_; clear hS; intro a hS
      refine s_valg hS (by decide) rfl rfl rfl rfl rfl (r_pick hS rfl rfl) ?_; clear hS; intro a hS
      refine s_val hS (by decide) rfl rfl (r_pick hS rfl rfl) ?_; clear hS; intro a hS
      refine s_val hS (by decide) rfl rfl (r_assign hS rfl) ?_; clear hS; intro a hS
      refine s_nil ?_
      refine k_seq ?_
      refine c_ret ?_
      exact k_res1 hS rfl (RV.tmp rfl) ⟨rfl, hM.done trivial⟩
    · clear hS; intro a hS
      refine s_valg hS (by decide) rfl rfl rfl rfl rfl (r_pick hS rfl rfl) ?_; clear hS; intro a hS
      refine s_valg hS (by decide) rfl rfl rfl rfl rfl (r_move hS rfl) ?_; clear hS; intro a hS
      refine s_skip hS (by decide) rfl rfl rfl rfl rfl ?_; clear hS; intro a hS
      refine s_skip hS (by decide) rfl rfl rfl rfl rfl ?_; clear hS; intro a hS
      refine s_skip hS (by decide) rfl rfl rfl rfl rfl ?_; clear hS; intro a hS
      refine s_skip hS (by decide) rfl rfl rfl rfl rfl ?_; clear hS; intro a hS
      refine s_valg hS (by decide) rfl rfl rfl rfl rfl (r_pick hS rfl rfl) ?_; clear hS; intro a hS
      refine s_val hS (by decide) rfl rfl (r_pick hS rfl rfl) ?_; clear hS; intro a hS
      refine s_nil ?_
      refine k_seq ?_
      refine c_false hS rfl rfl ?_
      refine c_skip ?_
      refine k_seq ?_
      refine c_seq ?_
      refine c_region ?_
      refine s_val hS (by decide) rfl rfl (r_move hS rfl) ?_; clear hS; intro a hS
      refine s_val hS (by decide) rfl rfl (r_move hS rfl) ?_; clear hS; intro a hS
      refine s_val hS (by decide) rfl rfl (r_bv hS rfl rfl gF (b_neqFn _ hx)) ?_; clear hS; intro a hS
      refine s_val hS (by decide) rfl rfl (r_move hS rfl) ?_; clear hS; intro a hS
      refine s_skip hS (by decide) rfl rfl rfl rfl rfl ?_; clear hS; intro a hS
      refine s_skip hS (by decide) rfl rfl rfl rfl rfl ?_; clear hS; intro a hS
      refine s_skip hS (by decide) rfl rfl rfl rfl rfl ?_; clear hS; intro a hS
      refine s_val hS (by decide) rfl rfl (r_pick hS rfl rfl) ?_; clear hS; intro a hS
      refine s_val hS (by decide) rfl rfl (r_move hS rfl) ?_; clear hS; intro a hS
      refine s_valg hS (by decide) rfl rfl rfl rfl rfl (r_move hS rfl) ?_; clear hS; intro a hS
      refine s_valg hS (by decide) rfl rfl rfl rfl rfl (r_move hS rfl) ?_; clear hS; intro a hS
      refine s_valg hS (by decide) rfl rfl rfl rfl rfl (r_bv hS rfl rfl gF ((b_eqlF _ _ _).trans (by rw [fo_nanR hy]))) ?_; clear hS; intro a hS
      refine s_valg hS (by decide) rfl rfl rfl rfl rfl (r_move hS rfl) ?_; clear hS; intro a hS
      refine s_skip hS (by decide) rfl rfl rfl rfl rfl ?_; clear hS; intro a hS
      refine s_skip hS (by decide) rfl rfl rfl rfl rfl ?_; clear hS; intro a hS
      refine s_skip hS (by decide) rfl rfl rfl rfl rfl ?_; clear hS; intro a hS
      refine s_skipu hS (by decide) rfl rfl rfl rfl rfl ?_; clear hS; intro a hS
      refine s_skipu hS (by decide) rfl rfl rfl rfl rfl ?_; clear hS; intro a hS
      refine s_skipu hS (by decide) rfl rfl rfl rfl rfl ?_; clear hS; intro a hS
      refine s_skipu hS (by decide) rfl rfl rfl rfl rfl ?_; clear hS; intro a hS
      refine s_skipu hS (by decide) rfl rfl rfl rfl rfl ?_; clear hS; intro a hS
      refine s_skip hS (by decide) rfl rfl rfl rfl rfl ?_; clear hS; intro a hS
      refine s_valg hS (by decide) rfl rfl rfl rfl rfl (r_pick hS rfl rfl) ?_; clear hS; intro a hS
      refine s_val hS (by decide) rfl rfl (r_pick hS rfl rfl) ?_; clear hS; intro a hS
      refine s_val hS (by decide) rfl rfl (r_assign hS rfl) ?_; clear hS; intro a hS
      refine s_nil ?_
      refine k_seq ?_
      refine c_seq ?_
      refine c_region ?_
      refine s_val hS (by decide) rfl rfl (r_move hS rfl) ?_; clear hS; intro a hS
      refine s_val hS (by decide) rfl rfl (r_bv hS rfl (show ev _ _ = some (.int .i64 (0)) from rfl) gZ (b_eqlZ _ _ _)) ?_; clear hS; intro a hS
      refine s_val hS (by decide) rfl rfl (r_move hS rfl) ?_; clear hS; intro a hS
      refine s_val hS (by decide) rfl rfl (r_eqbt hS rfl rfl Tryd.underlying4 (ord_nan hx hy)) ?_; clear hS; intro a hS
      refine s_val hS (by decide) rfl rfl (r_move hS rfl) ?_; clear hS; intro a hS
      refine s_valg hS (by decide) rfl rfl rfl rfl rfl (r_move hS rfl) ?_; clear hS; intro a hS
      refine s_valg hS (by decide) rfl rfl rfl rfl rfl (r_move hS rfl) ?_; clear hS; intro a hS
      refine s_valg hS (by decide) rfl rfl rfl rfl rfl (r_bv hS rfl rfl gF (b_neqFn _ hx)) ?_; clear hS; intro a hS
      refine s_valg hS (by decide) rfl rfl rfl rfl rfl (r_move hS rfl) ?_; clear hS; intro a hS
      refine s_valg hS (by decide) rfl rfl rfl rfl rfl (r_move hS rfl) ?_; clear hS; intro a hS
      refine s_valg hS (by decide) rfl rfl rfl rfl rfl (r_move hS rfl) ?_; clear hS; intro a hS
      refine s_valg hS (by decide) rfl rfl rfl rfl rfl (r_bv hS rfl rfl gF (b_neqFn _ hy)) ?_; clear hS; intro a hS
      refine s_valg hS (by decide) rfl rfl rfl rfl rfl (r_pick hS rfl rfl) ?_; clear hS; intro a hS
      refine s_valg hS (by decide) rfl rfl rfl rfl rfl (r_move hS rfl) ?_; clear hS; intro a hS
      refine s_skip hS (by decide) rfl rfl rfl rfl rfl ?_; clear hS; intro a hS
      refine s_skip hS (by decide) rfl rfl rfl rfl rfl ?_; clear hS; intro a hS
      refine s_skip hS (by decide) rfl rfl rfl rfl rfl ?_; clear hS; intro a hS
      refine s_valg hS (by decide) rfl rfl rfl rfl rfl (r_pick hS rfl rfl) ?_; clear hS; intro a hS
      refine s_valg hS (by decide) rfl rfl rfl rfl rfl (r_move hS rfl) ?_; clear hS; intro a hS
      refine s_skip hS (by decide) rfl rfl rfl rfl rfl ?_; clear hS; intro a hS
      refine s_skip hS (by decide) rfl rfl rfl rfl rfl ?_; clear hS; intro a hS
      refine s_skip hS (by decide) rfl rfl rfl rfl rfl ?_; clear hS; intro a hS
      refine s_skip hS (by decide) rfl rfl rfl rfl rfl ?_; clear hS; intro a hS
      refine s_skip hS (by decide) rfl rfl rfl rfl rfl ?_; clear hS; intro a hS
      refine s_skip hS (by decide) rfl rfl rfl rfl rfl ?_; clear hS; intro a hS
      refine s_valg hS (by decide) rfl rfl rfl rfl rfl (r_pick hS rfl rfl) ?_; clear hS; intro a hS
      refine s_val hS (by decide) rfl rfl (r_pick hS rfl rfl) ?_; clear hS; intro a hS
      refine s_val hS (by decide) rfl rfl (r_assign hS rfl) ?_; clear hS; intro a hS
      refine s_nil ?_
      refine k_seq ?_
      refine c_ret ?_
      exact k_res1 hS rfl (RV.tmp rfl) ⟨rfl, hM.done trivial⟩
  · clear hS; intro a hS
    refine s_valg hS (by decide) rfl rfl rfl rfl rfl (r_move hS rfl) ?_; clear hS; intro a hS
    refine s_skip hS (by decide) rfl rfl rfl rfl rfl ?_; clear hS; intro a hS
    refine s_skip hS (by decide) rfl rfl rfl rfl rfl ?_; clear hS; intro a hS
    refine s_valg hS (by decide) rfl rfl rfl rfl rfl (r_pick hS rfl rfl) ?_; clear hS; intro a hS
    refine s_valg hS (by decide) rfl rfl rfl rfl rfl (r_move hS rfl) ?_; clear hS; intro a hS
    refine s_skip hS (by decide) rfl rfl rfl rfl rfl ?_; clear hS; intro a hS
    refine s_skip hS (by decide) rfl rfl rfl rfl rfl ?_; clear hS; intro a hS
    refine s_skip hS (by decide) rfl rfl rfl rfl rfl ?_; clear hS; intro a hS
    refine s_skip hS (by decide) rfl rfl rfl rfl rfl ?_; clear hS; intro a hS
    refine s_valg hS (by decide) rfl rfl rfl rfl rfl (r_pick hS rfl rfl) ?_; clear hS; intro a hS
    refine s_val hS (by decide) rfl rfl (r_pick hS rfl rfl) ?_; clear hS; intro a hS
    refine s_nil ?_
    refine k_seq ?_
    refine c_false hS rfl rfl ?_
    refine c_skip ?_
    refine k_seq ?_
    refine c_seq ?_
    refine c_region ?_
    refine s_val hS (by decide) rfl rfl (r_move hS rfl) ?_; clear hS; intro a hS
    refine s_val hS (by decide) rfl rfl (r_move hS rfl) ?_; clear hS; intro a hS
    refine s_val hS (by decide) rfl rfl (r_bv hS rfl rfl gF (b_neqFn _ hx)) ?_; clear hS; intro a hS
    refine s_val hS (by decide) rfl rfl (r_move hS rfl) ?_; clear hS; intro a hS
    refine s_skip hS (by decide) rfl rfl rfl rfl rfl ?_; clear hS; intro a hS
    refine s_skip hS (by decide) rfl rfl rfl rfl rfl ?_; clear hS; intro a hS
    refine s_skip hS (by decide) rfl rfl rfl rfl rfl ?_; clear hS; intro a hS
    refine s_val hS (by decide) rfl rfl (r_pick hS rfl rfl) ?_; clear hS; intro a hS
    refine s_val hS (by decide) rfl rfl (r_move hS rfl) ?_; clear hS; intro a hS
    refine s_valg hS (by decide) rfl rfl rfl rfl rfl (r_move hS rfl) ?_; clear hS; intro a hS
    refine s_valg hS (by decide) rfl rfl rfl rfl rfl (r_move hS rfl) ?_; clear hS; intro a hS
    refine s_valg hS (by decide) rfl rfl rfl rfl rfl (r_bv hS rfl rfl gF ((b_eqlF _ _ _).trans (by rw [fo_nanR hy]))) ?_; clear hS; intro a hS
    refine s_valg hS (by decide) rfl rfl rfl rfl rfl (r_move hS rfl) ?_; clear hS; intro a hS
    refine s_skip hS (by decide) rfl rfl rfl rfl rfl ?_; clear hS; intro a hS
    refine s_skip hS (by decide) rfl rfl rfl rfl rfl ?_; clear hS; intro a hS
    refine s_skip hS (by decide) rfl rfl rfl rfl rfl ?_; clear hS; intro a hS
    refine s_skipu hS (by decide) rfl rfl rfl rfl rfl ?_; clear hS; intro a hS
    refine s_skipu hS (by decide) rfl rfl rfl rfl rfl ?_; clear hS; intro a hS
    refine s_skipu hS (by decide) rfl rfl rfl rfl rfl ?_; clear hS; intro a hS
    refine s_skipu hS (by decide) rfl rfl rfl rfl rfl ?_; clear hS; intro a hS
    refine s_skipu hS (by decide) rfl rfl rfl rfl rfl ?_; clear hS; intro a hS
    refine s_skip hS (by decide) rfl rfl rfl rfl rfl ?_; clear hS; intro a hS
    refine s_valg hS (by decide) rfl rfl rfl rfl rfl (r_pick hS rfl rfl) ?_; clear hS; intro a hS
    refine s_val hS (by decide) rfl rfl (r_pick hS rfl rfl) ?_; clear hS; intro a hS
    refine s_val hS (by decide) rfl rfl (r_assign hS rfl) ?_; clear hS; intro a hS
    refine s_nil ?_
    refine k_seq ?_
    refine c_seq ?_
    refine c_region ?_
    refine s_val hS (by decide) rfl rfl (r_move hS rfl) ?_; clear hS; intro a hS
    refine s_val hS (by decide) rfl rfl (r_bv hS rfl (show ev _ _ = some (.int .i64 (0)) from rfl) gZ (b_eqlZ _ _ _)) ?_; clear hS; intro a hS
    refine s_val hS (by decide) rfl rfl (r_move hS rfl) ?_; clear hS; intro a hS
    refine s_val hS (by decide) rfl rfl (r_eqbt hS rfl rfl Tryd.underlying4 (ord_nan hx hy)) ?_; clear hS; intro a hS
    refine s_val hS (by decide) rfl rfl (r_move hS rfl) ?_; clear hS; intro a hS
    refine s_valg hS (by decide) rfl rfl rfl rfl rfl (r_move hS rfl) ?_; clear hS; intro a hS
    refine s_valg hS (by decide) rfl rfl rfl rfl rfl (r_move hS rfl) ?_; clear hS; intro a hS
    refine s_valg hS (by decide) rfl rfl rfl rfl rfl (r_bv hS rfl rfl gF (b_neqFn _ hx)) ?_; clear hS; intro a hS
    refine s_valg hS (by decide) rfl rfl rfl rfl rfl (r_move hS rfl) ?_; clear hS; intro a hS
    refine s_valg hS (by decide) rfl rfl rfl rfl rfl (r_move hS rfl) ?_; clear hS; intro a hS
    refine s_valg hS (by decide) rfl rfl rfl rfl rfl (r_move hS rfl) ?_; clear hS; intro a hS
    refine s_valg hS (by decide) rfl rfl rfl rfl rfl (r_bv hS rfl rfl gF (b_neqFn _ hy)) ?_; clear hS; intro a hS
    refine s_valg hS (by decide) rfl rfl rfl rfl rfl (r_pick hS rfl rfl) ?_; clear hS; intro a hS
    refine s_valg hS (by decide) rfl rfl rfl rfl rfl (r_move hS rfl) ?_; clear hS; intro a hS
    refine s_skip hS (by decide) rfl rfl rfl rfl rfl ?_; clear hS; intro a hS
    refine s_skip hS (by decide) rfl rfl rfl rfl rfl ?_; clear hS; intro a hS
    refine s_skip hS (by decide) rfl rfl rfl rfl rfl ?_; clear hS; intro a hS
    refine s_valg hS (by decide) rfl rfl rfl rfl rfl (r_pick hS rfl rfl) ?_; clear hS; intro a hS
    refine s_valg hS (by decide) rfl rfl rfl rfl rfl (r_move hS rfl) ?_; clear hS; intro a hS
    refine s_skip hS (by decide) rfl rfl rfl rfl rfl ?_; clear hS; intro a hS
    refine s_skip hS (by decide) rfl rfl rfl rfl rfl ?_; clear hS; intro a hS
    refine s_skip hS (by decide) rfl rfl rfl rfl rfl ?_; clear hS; intro a hS
    refine s_skip hS (by decide) rfl rfl rfl rfl rfl ?_; clear hS; intro a hS
    refine s_skip hS (by decide) rfl rfl rfl rfl rfl ?_; clear hS; intro a hS
    refine s_skip hS (by decide) rfl rfl rfl rfl rfl ?_; clear hS; intro a hS
    refine s_valg hS (by decide) rfl rfl rfl rfl rfl (r_pick hS rfl rfl) ?_; clear hS; intro a hS
    refine s_val hS (by decide) rfl rfl (r_pick hS rfl rfl) ?_; clear hS; intro a hS
    refine s_val hS (by decide) rfl rfl (r_assign hS rfl) ?_; clear hS; intro a hS
    refine s_nil ?_
    refine k_seq ?_
    refine c_ret ?_
    exact k_res1 hS rfl (RV.tmp rfl) ⟨rfl, hM.done trivial⟩

set_option maxRecDepth 100000 in
theorem gorder_ff (w0 : World) (hG : PW w0) (x y z : BitVec 64) (hx : nanB x = false) (hy : nanB y = false) : Pure Tryd.prog 3 #[F x, F y, F z] w0 (.bool true) := by
  refine ⟨by kernel_rfl, ?_⟩
  refine calls_sym Tryd.func3 rfl (by kernel_rfl) ?_
  intro a hS
  have hM : Mem w0 w0 [] := Mem.refl w0
  refine c_seq ?_
  refine c_region ?_
  refine s_val hS (by decide) rfl rfl (r_assign hS rfl) ?_; clear hS; intro a hS
  refine s_nil ?_
  refine k_seq ?_
  refine c_seq ?_
  refine c_region ?_
  refine s_pure hS hM (by decide) rfl (alive_ok _ (hG.keep hM trivial)) ?_; clear hS hM; intro a w hS hM
  refine s_val hS (by decide) rfl rfl (r_assign hS rfl) ?_; clear hS; intro a hS
  refine s_nil ?_
  refine k_seq ?_
  refine c_seq ?_
  refine c_region ?_
  refine s_val hS (by decide) rfl rfl (r_move hS rfl) ?_; clear hS; intro a hS
  refine s_val hS (by decide) rfl rfl (r_move hS rfl) ?_; clear hS; intro a hS
  refine s_pure hS hM (by decide) rfl (gord_ok _ _ _) ?_; clear hS hM; intro a w hS hM
  refine s_val hS (by decide) rfl rfl (r_assign hS rfl) ?_; clear hS; intro a hS
  refine s_nil ?_
  refine k_seq ?_
  refine c_seq ?_
  refine c_region ?_
  refine s_val hS (by decide) rfl rfl (r_move hS rfl) ?_; clear hS; intro a hS
  refine s_val hS (by decide) rfl rfl (r_move hS rfl) ?_; clear hS; intro a hS
  refine s_pure hS hM (by decide) rfl (gord_ok _ _ _) ?_; clear hS hM; intro a w hS hM
  refine s_val hS (by decide) rfl rfl (r_assign hS rfl) ?_; clear hS; intro a hS
  refine s_nil ?_
  refine k_seq ?_
  refine c_seq ?_
  refine c_seq ?_
  refine c_region ?_
  refine s_val hS (by decide) rfl rfl (r_move hS rfl) ?_; clear hS; intro a hS
  refine s_val hS (by decide) rfl rfl (r_not hS rfl) ?_; clear hS; intro a hS
  refine s_val hS (by decide) rfl rfl (r_move hS rfl) ?_; clear hS; intro a hS
  refine s_valg hS (by decide) rfl rfl rfl rfl rfl (r_move hS rfl) ?_; clear hS; intro a hS
  refine s_valg hS (by decide) rfl rfl rfl rfl rfl (r_move hS rfl) ?_; clear hS; intro a hS
  refine s_valg hS (by decide) rfl rfl rfl rfl rfl (r_move hS rfl) ?_; clear hS; intro a hS
  refine s_pureg hS hM (by decide) rfl rfl rfl rfl (gord_ok _ _ _) ?_; clear hS hM; intro a w hS hM
  refine s_valg hS (by decide) rfl rfl rfl rfl rfl (r_negZ hS rfl (by have := ord_bnd y x; omega)) ?_; clear hS; intro a hS
  refine s_valg hS (by decide) rfl rfl rfl rfl rfl (r_bv hS rfl rfl gZ ((b_neqZ _ _ _).trans (by rw [ord_neg x y, decide_eq_true rfl]))) ?_; clear hS; intro a hS
  refine s_val hS (by decide) rfl rfl (r_pick hS rfl rfl) ?_; clear hS; intro a hS
  refine s_val hS (by decide) rfl rfl (r_move hS rfl) ?_; clear hS; intro a hS
  refine s_valg hS (by decide) rfl rfl rfl rfl rfl (r_move hS rfl) ?_; clear hS; intro a hS
  refine s_valg hS (by decide) rfl rfl rfl rfl rfl (r_move hS rfl) ?_; clear hS; intro a hS
  refine s_pureg hS hM (by decide) rfl rfl rfl rfl (gord_ok _ _ _) ?_; clear hS hM; intro a w hS hM
  refine s_valg hS (by decide) rfl rfl rfl rfl rfl (r_bv hS rfl (show ev _ _ = some (.int .i64 0) from rfl) gZ ((b_neqZ _ _ _).trans (by rw [ord_self, decide_eq_true rfl]))) ?_; clear hS; intro a hS
  refine s_val hS (by decide) rfl rfl (r_pick hS rfl rfl) ?_; clear hS; intro a hS
  refine s_val hS (by decide) rfl rfl (r_move hS rfl) ?_; clear hS; intro a hS
  refine s_valg hS (by decide) rfl rfl rfl rfl rfl (r_move hS rfl) ?_; clear hS; intro a hS
  refine s_valgb hS (by decide) rfl rfl rfl rfl rfl (r_bv hS rfl (show ev _ _ = some (.int .i64 (0)) from rfl) gZ (b_leqZ _ _ _)) (fun hc => ?_) (fun hc => ?_)
  · clear hS; intro a hS; have h36 := of_decide_eq_true hc
    refine s_valg hS (by decide) rfl rfl rfl rfl rfl (r_move hS rfl) ?_; clear hS; intro a hS
    refine s_valg hS (by decide) rfl rfl rfl rfl rfl (r_move hS rfl) ?_; clear hS; intro a hS
    refine s_valgb hS (by decide) rfl rfl rfl rfl rfl (r_bv hS rfl (show ev _ _ = some (.int .i64 (0)) from rfl) gZ (b_leqZ _ _ _)) (fun hc => ?_) (fun hc => ?_)
    · clear hS; intro a hS; have h39 := of_decide_eq_true hc
      refine s_valg hS (by decide) rfl rfl rfl rfl rfl (r_pick hS rfl rfl) ?_; clear hS; intro a hS
      refine s_valg hS (by decide) rfl rfl rfl rfl rfl (r_move hS rfl) ?_; clear hS; intro a hS
      refine s_valg hS (by decide) rfl rfl rfl rfl rfl (r_move hS rfl) ?_; clear hS; intro a hS
      refine s_valg hS (by decide) rfl rfl rfl rfl rfl (r_move hS rfl) ?_; clear hS; intro a hS
      refine s_pureg hS hM (by decide) rfl rfl rfl rfl (gord_ok _ _ _) ?_; clear hS hM; intro a w hS hM
      refine s_valg hS (by decide) rfl rfl rfl rfl rfl (r_bv hS rfl (show ev _ _ = some (.int .i64 0) from rfl) gZ ((b_gtrZ _ _ _).trans (by rw [ord_trans h36 h39]))) ?_; clear hS; intro a hS
      refine s_valg hS (by decide) rfl rfl rfl rfl rfl (r_pick hS rfl rfl) ?_; clear hS; intro a hS
      refine s_val hS (by decide) rfl rfl (r_pick hS rfl rfl) ?_; clear hS; intro a hS
      refine s_nil ?_
      refine k_seq ?_
      refine c_false hS rfl rfl ?_
      refine c_skip ?_
      refine k_seq ?_
      refine c_seq ?_
      refine c_region ?_
      refine s_val hS (by decide) rfl rfl (r_move hS rfl) ?_; clear hS; intro a hS
      refine s_val hS (by decide) rfl rfl (r_move hS rfl) ?_; clear hS; intro a hS
      refine s_val hS (by decide) rfl rfl (r_bv hS rfl rfl gF (b_neqFn _ hx)) ?_; clear hS; intro a hS
      refine s_val hS (by decide) rfl rfl (r_move hS rfl) ?_; clear hS; intro a hS
      refine s_skip hS (by decide) rfl rfl rfl rfl rfl ?_; clear hS; intro a hS
      refine s_skip hS (by decide) rfl rfl rfl rfl rfl ?_; clear hS; intro a hS
      refine s_skip hS (by decide) rfl rfl rfl rfl rfl ?_; clear hS; intro a hS
      refine s_val hS (by decide) rfl rfl (r_pick hS rfl rfl) ?_; clear hS; intro a hS
      refine s_val hS (by decide) rfl rfl (r_move hS rfl) ?_; clear hS; intro a hS
      refine s_valg hS (by decide) rfl rfl rfl rfl rfl (r_move hS rfl) ?_; clear hS; intro a hS
      refine s_valg hS (by decide) rfl rfl rfl rfl rfl (r_move hS rfl) ?_; clear hS; intro a hS
      refine s_valgb hS (by decide) rfl rfl rfl rfl rfl (r_bv hS rfl rfl gF (b_eqlF _ _ _)) (fun hc => ?_) (fun hc => ?_)
      · clear hS; intro a hS; have h59 := hc
        refine s_valg hS (by decide) rfl rfl rfl rfl rfl (r_move hS rfl) ?_; clear hS; intro a hS
        refine s_valg hS (by decide) rfl rfl rfl rfl rfl (r_move hS rfl) ?_; clear hS; intro a hS
        refine s_valgb hS (by decide) rfl rfl rfl rfl rfl (r_bv hS rfl (show ev _ _ = some (F 0#64) from rfl) gF (b_neqF _ _ _)) (fun hc => ?_) (fun hc => ?_)
        · clear hS; intro a hS; have h62 := hc
          refine s_valg hS (by decide) rfl rfl rfl rfl rfl (r_move hS rfl) ?_; clear hS; intro a hS
          refine s_skip hS (by decide) rfl rfl rfl rfl rfl ?_; clear hS; intro a hS
          refine s_skip hS (by decide) rfl rfl rfl rfl rfl ?_; clear hS; intro a hS
          refine s_skip hS (by decide) rfl rfl rfl rfl rfl ?_; clear hS; intro a hS
          refine s_skip hS (by decide) rfl rfl rfl rfl rfl ?_; clear hS; intro a hS
          refine s_skip hS (by decide) rfl rfl rfl rfl rfl ?_; clear hS; intro a hS
          refine s_valg hS (by decide) rfl rfl rfl rfl rfl (r_pick hS rfl rfl) ?_; clear hS; intro a hS
          refine s_valg hS (by decide) rfl rfl rfl rfl rfl (r_pick hS rfl rfl) ?_; clear hS; intro a hS
          refine s_val hS (by decide) rfl rfl (r_pick hS rfl rfl) ?_; clear hS; intro a hS
          refine s_val hS (by decide) rfl rfl (r_assign hS rfl) ?_; clear hS; intro a hS
          refine s_nil ?_
          refine k_seq ?_
          refine c_seq ?_
          refine c_region ?_
          refine s_val hS (by decide) rfl rfl (r_move hS rfl) ?_; clear hS; intro a hS
          refine s_val hS (by decide) rfl rfl (r_bv hS rfl (show ev _ _ = some (.int .i64 (0)) from rfl) gZ (b_eqlZ _ _ _)) ?_; clear hS; intro a hS
          refine s_val hS (by decide) rfl rfl (r_move hS rfl) ?_; clear hS; intro a hS
          refine s_val hS (by decide) rfl rfl (r_eqbt hS rfl rfl Tryd.underlying4 (by first | exact ne_ord hx hy h59 | exact eq_ord h59 h62 | exact zero_ord h59 h62 hr65 hr67)) ?_; clear hS; intro a hS
          refine s_val hS (by decide) rfl rfl (r_move hS rfl) ?_; clear hS; intro a hS
          refine s_valg hS (by decide) rfl rfl rfl rfl rfl (r_move hS rfl) ?_; clear hS; intro a hS
          refine s_valg hS (by decide) rfl rfl rfl rfl rfl (r_move hS rfl) ?_; clear hS; intro a hS
          refine s_valg hS (by decide) rfl rfl rfl rfl rfl (r_bv hS rfl rfl gF (b_neqFn _ hx)) ?_; clear hS; intro a hS
          refine s_valg hS (by decide) rfl rfl rfl rfl rfl (r_move hS rfl) ?_; clear hS; intro a hS
          refine s_valg hS (by decide) rfl rfl rfl rfl rfl (r_move hS rfl) ?_; clear hS; intro a hS
          refine s_valg hS (by decide) rfl rfl rfl rfl rfl (r_move hS rfl) ?_; clear hS; intro a hS
          refine s_valg hS (by decide) rfl rfl rfl rfl rfl (r_bv hS rfl rfl gF (b_neqFn _ hy)) ?_; clear hS; intro a hS
          refine s_valg hS (by decide) rfl rfl rfl rfl rfl (r_pick hS rfl rfl) ?_; clear hS; intro a hS
          refine s_valg hS (by decide) rfl rfl rfl rfl rfl (r_move hS rfl) ?_; clear hS; intro a hS
          refine s_valg hS (by decide) rfl rfl rfl rfl rfl (r_move hS rfl) ?_; clear hS; intro a hS
          refine s_valg hS (by decide) rfl rfl rfl rfl rfl (r_move hS rfl) ?_; clear hS; intro a hS
          refine s_valgb hS (by decide) rfl rfl rfl rfl rfl (r_bv hS rfl rfl gF (b_eqlF _ _ _)) (fun hc => ?_) (fun hc => ?_)
          · clear hS; intro a hS; have h88 := hc
            refine s_valg hS (by decide) rfl rfl rfl rfl rfl (r_pick hS rfl rfl) ?_; clear hS; intro a hS
            refine s_valg hS (by decide) rfl rfl rfl rfl rfl (r_move hS rfl) ?_; clear hS; intro a hS
            refine s_skip hS (by decide) rfl rfl rfl rfl rfl ?_; clear hS; intro a hS
            refine s_skip hS (by decide) rfl rfl rfl rfl rfl ?_; clear hS; intro a hS
            refine s_skip hS (by decide) rfl rfl rfl rfl rfl ?_; clear hS; intro a hS
            refine s_skip hS (by decide) rfl rfl rfl rfl rfl ?_; clear hS; intro a hS
            refine s_skip hS (by decide) rfl rfl rfl rfl rfl ?_; clear hS; intro a hS
            refine s_skip hS (by decide) rfl rfl rfl rfl rfl ?_; clear hS; intro a hS
            refine s_valg hS (by decide) rfl rfl rfl rfl rfl (r_pick hS rfl rfl) ?_; clear hS; intro a hS
            refine s_val hS (by decide) rfl rfl (r_pick hS rfl rfl) ?_; clear hS; intro a hS
            refine s_val hS (by decide) rfl rfl (r_assign hS rfl) ?_; clear hS; intro a hS
            refine s_nil ?_
            refine k_seq ?_
            refine c_ret ?_
            exact k_res1 hS rfl (RV.tmp rfl) ⟨rfl, hM.done trivial⟩
          · clear hS; intro a hS; have h88 := hc
            refine s_valg hS (by decide) rfl rfl rfl rfl rfl (r_pick hS rfl rfl) ?_; clear hS; intro a hS
            refine s_valg hS (by decide) rfl rfl rfl rfl rfl (r_move hS rfl) ?_; clear hS; intro a hS
            refine s_valg hS (by decide) rfl rfl rfl rfl rfl (r_move hS rfl) ?_; clear hS; intro a hS
            refine s_valg hS (by decide) rfl rfl rfl rfl rfl (r_bv hS rfl (show ev _ _ = some (.int .i64 (0)) from rfl) gZ (b_lssZ _ _ _)) ?_; clear hS; intro a hS
            refine s_valg hS (by decide) rfl rfl rfl rfl rfl (r_move hS rfl) ?_; clear hS; intro a hS
            refine s_valg hS (by decide) rfl rfl rfl rfl rfl (r_move hS rfl) ?_; clear hS; intro a hS
            refine s_valg hS (by decide) rfl rfl rfl rfl rfl (r_bv hS rfl rfl gF (b_lssF _ _ _)) ?_; clear hS; intro a hS
            refine s_valg hS (by decide) rfl rfl rfl rfl rfl (r_eqbt hS rfl rfl Tryd.underlying4 (by first | exact lt_ord hx hy h88 | exact absurd (h59.symm.trans h88) (by decide))) ?_; clear hS; intro a hS
            refine s_valg hS (by decide) rfl rfl rfl rfl rfl (r_pick hS rfl rfl) ?_; clear hS; intro a hS
            refine s_val hS (by decide) rfl rfl (r_pick hS rfl rfl) ?_; clear hS; intro a hS
            refine s_val hS (by decide) rfl rfl (r_assign hS rfl) ?_; clear hS; intro a hS
            refine s_nil ?_
            refine k_seq ?_
            refine c_ret ?_
            exact k_res1 hS rfl (RV.tmp rfl) ⟨rfl, hM.done trivial⟩
        · clear hS; intro a hS; have h62 := hc
          refine s_valg hS (by decide) rfl rfl rfl rfl rfl (r_move hS rfl) ?_; clear hS; intro a hS
          refine s_valg hS (by decide) rfl rfl rfl rfl rfl (r_move hS rfl) ?_; clear hS; intro a hS
          refine s_floatg hS hM (by decide) (show ev _ _ = some (F 4607182418800017408#64) from rfl) rfl rfl rfl rfl (.inr (.inr (.inr rfl))) ?_; clear hS hM; intro a w r65 hr65 hS hM
          refine s_valg hS (by decide) rfl rfl rfl rfl rfl (r_move hS rfl) ?_; clear hS; intro a hS
          refine s_floatg hS hM (by decide) (show ev _ _ = some (F 4607182418800017408#64) from rfl) rfl rfl rfl rfl (.inr (.inr (.inr rfl))) ?_; clear hS hM; intro a w r67 hr67 hS hM
          refine s_valg hS (by decide) rfl rfl rfl rfl rfl (r_bv hS rfl rfl gF (b_eqlF _ _ _)) ?_; clear hS; intro a hS
          refine s_valg hS (by decide) rfl rfl rfl rfl rfl (r_pick hS rfl rfl) ?_; clear hS; intro a hS
          refine s_valg hS (by decide) rfl rfl rfl rfl rfl (r_pick hS rfl rfl) ?_; clear hS; intro a hS
          refine s_val hS (by decide) rfl rfl (r_pick hS rfl rfl) ?_; clear hS; intro a hS
          refine s_val hS (by decide) rfl rfl (r_assign hS rfl) ?_; clear hS; intro a hS
          refine s_nil ?_
          refine k_seq ?_
          refine c_seq ?_
          refine c_region ?_
          refine s_val hS (by decide) rfl rfl (r_move hS rfl) ?_; clear hS; intro a hS
          refine s_val hS (by decide) rfl rfl (r_bv hS rfl (show ev _ _ = some (.int .i64 (0)) from rfl) gZ (b_eqlZ _ _ _)) ?_; clear hS; intro a hS
          refine s_val hS (by decide) rfl rfl (r_move hS rfl) ?_; clear hS; intro a hS
          refine s_val hS (by decide) rfl rfl (r_eqbt hS rfl rfl Tryd.underlying4 (by first | exact ne_ord hx hy h59 | exact eq_ord h59 h62 | exact zero_ord h59 h62 hr65 hr67)) ?_; clear hS; intro a hS
          refine s_val hS (by decide) rfl rfl (r_move hS rfl) ?_; clear hS; intro a hS
          refine s_valg hS (by decide) rfl rfl rfl rfl rfl (r_move hS rfl) ?_; clear hS; intro a hS
          refine s_valg hS (by decide) rfl rfl rfl rfl rfl (r_move hS rfl) ?_; clear hS; intro a hS
          refine s_valg hS (by decide) rfl rfl rfl rfl rfl (r_bv hS rfl rfl gF (b_neqFn _ hx)) ?_; clear hS; intro a hS
          refine s_valg hS (by decide) rfl rfl rfl rfl rfl (r_move hS rfl) ?_; clear hS; intro a hS
          refine s_valg hS (by decide) rfl rfl rfl rfl rfl (r_move hS rfl) ?_; clear hS; intro a hS
          refine s_valg hS (by decide) rfl rfl rfl rfl rfl (r_move hS rfl) ?_; clear hS; intro a hS
          refine s_valg hS (by decide) rfl rfl rfl rfl rfl (r_bv hS rfl rfl gF (b_neqFn _ hy)) ?_; clear hS; intro a hS
          refine s_valg hS (by decide) rfl rfl rfl rfl rfl (r_pick hS rfl rfl) ?_; clear hS; intro a hS
          refine s_valg hS (by decide) rfl rfl rfl rfl rfl (r_move hS rfl) ?_; clear hS; intro a hS
          refine s_valg hS (by decide) rfl rfl rfl rfl rfl (r_move hS rfl) ?_; clear hS; intro a hS
          refine s_valg hS (by decide) rfl rfl rfl rfl rfl (r_move hS rfl) ?_; clear hS; intro a hS
          refine s_valgb hS (by decide) rfl rfl rfl rfl rfl (r_bv hS rfl rfl gF (b_eqlF _ _ _)) (fun hc => ?_) (fun hc => ?_)
          · clear hS; intro a hS; have h88 := hc
            refine s_valg hS (by decide) rfl rfl rfl rfl rfl (r_pick hS rfl rfl) ?_; clear hS; intro a hS
            refine s_valg hS (by decide) rfl rfl rfl rfl rfl (r_move hS rfl) ?_; clear hS; intro a hS
            refine s_skip hS (by decide) rfl rfl rfl rfl rfl ?_; clear hS; intro a hS
            refine s_skip hS (by decide) rfl rfl rfl rfl rfl ?_; clear hS; intro a hS
            refine s_skip hS (by decide) rfl rfl rfl rfl rfl ?_; clear hS; intro a hS
            refine s_skip hS (by decide) rfl rfl rfl rfl rfl ?_; clear hS; intro a hS
            refine s_skip hS (by decide) rfl rfl rfl rfl rfl ?_; clear hS; intro a hS
            refine s_skip hS (by decide) rfl rfl rfl rfl rfl ?_; clear hS; intro a hS
            refine s_valg hS (by decide) rfl rfl rfl rfl rfl (r_pick hS rfl rfl) ?_; clear hS; intro a hS
            refine s_val hS (by decide) rfl rfl (r_pick hS rfl rfl) ?_; clear hS; intro a hS
            refine s_val hS (by decide) rfl rfl (r_assign hS rfl) ?_; clear hS; intro a hS
            refine s_nil ?_
            refine k_seq ?_
            refine c_ret ?_
            exact k_res1 hS rfl (RV.tmp rfl) ⟨rfl, hM.done trivial⟩
          · clear hS; intro a hS; have h88 := hc
            refine s_valg hS (by decide) rfl rfl rfl rfl rfl (r_pick hS rfl rfl) ?_; clear hS; intro a hS
            refine s_valg hS (by decide) rfl rfl rfl rfl rfl (r_move hS rfl) ?_; clear hS; intro a hS
            refine s_valg hS (by decide) rfl rfl rfl rfl rfl (r_move hS rfl) ?_; clear hS; intro a hS
            refine s_valg hS (by decide) rfl rfl rfl rfl rfl (r_bv hS rfl (show ev _ _ = some (.int .i64 (0)) from rfl) gZ (b_lssZ _ _ _)) ?_; clear hS; intro a hS
            refine s_valg hS (by decide) rfl rfl rfl rfl rfl (r_move hS rfl) ?_; clear hS; intro a hS
            refine s_valg hS (by decide) rfl rfl rfl rfl rfl (r_move hS rfl) ?_; clear hS; intro a hS
            refine s_valg hS (by decide) rfl rfl rfl rfl rfl (r_bv hS rfl rfl gF (b_lssF _ _ _)) ?_; clear hS; intro a hS
            refine s_valg hS (by decide) rfl rfl rfl rfl rfl (r_eqbt hS rfl rfl Tryd.underlying4 (by first | exact lt_ord hx hy h88 | exact absurd (h59.symm.trans h88) (by decide))) ?_; clear hS; intro a hS
            refine s_valg hS (by decide) rfl rfl rfl rfl rfl (r_pick hS rfl rfl) ?_; clear hS; intro a hS
            refine s_val hS (by decide) rfl rfl (r_pick hS rfl rfl) ?_; clear hS; intro a hS
            refine s_val hS (by decide) rfl rfl (r_assign hS rfl) ?_; clear hS; intro a hS
            refine s_nil ?_
            refine k_seq ?_
            refine c_ret ?_
            exact k_res1 hS rfl (RV.tmp rfl) ⟨rfl, hM.done trivial⟩
      · clear hS; intro a hS; have h59 := hc
        refine s_valg hS (by decide) rfl rfl rfl rfl rfl (r_move hS rfl) ?_; clear hS; intro a hS
        refine s_skip hS (by decide) rfl rfl rfl rfl rfl ?_; clear hS; intro a hS
        refine s_skip hS (by decide) rfl rfl rfl rfl rfl ?_; clear hS; intro a hS
        refine s_skip hS (by decide) rfl rfl rfl rfl rfl ?_; clear hS; intro a hS
        refine s_skipu hS (by decide) rfl rfl rfl rfl rfl ?_; clear hS; intro a hS
        refine s_skipu hS (by decide) rfl rfl rfl rfl rfl ?_; clear hS; intro a hS
        refine s_skipu hS (by decide) rfl rfl rfl rfl rfl ?_; clear hS; intro a hS
        refine s_skipu hS (by decide) rfl rfl rfl rfl rfl ?_; clear hS; intro a hS
        refine s_skipu hS (by decide) rfl rfl rfl rfl rfl ?_; clear hS; intro a hS
        refine s_skip hS (by decide) rfl rfl rfl rfl rfl ?_; clear hS; intro a hS
        refine s_valg hS (by decide) rfl rfl rfl rfl rfl (r_pick hS rfl rfl) ?_; clear hS; intro a hS
        refine s_val hS (by decide) rfl rfl (r_pick hS rfl rfl) ?_; clear hS; intro a hS
        refine s_val hS (by decide) rfl rfl (r_assign hS rfl) ?_; clear hS; intro a hS
        refine s_nil ?_
        refine k_seq ?_
        refine c_seq ?_
        refine c_region ?_
        refine s_val hS (by decide) rfl rfl (r_move hS rfl) ?_; clear hS; intro a hS
        refine s_val hS (by decide) rfl rfl (r_bv hS rfl (show ev _ _ = some (.int .i64 (0)) from rfl) gZ (b_eqlZ _ _ _)) ?_; clear hS; intro a hS
        refine s_val hS (by decide) rfl rfl (r_move hS rfl) ?_; clear hS; intro a hS
        refine s_val hS (by decide) rfl rfl (r_eqbt hS rfl rfl Tryd.underlying4 (by first | exact ne_ord hx hy h59 | exact eq_ord h59 h62 | exact zero_ord h59 h62 hr65 hr67)) ?_; clear hS; intro a hS
        refine s_val hS (by decide) rfl rfl (r_move hS rfl) ?_; clear hS; intro a hS
        refine s_valg hS (by decide) rfl rfl rfl rfl rfl (r_move hS rfl) ?_; clear hS; intro a hS
        refine s_valg hS (by decide) rfl rfl rfl rfl rfl (r_move hS rfl) ?_; clear hS; intro a hS
        refine s_valg hS (by decide) rfl rfl rfl rfl rfl (r_bv hS rfl rfl gF (b_neqFn _ hx)) ?_; clear hS; intro a hS
        refine s_valg hS (by decide) rfl rfl rfl rfl rfl (r_move hS rfl) ?_; clear hS; intro a hS
        refine s_valg hS (by decide) rfl rfl rfl rfl rfl (r_move hS rfl) ?_; clear hS; intro a hS
        refine s_valg hS (by decide) rfl rfl rfl rfl rfl (r_move hS rfl) ?_; clear hS; intro a hS
        refine s_valg hS (by decide) rfl rfl rfl rfl rfl (r_bv hS rfl rfl gF (b_neqFn _ hy)) ?_; clear hS; intro a hS
        refine s_valg hS (by decide) rfl rfl rfl rfl rfl (r_pick hS rfl rfl) ?_; clear hS; intro a hS
        refine s_valg hS (by decide) rfl rfl rfl rfl rfl (r_move hS rfl) ?_; clear hS; intro a hS
        refine s_valg hS (by decide) rfl rfl rfl rfl rfl (r_move hS rfl) ?_; clear hS; intro a hS
        refine s_valg hS (by decide) rfl rfl rfl rfl rfl (r_move hS rfl) ?_; clear hS; intro a hS
        refine s_valgb hS (by decide) rfl rfl rfl rfl rfl (r_bv hS rfl rfl gF (b_eqlF _ _ _)) (fun hc => ?_) (fun hc => ?_)
        · clear hS; intro a hS; have h88 := hc
          refine s_valg hS (by decide) rfl rfl rfl rfl rfl (r_pick hS rfl rfl) ?_; clear hS; intro a hS
          refine s_valg hS (by decide) rfl rfl rfl rfl rfl (r_move hS rfl) ?_; clear hS; intro a hS
          refine s_skip hS (by decide) rfl rfl rfl rfl rfl ?_; clear hS; intro a hS
          refine s_skip hS (by decide) rfl rfl rfl rfl rfl ?_; clear hS; intro a hS
          refine s_skip hS (by decide) rfl rfl rfl rfl rfl ?_; clear hS; intro a hS
          refine s_skip hS (by decide) rfl rfl rfl rfl rfl ?_; clear hS; intro a hS
          refine s_skip hS (by decide) rfl rfl rfl rfl rfl ?_; clear hS; intro a hS
          refine s_skip hS (by decide) rfl rfl rfl rfl rfl ?_; clear hS; intro a hS
          refine s_valg hS (by decide) rfl rfl rfl rfl rfl (r_pick hS rfl rfl) ?_; clear hS; intro a hS
          refine s_val hS (by decide) rfl rfl (r_pick hS rfl rfl) ?_; clear hS; intro a hS
          refine s_val hS (by decide) rfl rfl (r_assign hS rfl) ?_; clear hS; intro a hS
          refine s_nil ?_
          refine k_seq ?_
          refine c_ret ?_
          exact k_res1 hS rfl (RV.tmp rfl) ⟨rfl, hM.done trivial⟩
        · clear hS; intro a hS; have h88 := hc
          refine s_valg hS (by decide) rfl rfl rfl rfl rfl (r_pick hS rfl rfl) ?_; clear hS; intro a hS
          refine s_valg hS (by decide) rfl rfl rfl rfl rfl (r_move hS rfl) ?_; clear hS; intro a hS
          refine s_valg hS (by decide) rfl rfl rfl rfl rfl (r_move hS rfl) ?_; clear hS; intro a hS
          refine s_valg hS (by decide) rfl rfl rfl rfl rfl (r_bv hS rfl (show ev _ _ = some (.int .i64 (0)) from rfl) gZ (b_lssZ _ _ _)) ?_; clear hS; intro a hS
          refine s_valg hS (by decide) rfl rfl rfl rfl rfl (r_move hS rfl) ?_; clear hS; intro a hS
          refine s_valg hS (by decide) rfl rfl rfl rfl rfl (r_move hS rfl) ?_; clear hS; intro a hS
          refine s_valg hS (by decide) rfl rfl rfl rfl rfl (r_bv hS rfl rfl gF (b_lssF _ _ _)) ?_; clear hS; intro a hS
          refine s_valg hS (by decide) rfl rfl rfl rfl rfl (r_eqbt hS rfl rfl Tryd.underlying4 (by first | exact lt_ord hx hy h88 | exact absurd (h59.symm.trans h88) (by decide))) ?_; clear hS; intro a hS
          refine s_valg hS (by decide) rfl rfl rfl rfl rfl (r_pick hS rfl rfl) ?_; clear hS; intro a hS
          refine s_val hS (by decide) rfl rfl (r_pick hS rfl rfl) ?_; clear hS; intro a hS
          refine s_val hS (by decide) rfl rfl (r_assign hS rfl) ?_; clear hS; intro a hS
          refine s_nil ?_
          refine k_seq ?_
          refine c_ret ?_
          exact k_res1 hS rfl (RV.tmp rfl) ⟨rfl, hM.done trivial⟩
    · clear hS; intro a hS
      refine s_valg hS (by decide) rfl rfl rfl rfl rfl (r_pick hS rfl rfl) ?_; clear hS; intro a hS
      refine s_valg hS (by decide) rfl rfl rfl rfl rfl (r_move hS rfl) ?_; clear hS; intro a hS
      refine s_skip hS (by decide) rfl rfl rfl rfl rfl ?_; clear hS; intro a hS
      refine s_skip hS (by decide) rfl rfl rfl rfl rfl ?_; clear hS; intro a hS
      refine s_skip hS (by decide) rfl rfl rfl rfl rfl ?_; clear hS; intro a hS
      refine s_skip hS (by decide) rfl rfl rfl rfl rfl ?_; clear hS; intro a hS
      refine s_valg hS (by decide) rfl rfl rfl rfl rfl (r_pick hS rfl rfl) ?_; clear hS; intro a hS
      refine s_val hS (by decide) rfl rfl (r_pick hS rfl rfl) ?_; clear hS; intro a hS
      refine s_nil ?_
      refine k_seq ?_
      refine c_false hS rfl rfl ?_
      refine c_skip ?_
      refine k_seq ?_
      refine c_seq ?_
      refine c_region ?_
      refine s_val hS (by decide) rfl rfl (r_move hS rfl) ?_; clear hS; intro a hS
      refine s_val hS (by decide) rfl rfl (r_move hS rfl) ?_; clear hS; intro a hS
      refine s_val hS (by decide) rfl rfl (r_bv hS rfl rfl gF (b_neqFn _ hx)) ?_; clear hS; intro a hS
      refine s_val hS (by decide) rfl rfl (r_move hS rfl) ?_; clear hS; intro a hS
      refine s_skip hS (by decide) rfl rfl rfl rfl rfl ?_; clear hS; intro a hS
      refine s_skip hS (by decide) rfl rfl rfl rfl rfl ?_; clear hS; intro a hS
      refine s_skip hS (by decide) rfl rfl rfl rfl rfl ?_; clear hS; intro a hS
      refine s_val hS (by decide) rfl rfl (r_pick hS rfl rfl) ?_; clear hS; intro a hS
      refine s_val hS (by decide) rfl rfl (r_move hS rfl) ?_; clear hS; intro a hS
      refine s_valg hS (by decide) rfl rfl rfl rfl rfl (r_move hS rfl) ?_; clear hS; intro a hS
      refine s_valg hS (by decide) rfl rfl rfl rfl rfl (r_move hS rfl) ?_; clear hS; intro a hS
      refine s_valgb hS (by decide) rfl rfl rfl rfl rfl (r_bv hS rfl rfl gF (b_eqlF _ _ _)) (fun hc => ?_) (fun hc => ?_)
      · clear hS; intro a hS; have h59 := hc
        refine s_valg hS (by decide) rfl rfl rfl rfl rfl (r_move hS rfl) ?_; clear hS; intro a hS
        refine s_valg hS (by decide) rfl rfl rfl rfl rfl (r_move hS rfl) ?_; clear hS; intro a hS
        refine s_valgb hS (by decide) rfl rfl rfl rfl rfl (r_bv hS rfl (show ev _ _ = some (F 0#64) from rfl) gF (b_neqF _ _ _)) (fun hc => ?_) (fun hc => ?_)
        · clear hS; intro a hS; have h62 := hc
          refine s_valg hS (by decide) rfl rfl rfl rfl rfl (r_move hS rfl) ?_; clear hS; intro a hS
          refine s_skip hS (by decide) rfl rfl rfl rfl rfl ?_; clear hS; intro a hS
          refine s_skip hS (by decide) rfl rfl rfl rfl rfl ?_; clear hS; intro a hS
          refine s_skip hS (by decide) rfl rfl rfl rfl rfl ?_; clear hS; intro a hS
          refine s_skip hS (by decide) rfl rfl rfl rfl rfl ?_; clear hS; intro a hS
          refine s_skip hS (by decide) rfl rfl rfl rfl rfl ?_; clear hS; intro a hS
          refine s_valg hS (by decide) rfl rfl rfl rfl rfl (r_pick hS rfl rfl) ?_; clear hS; intro a hS
          refine s_valg hS (by decide) rfl rfl rfl rfl rfl (r_pick hS rfl rfl) ?_; clear hS; intro a hS
          refine s_val hS (by decide) rfl rfl (r_pick hS rfl rfl) ?_; clear hS; intro a hS
          refine s_val hS (by decide) rfl rfl (r_assign hS rfl) ?_; clear hS; intro a hS
          refine s_nil ?_
          refine k_seq ?_
          refine c_seq ?_
          refine c_region ?_
          refine s_val hS (by decide) rfl rfl (r_move hS rfl) ?_; clear hS; intro a hS
          refine s_val hS (by decide) rfl rfl (r_bv hS rfl (show ev _ _ = some (.int .i64 (0)) from rfl) gZ (b_eqlZ _ _ _)) ?_; clear hS; intro a hS
          refine s_val hS (by decide) rfl rfl (r_move hS rfl) ?_; clear hS; intro a hS
          refine s_val hS (by decide) rfl rfl (r_eqbt hS rfl rfl Tryd.underlying4 (by first | exact ne_ord hx hy h59 | exact eq_ord h59 h62 | exact zero_ord h59 h62 hr65 hr67)) ?_; clear hS; intro a hS
          refine s_val hS (by decide) rfl rfl (r_move hS rfl) ?_; clear hS; intro a hS
          refine s_valg hS (by decide) rfl rfl rfl rfl rfl (r_move hS rfl) ?_; clear hS; intro a hS
          refine s_valg hS (by decide) rfl rfl rfl rfl rfl (r_move hS rfl) ?_; clear hS; intro a hS
          refine s_valg hS (by decide) rfl rfl rfl rfl rfl (r_bv hS rfl rfl gF (b_neqFn _ hx)) ?_; clear hS; intro a hS
          refine s_valg hS (by decide) rfl rfl rfl rfl rfl (r_move hS rfl) ?_; clear hS; intro a hS
          refine s_valg hS (by decide) rfl rfl rfl rfl rfl (r_move hS rfl) ?_; clear hS; intro a hS
          refine s_valg hS (by decide) rfl rfl rfl rfl rfl (r_move hS rfl) ?_; clear hS; intro a hS
          refine s_valg hS (by decide) rfl rfl rfl rfl rfl (r_bv hS rfl rfl gF (b_neqFn _ hy)) ?_; clear hS; intro a hS
          refine s_valg hS (by decide) rfl rfl rfl rfl rfl (r_pick hS rfl rfl) ?_; clear hS; intro a hS
          refine s_valg hS (by decide) rfl rfl rfl rfl rfl (r_move hS rfl) ?_; clear hS; intro a hS
          refine s_valg hS (by decide) rfl rfl rfl rfl rfl (r_move hS rfl) ?_; clear hS; intro a hS
          refine s_valg hS (by decide) rfl rfl rfl rfl rfl (r_move hS rfl) ?_; clear hS; intro a hS
          refine s_valgb hS (by decide) rfl rfl rfl rfl rfl (r_bv hS rfl rfl gF (b_eqlF _ _ _)) (fun hc => ?_) (fun hc => ?_)
          · clear hS; intro a hS; have h88 := hc
            refine s_valg hS (by decide) rfl rfl rfl rfl rfl (r_pick hS rfl rfl) ?_; clear hS; intro a hS
            refine s_valg hS (by decide) rfl rfl rfl rfl rfl (r_move hS rfl) ?_; clear hS; intro a hS
            refine s_skip hS (by decide) rfl rfl rfl rfl rfl ?_; clear hS; intro a hS
            refine s_skip hS (by decide) rfl rfl rfl rfl rfl ?_; clear hS; intro a hS
            refine s_skip hS (by decide) rfl rfl rfl rfl rfl ?_; clear hS; intro a hS
            refine s_skip hS (by decide) rfl rfl rfl rfl rfl ?_; clear hS; intro a hS
            refine s_skip hS (by decide) rfl rfl rfl rfl rfl ?_; clear hS; intro a hS
            refine s_skip hS (by decide) rfl rfl rfl rfl rfl ?_; clear hS; intro a hS
            refine s_valg hS (by decide) rfl rfl rfl rfl rfl (r_pick hS rfl rfl) ?_; clear hS; intro a hS
            refine s_val hS (by decide) rfl rfl (r_pick hS rfl rfl) ?_; clear hS; intro a hS
            refine s_val hS (by decide) rfl rfl (r_assign hS rfl) ?_; clear hS; intro a hS
            refine s_nil ?_
            refine k_seq ?_
            refine c_ret ?_
            exact k_res1 hS rfl (RV.tmp rfl) ⟨rfl, hM.done trivial⟩
          · clear hS; intro a hS; have h88 := hc
            refine s_valg hS (by decide) rfl rfl rfl rfl rfl (r_pick hS rfl rfl) ?_; clear hS; intro a hS
            refine s_valg hS (by decide) rfl rfl rfl rfl rfl (r_move hS rfl) ?_; clear hS; intro a hS
            refine s_valg hS (by decide) rfl rfl rfl rfl rfl (r_move hS rfl) ?_; clear hS; intro a hS
            refine s_valg hS (by decide) rfl rfl rfl rfl rfl (r_bv hS rfl (show ev _ _ = some (.int .i64 (0)) from rfl) gZ (b_lssZ _ _ _)) ?_; clear hS; intro a hS
            refine s_valg hS (by decide) rfl rfl rfl rfl rfl (r_move hS rfl) ?_; clear hS; intro a hS
            refine s_valg hS (by decide) rfl rfl rfl rfl rfl (r_move hS rfl) ?_; clear hS; intro a hS
            refine s_valg hS (by decide) rfl rfl rfl rfl rfl (r_bv hS rfl rfl gF (b_lssF _ _ _)) ?_; clear hS; intro a hS
            refine s_valg hS (by decide) rfl rfl rfl rfl rfl (r_eqbt hS rfl rfl Tryd.underlying4 (by first | exact lt_ord hx hy h88 | exact absurd (h59.symm.trans h88) (by decide))) ?_; clear hS; intro a hS
            refine s_valg hS (by decide) rfl rfl rfl rfl rfl (r_pick hS rfl rfl) ?_; clear hS; intro a hS
            refine s_val hS (by decide) rfl rfl (r_pick hS rfl rfl) ?_; clear hS; intro a hS
            refine s_val hS (by decide) rfl rfl (r_assign hS rfl) ?_; clear hS; intro a hS
            refine s_nil ?_
            refine k_seq ?_
            refine c_ret ?_
            exact k_res1 hS rfl (RV.tmp rfl) ⟨rfl, hM.done trivial⟩
        · clear hS; intro a hS; have h62 := hc
          refine s_valg hS (by decide) rfl rfl rfl rfl rfl (r_move hS rfl) ?_; clear hS; intro a hS
          refine s_valg hS (by decide) rfl rfl rfl rfl rfl (r_move hS rfl) ?_; clear hS; intro a hS
          refine s_floatg hS hM (by decide) (show ev _ _ = some (F 4607182418800017408#64) from rfl) rfl rfl rfl rfl (.inr (.inr (.inr rfl))) ?_; clear hS hM; intro a w r65 hr65 hS hM
          refine s_valg hS (by decide) rfl rfl rfl rfl rfl (r_move hS rfl) ?_; clear hS; intro a hS
          refine s_floatg hS hM (by decide) (show ev _ _ = some (F 4607182418800017408#64) from rfl) rfl rfl rfl rfl (.inr (.inr (.inr rfl))) ?_; clear hS hM; intro a w r67 hr67 hS hM
          refine s_valg hS (by decide) rfl rfl rfl rfl rfl (r_bv hS rfl rfl gF (b_eqlF _ _ _)) ?_; clear hS; intro a hS
          refine s_valg hS (by decide) rfl rfl rfl rfl rfl (r_pick hS rfl rfl) ?_; clear hS; intro a hS
          refine s_valg hS (by decide) rfl rfl rfl rfl rfl (r_pick hS rfl rfl) ?_; clear hS; intro a hS
          refine s_val hS (by decide) rfl rfl (r_pick hS rfl rfl) ?_; clear hS; intro a hS
          refine s_val hS (by decide) rfl rfl (r_assign hS rfl) ?_; clear hS; intro a hS
          refine s_nil ?_
          refine k_seq ?_
          refine c_seq ?_
          refine c_region ?_
          refine s_val hS (by decide) rfl rfl (r_move hS rfl) ?_; clear hS; intro a hS
          refine s_val hS (by decide) rfl rfl (r_bv hS rfl (show ev _ _ = some (.int .i64 (0)) from rfl) gZ (b_eqlZ _ _ _)) ?_; clear hS; intro a hS
          refine s_val hS (by decide) rfl rfl (r_move hS rfl) ?_; clear hS; intro a hS
          refine s_val hS (by decide) rfl rfl (r_eqbt hS rfl rfl Tryd.underlying4 (by first | exact ne_ord hx hy h59 | exact eq_ord h59 h62 | exact zero_ord h59 h62 hr65 hr67)) ?_; clear hS; intro a hS
          refine s_val hS (by decide) rfl rfl (r_move hS rfl) ?_; clear hS; intro a hS
          refine s_valg hS (by decide) rfl rfl rfl rfl rfl (r_move hS rfl) ?_; clear hS; intro a hS
          refine s_valg hS (by decide) rfl rfl rfl rfl rfl (r_move hS rfl) ?_; clear hS; intro a hS
          refine s_valg hS (by decide) rfl rfl rfl rfl rfl (r_bv hS rfl rfl gF (b_neqFn _ hx)) ?_; clear hS; intro a hS
          refine s_valg hS (by decide) rfl rfl rfl rfl rfl (r_move hS rfl) ?_; clear hS; intro a hS
          refine s_valg hS (by decide) rfl rfl rfl rfl rfl (r_move hS rfl) ?_; clear hS; intro a hS
          refine s_valg hS (by decide) rfl rfl rfl rfl rfl (r_move hS rfl) ?_; clear hS; intro a hS
          refine s_valg hS (by decide) rfl rfl rfl rfl rfl (r_bv hS rfl rfl gF (b_neqFn _ hy)) ?_; clear hS; intro a hS
          refine s_valg hS (by decide) rfl rfl rfl rfl rfl (r_pick hS rfl rfl) ?_; clear hS; intro a hS
          refine s_valg hS (by decide) rfl rfl rfl rfl rfl (r_move hS rfl) ?_; clear hS; intro a hS
          refine s_valg hS (by decide) rfl rfl rfl rfl rfl (r_move hS rfl) ?_; clear hS; intro a hS
          refine s_valg hS (by decide) rfl rfl rfl rfl rfl (r_move hS rfl) ?_; clear hS; intro a hS
          refine s_valgb hS (by decide) rfl rfl rfl rfl rfl (r_bv hS rfl rfl gF (b_eqlF _ _ _)) (fun hc => ?_) (fun hc => ?_)
          · clear hS; intro a hS; have h88 := hc
            refine s_valg hS (by decide) rfl rfl rfl rfl rfl (r_pick hS rfl rfl) ?_; clear hS; intro a hS
            refine s_valg hS (by decide) rfl rfl rfl rfl rfl (r_move hS rfl) ?_; clear hS; intro a hS
            refine s_skip hS (by decide) rfl rfl rfl rfl rfl ?_; clear hS; intro a hS
            refine s_skip hS (by decide) rfl rfl rfl rfl rfl ?_; clear hS; intro a hS
            refine s_skip hS (by decide) rfl rfl rfl rfl rfl ?_; clear hS; intro a hS
            refine s_skip hS (by decide) rfl rfl rfl rfl rfl ?_; clear hS; intro a hS
            refine s_skip hS (by decide) rfl rfl rfl rfl rfl ?_; clear hS; intro a hS
            refine s_skip hS (by decide) rfl rfl rfl rfl rfl ?_; clear hS; intro a hS
            refine s_valg hS (by decide) rfl rfl rfl rfl rfl (r_pick hS rfl rfl) ?_; clear hS; intro a hS
            refine s_val hS (by decide) rfl rfl (r_pick hS rfl rfl) ?_; clear hS; intro a hS
            refine s_val hS (by decide) rfl rfl (r_assign hS rfl) ?_; clear hS; intro a hS
            refine s_nil ?_
            refine k_seq ?_
            refine c_ret ?_
            exact k_res1 hS rfl (RV.tmp rfl) ⟨rfl, hM.done trivial⟩
          · clear hS; intro a hS; have h88 := hc
            refine s_valg hS (by decide) rfl rfl rfl rfl rfl (r_pick hS rfl rfl) ?_; clear hS; intro a hS
            refine s_valg hS (by decide) rfl rfl rfl rfl rfl (r_move hS rfl) ?_; clear hS; intro a hS
            refine s_valg hS (by decide) rfl rfl rfl rfl rfl (r_move hS rfl) ?_; clear hS; intro a hS
            refine s_valg hS (by decide) rfl rfl rfl rfl rfl (r_bv hS rfl (show ev _ _ = some (.int .i64 (0)) from rfl) gZ (b_lssZ _ _ _)) ?_; clear hS; intro a hS
            refine s_valg hS (by decide) rfl rfl rfl rfl rfl (r_move hS rfl) ?_; clear hS; intro a hS
            refine s_valg hS (by decide) rfl rfl rfl rfl rfl (r_move hS rfl) ?_; clear hS; intro a hS
            refine s_valg hS (by decide) rfl rfl rfl rfl rfl (r_bv hS rfl rfl gF (b_lssF _ _ _)) ?_; clear hS; intro a hS
            refine s_valg hS (by decide) rfl rfl rfl rfl rfl (r_eqbt hS rfl rfl Tryd.underlying4 (by first | exact lt_ord hx hy h88 | exact absurd (h59.symm.trans h88) (by decide))) ?_; clear hS; intro a hS
            refine s_valg hS (by decide) rfl rfl rfl rfl rfl (r_pick hS rfl rfl) ?_; clear hS; intro a hS
            refine s_val hS (by decide) rfl rfl (r_pick hS rfl rfl) ?_; clear hS; intro a hS
            refine s_val hS (by decide) rfl rfl (r_assign hS rfl) ?_; clear hS; intro a hS
            refine s_nil ?_
            refine k_seq ?_
            refine c_ret ?_
            exact k_res1 hS rfl (RV.tmp rfl) ⟨rfl, hM.done trivial⟩
      · clear hS; intro a hS; have h59 := hc
        refine s_valg hS (by decide) rfl rfl rfl rfl rfl (r_move hS rfl) ?_; clear hS; intro a hS
        refine s_skip hS (by decide) rfl rfl rfl rfl rfl ?_; clear hS; intro a hS
        refine s_skip hS (by decide) rfl rfl rfl rfl rfl ?_; clear hS; intro a hS
        refine s_skip hS (by decide) rfl rfl rfl rfl rfl ?_; clear hS; intro a hS
        refine s_skipu hS (by decide) rfl rfl rfl rfl rfl ?_; clear hS; intro a hS
        refine s_skipu hS (by decide) rfl rfl rfl rfl rfl ?_; clear hS; intro a hS
        refine s_skipu hS (by decide) rfl rfl rfl rfl rfl ?_; clear hS; intro a hS
        refine s_skipu hS (by decide) rfl rfl rfl rfl rfl ?_; clear hS; intro a hS
        refine s_skipu hS (by decide) rfl rfl rfl rfl rfl ?_; clear hS; intro a hS
        refine s_skip hS (by decide) rfl rfl rfl rfl rfl ?_; clear hS; intro a hS
        refine s_valg hS (by decide) rfl rfl rfl rfl rfl (r_pick hS rfl rfl) ?_; clear hS; intro a hS
        refine s_val hS (by decide) rfl rfl (r_pick hS rfl rfl) ?_; clear hS; intro a hS
        refine s_val hS (by decide) rfl rfl (r_assign hS rfl) ?_; clear hS; intro a hS
        refine s_nil ?_
        refine k_seq ?_
        refine c_seq ?_
        refine c_region ?_
        refine s_val hS (by decide) rfl rfl (r_move hS rfl) ?_; clear hS; intro a hS
        refine s_val hS (by decide) rfl rfl (r_bv hS rfl (show ev _ _ = some (.int .i64 (0)) from rfl) gZ (b_eqlZ _ _ _)) ?_; clear hS; intro a hS
        refine s_val hS (by decide) rfl rfl (r_move hS rfl) ?_; clear hS; intro a hS
        refine s_val hS (by decide) rfl rfl (r_eqbt hS rfl rfl Tryd.underlying4 (by first | exact ne_ord hx hy h59 | exact eq_ord h59 h62 | exact zero_ord h59 h62 hr65 hr67)) ?_; clear hS; intro a hS
        refine s_val hS (by decide) rfl rfl (r_move hS rfl) ?_; clear hS; intro a hS
        refine s_valg hS (by decide) rfl rfl rfl rfl rfl (r_move hS rfl) ?_; clear hS; intro a hS
        refine s_valg hS (by decide) rfl rfl rfl rfl rfl (r_move hS rfl) ?_; clear hS; intro a hS
        refine s_valg hS (by decide) rfl rfl rfl rfl rfl (r_bv hS rfl rfl gF (b_neqFn _ hx)) ?_; clear hS; intro a hS
        refine s_valg hS (by decide) rfl rfl rfl rfl rfl (r_move hS rfl) ?_; clear hS; intro a hS
        refine s_valg hS (by decide) rfl rfl rfl rfl rfl (r_move hS rfl) ?_; clear hS; intro a hS
        refine s_valg hS (by decide) rfl rfl rfl rfl rfl (r_move hS rfl) ?_; clear hS; intro a hS
        refine s_valg hS (by decide) rfl rfl rfl rfl rfl (r_bv hS rfl rfl gF (b_neqFn _ hy)) ?_; clear hS; intro a hS
        refine s_valg hS (by decide) rfl rfl rfl rfl rfl (r_pick hS rfl rfl) ?_; clear hS; intro a hS
        refine s_valg hS (by decide) rfl rfl rfl rfl rfl (r_move hS rfl) ?_; clear hS; intro a hS
        refine s_valg hS (by decide) rfl rfl rfl rfl rfl (r_move hS rfl) ?_; clear hS; intro a hS
        refine s_valg hS (by decide) rfl rfl rfl rfl rfl (r_move hS rfl) ?_; clear hS; intro a hS
        refine s_valgb hS (by decide) rfl rfl rfl rfl rfl (r_bv hS rfl rfl gF (b_eqlF _ _ _)) (fun hc => ?_) (fun hc => ?_)
        · clear hS; intro a hS; have h88 := hc
          refine s_valg hS (by decide) rfl rfl rfl rfl rfl (r_pick hS rfl rfl) ?_; clear hS; intro a hS
          refine s_valg hS (by decide) rfl rfl rfl rfl rfl (r_move hS rfl) ?_; clear hS; intro a hS
          refine s_skip hS (by decide) rfl rfl rfl rfl rfl ?_; clear hS; intro a hS
          refine s_skip hS (by decide) rfl rfl rfl rfl rfl ?_; clear hS; intro a hS
          refine s_skip hS (by decide) rfl rfl rfl rfl rfl ?_; clear hS; intro a hS
          refine s_skip hS (by decide) rfl rfl rfl rfl rfl ?_; clear hS; intro a hS
          refine s_skip hS (by decide) rfl rfl rfl rfl rfl ?_; clear hS; intro a hS
          refine s_skip hS (by decide) rfl rfl rfl rfl rfl ?_; clear hS; intro a hS
          refine s_valg hS (by decide) rfl rfl rfl rfl rfl (r_pick hS rfl rfl) ?_; clear hS; intro a hS
          refine s_val hS (by decide) rfl rfl (r_pick hS rfl rfl) ?_; clear hS; intro a hS
          refine s_val hS (by decide) rfl rfl (r_assign hS rfl) ?_; clear hS; intro a hS
          refine s_nil ?_
          refine k_seq ?_
          refine c_ret ?_
          exact k_res1 hS rfl (RV.tmp rfl) ⟨rfl, hM.done trivial⟩
        · clear hS; intro a hS; have h88 := hc
          refine s_valg hS (by decide) rfl rfl rfl rfl rfl (r_pick hS rfl rfl) ?_; clear hS; intro a hS
          refine s_valg hS (by decide) rfl rfl rfl rfl rfl (r_move hS rfl) ?_; clear hS; intro a hS
          refine s_valg hS (by decide) rfl rfl rfl rfl rfl (r_move hS rfl) ?_; clear hS; intro a hS
          refine s_valg hS (by decide) rfl rfl rfl rfl rfl (r_bv hS rfl (show ev _ _ = some (.int .i64 (0)) from rfl) gZ (b_lssZ _ _ _)) ?_; clear hS; intro a hS
          refine s_valg hS (by decide) rfl rfl rfl rfl rfl (r_move hS rfl) ?_; clear hS; intro a hS
          refine s_valg hS (by decide) rfl rfl rfl rfl rfl (r_move hS rfl) ?_; clear hS; intro a hS
          refine s_valg hS (by decide) rfl rfl rfl rfl rfl (r_bv hS rfl rfl gF (b_lssF _ _ _)) ?_; clear hS; intro a hS
          refine s_valg hS (by decide) rfl rfl rfl rfl rfl (r_eqbt hS rfl rfl Tryd.underlying4 (by first | exact lt_ord hx hy h88 | exact absurd (h59.symm.trans h88) (by decide))) ?_; clear hS; intro a hS
          refine s_valg hS (by decide) rfl rfl rfl rfl rfl (r_pick hS rfl rfl) ?_; clear hS; intro a hS
          refine s_val hS (by decide) rfl rfl (r_pick hS rfl rfl) ?_; clear hS; intro a hS
          refine s_val hS (by decide) rfl rfl (r_assign hS rfl) ?_; clear hS; intro a hS
          refine s_nil ?_
          refine k_seq ?_
          refine c_ret ?_
          exact k_res1 hS rfl (RV.tmp rfl) ⟨rfl, hM.done trivial⟩
  · clear hS; intro a hS
    refine s_valg hS (by decide) rfl rfl rfl rfl rfl (r_move hS rfl) ?_; clear hS; intro a hS
    refine s_skip hS (by decide) rfl rfl rfl rfl rfl ?_; clear hS; intro a hS
    refine s_skip hS (by decide) rfl rfl rfl rfl rfl ?_; clear hS; intro a hS
    refine s_valg hS (by decide) rfl rfl rfl rfl rfl (r_pick hS rfl rfl) ?_; clear hS; intro a hS
    refine s_valg hS (by decide) rfl rfl rfl rfl rfl (r_move hS rfl) ?_; clear hS; intro a hS
    refine s_skip hS (by decide) rfl rfl rfl rfl rfl ?_; clear hS; intro a hS
    refine s_skip hS (by decide) rfl rfl rfl rfl rfl ?_; clear hS; intro a hS
    refine s_skip hS (by decide) rfl rfl rfl rfl rfl ?_; clear hS; intro a hS
    refine s_skip hS (by decide) rfl rfl rfl rfl rfl ?_; clear hS; intro a hS
    refine s_valg hS (by decide) rfl rfl rfl rfl rfl (r_pick hS rfl rfl) ?_; clear hS; intro a hS
    refine s_val hS (by decide) rfl rfl (r_pick hS rfl rfl) ?_; clear hS; intro a hS
    refine s_nil ?_
    refine k_seq ?_
    refine c_false hS rfl rfl ?_
    refine c_skip ?_
    refine k_seq ?_
    refine c_seq ?_
    refine c_region ?_
    refine s_val hS (by decide) rfl rfl (r_move hS rfl) ?_; clear hS; intro a hS
    refine s_val hS (by decide) rfl rfl (r_move hS rfl) ?_; clear hS; intro a hS
    refine s_val hS (by decide) rfl rfl (r_bv hS rfl rfl gF (b_neqFn _ hx)) ?_; clear hS; intro a hS
    refine s_val hS (by decide) rfl rfl (r_move hS rfl) ?_; clear hS; intro a hS
    refine s_skip hS (by decide) rfl rfl rfl rfl rfl ?_; clear hS; intro a hS
    refine s_skip hS (by decide) rfl rfl rfl rfl rfl ?_; clear hS; intro a hS
    refine s_skip hS (by decide) rfl rfl rfl rfl rfl ?_; clear hS; intro a hS
    refine s_val hS (by decide) rfl rfl (r_pick hS rfl rfl) ?_; clear hS; intro a hS
    refine s_val hS (by decide) rfl rfl (r_move hS rfl) ?_; clear hS; intro a hS
    refine s_valg hS (by decide) rfl rfl rfl rfl rfl (r_move hS rfl) ?_; clear hS; intro a hS
    refine s_valg hS (by decide) rfl rfl rfl rfl rfl (r_move hS rfl) ?_; clear hS; intro a hS
    refine s_valgb hS (by decide) rfl rfl rfl rfl rfl (r_bv hS rfl rfl gF (b_eqlF _ _ _)) (fun hc => ?_) (fun hc => ?_)
    · clear hS; intro a hS; have h59 := hc
      refine s_valg hS (by decide) rfl rfl rfl rfl rfl (r_move hS rfl) ?_; clear hS; intro a hS
      refine s_valg hS (by decide) rfl rfl rfl rfl rfl (r_move hS rfl) ?_; clear hS; intro a hS
      refine s_valgb hS (by decide) rfl rfl rfl rfl rfl (r_bv hS rfl (show ev _ _ = some (F 0#64) from rfl) gF (b_neqF _ _ _)) (fun hc => ?_) (fun hc => ?_)
      · clear hS; intro a hS; have h62 := hc
        refine s_valg hS (by decide) rfl rfl rfl rfl rfl (r_move hS rfl) ?_; clear hS; intro a hS
        refine s_skip hS (by decide) rfl rfl rfl rfl rfl ?_; clear hS; intro a hS
        refine s_skip hS (by decide) rfl rfl rfl rfl rfl ?_; clear hS; intro a hS
        refine s_skip hS (by decide) rfl rfl rfl rfl rfl ?_; clear hS; intro a hS
        refine s_skip hS (by decide) rfl rfl rfl rfl rfl ?_; clear hS; intro a hS
        refine s_skip hS (by decide) rfl rfl rfl rfl rfl ?_; clear hS; intro a hS
        refine s_valg hS (by decide) rfl rfl rfl rfl rfl (r_pick hS rfl rfl) ?_; clear hS; intro a hS
        refine s_valg hS (by decide) rfl rfl rfl rfl rfl (r_pick hS rfl rfl) ?_; clear hS; intro a hS
        refine s_val hS (by decide) rfl rfl (r_pick hS rfl rfl) ?_; clear hS; intro a hS
        refine s_val hS (by decide) rfl rfl (r_assign hS rfl) ?_; clear hS; intro a hS
        refine s_nil ?_
        refine k_seq ?_
        refine c_seq ?_
        refine c_region ?_
        refine s_val hS (by decide) rfl rfl (r_move hS rfl) ?_; clear hS; intro a hS
        refine s_val hS (by decide) rfl rfl (r_bv hS rfl (show ev _ _ = some (.int .i64 (0)) from rfl) gZ (b_eqlZ _ _ _)) ?_; clear hS; intro a hS
        refine s_val hS (by decide) rfl rfl (r_move hS rfl) ?_; clear hS; intro a hS
        refine s_val hS (by decide) rfl rfl (r_eqbt hS rfl rfl Tryd.underlying4 (by first | exact ne_ord hx hy h59 | exact eq_ord h59 h62 | exact zero_ord h59 h62 hr65 hr67)) ?_; clear hS; intro a hS
        refine s_val hS (by decide) rfl rfl (r_move hS rfl) ?_; clear hS; intro a hS
        refine s_valg hS (by decide) rfl rfl rfl rfl rfl (r_move hS rfl) ?_; clear hS; intro a hS
        refine s_valg hS (by decide) rfl rfl rfl rfl rfl (r_move hS rfl) ?_; clear hS; intro a hS
        refine s_valg hS (by decide) rfl rfl rfl rfl rfl (r_bv hS rfl rfl gF (b_neqFn _ hx)) ?_; clear hS; intro a hS
        refine s_valg hS (by decide) rfl rfl rfl rfl rfl (r_move hS rfl) ?_; clear hS; intro a hS
        refine s_valg hS (by decide) rfl rfl rfl rfl rfl (r_move hS rfl) ?_; clear hS; intro a hS
        refine s_valg hS (by decide) rfl rfl rfl rfl rfl (r_move hS rfl) ?_; clear hS; intro a hS
        refine s_valg hS (by decide) rfl rfl rfl rfl rfl (r_bv hS rfl rfl gF (b_neqFn _ hy)) ?_; clear hS; intro a hS
        refine s_valg hS (by decide) rfl rfl rfl rfl rfl (r_pick hS rfl rfl) ?_; clear hS; intro a hS
        refine s_valg hS (by decide) rfl rfl rfl rfl rfl (r_move hS rfl) ?_; clear hS; intro a hS
        refine s_valg hS (by decide) rfl rfl rfl rfl rfl (r_move hS rfl) ?_; clear hS; intro a hS
        refine s_valg hS (by decide) rfl rfl rfl rfl rfl (r_move hS rfl) ?_; clear hS; intro a hS
        refine s_valgb hS (by decide) rfl rfl rfl rfl rfl (r_bv hS rfl rfl gF (b_eqlF _ _ _)) (fun hc => ?_) (fun hc => ?_)
        · clear hS; intro a hS; have h88 := hc
          refine s_valg hS (by decide) rfl rfl rfl rfl rfl (r_pick hS rfl rfl) ?_; clear hS; intro a hS
          refine s_valg hS (by decide) rfl rfl rfl rfl rfl (r_move hS rfl) ?_; clear hS; intro a hS
          refine s_skip hS (by decide) rfl rfl rfl rfl rfl ?_; clear hS; intro a hS
          refine s_skip hS (by decide) rfl rfl rfl rfl rfl ?_; clear hS; intro a hS
          refine s_skip hS (by decide) rfl rfl rfl rfl rfl ?_; clear hS; intro a hS
          refine s_skip hS (by decide) rfl rfl rfl rfl rfl ?_; clear hS; intro a hS
          refine s_skip hS (by decide) rfl rfl rfl rfl rfl ?_; clear hS; intro a hS
          refine s_skip hS (by decide) rfl rfl rfl rfl rfl ?_; clear hS; intro a hS
          refine s_valg hS (by decide) rfl rfl rfl rfl rfl (r_pick hS rfl rfl) ?_; clear hS; intro a hS
          refine s_val hS (by decide) rfl rfl (r_pick hS rfl rfl) ?_; clear hS; intro a hS
          refine s_val hS (by decide) rfl rfl (r_assign hS rfl) ?_; clear hS; intro a hS
          refine s_nil ?_
          refine k_seq ?_
          refine c_ret ?_
          exact k_res1 hS rfl (RV.tmp rfl) ⟨rfl, hM.done trivial⟩
        · clear hS; intro a hS; have h88 := hc
          refine s_valg hS (by decide) rfl rfl rfl rfl rfl (r_pick hS rfl rfl) ?_; clear hS; intro a hS
          refine s_valg hS (by decide) rfl rfl rfl rfl rfl (r_move hS rfl) ?_; clear hS; intro a hS
          refine s_valg hS (by decide) rfl rfl rfl rfl rfl (r_move hS rfl) ?_; clear hS; intro a hS
          refine s_valg hS (by decide) rfl rfl rfl rfl rfl (r_bv hS rfl (show ev _ _ = some (.int .i64 (0)) from rfl) gZ (b_lssZ _ _ _)) ?_; clear hS; intro a hS
          refine s_valg hS (by decide) rfl rfl rfl rfl rfl (r_move hS rfl) ?_; clear hS; intro a hS
          refine s_valg hS (by decide) rfl rfl rfl rfl rfl (r_move hS rfl) ?_; clear hS; intro a hS
          refine s_valg hS (by decide) rfl rfl rfl rfl rfl (r_bv hS rfl rfl gF (b_lssF _ _ _)) ?_; clear hS; intro a hS
          refine s_valg hS (by decide) rfl rfl rfl rfl rfl (r_eqbt hS rfl rfl Tryd.underlying4 (by first | exact lt_ord hx hy h88 | exact absurd (h59.symm.trans h88) (by decide))) ?_; clear hS; intro a hS
          refine s_valg hS (by decide) rfl rfl rfl rfl rfl (r_pick hS rfl rfl) ?_; clear hS; intro a hS
          refine s_val hS (by decide) rfl rfl (r_pick hS rfl rfl) ?_; clear hS; intro a hS
          refine s_val hS (by decide) rfl rfl (r_assign hS rfl) ?_; clear hS; intro a hS
          refine s_nil ?_
          refine k_seq ?_
          refine c_ret ?_
          exact k_res1 hS rfl (RV.tmp rfl) ⟨rfl, hM.done trivial⟩
      · clear hS; intro a hS; have h62 := hc
        refine s_valg hS (by decide) rfl rfl rfl rfl rfl (r_move hS rfl) ?_; clear hS; intro a hS
        refine s_valg hS (by decide) rfl rfl rfl rfl rfl (r_move hS rfl) ?_; clear hS; intro a hS
        refine s_floatg hS hM (by decide) (show ev _ _ = some (F 4607182418800017408#64) from rfl) rfl rfl rfl rfl (.inr (.inr (.inr rfl))) ?_; clear hS hM; intro a w r65 hr65 hS hM
        refine s_valg hS (by decide) rfl rfl rfl rfl rfl (r_move hS rfl) ?_; clear hS; intro a hS
        refine s_floatg hS hM (by decide) (show ev _ _ = some (F 4607182418800017408#64) from rfl) rfl rfl rfl rfl (.inr (.inr (.inr rfl))) ?_; clear hS hM; intro a w r67 hr67 hS hM
        refine s_valg hS (by decide) rfl rfl rfl rfl rfl (r_bv hS rfl rfl gF (b_eqlF _ _ _)) ?_; clear hS; intro a hS
        refine s_valg hS (by decide) rfl rfl rfl rfl rfl (r_pick hS rfl rfl) ?_; clear hS; intro a hS
        refine s_valg hS (by decide) rfl rfl rfl rfl rfl (r_pick hS rfl rfl) ?_; clear hS; intro a hS
        refine s_val hS (by decide) rfl rfl (r_pick hS rfl rfl) ?_; clear hS; intro a hS
        refine s_val hS (by decide) rfl rfl (r_assign hS rfl) ?_; clear hS; intro a hS
        refine s_nil ?_
        refine k_seq ?_
        refine c_seq ?_
        refine c_region ?_
        refine s_val hS (by decide) rfl rfl (r_move hS rfl) ?_; clear hS; intro a hS
        refine s_val hS (by decide) rfl rfl (r_bv hS rfl (show ev _ _ = some (.int .i64 (0)) from rfl) gZ (b_eqlZ _ _ _)) ?_; clear hS; intro a hS
        refine s_val hS (by decide) rfl rfl (r_move hS rfl) ?_; clear hS; intro a hS
        refine s_val hS (by decide) rfl rfl (r_eqbt hS rfl rfl Tryd.underlying4 (by first | exact ne_ord hx hy h59 | exact eq_ord h59 h62 | exact zero_ord h59 h62 hr65 hr67)) ?_; clear hS; intro a hS
        refine s_val hS (by decide) rfl rfl (r_move hS rfl) ?_; clear hS; intro a hS
        refine s_valg hS (by decide) rfl rfl rfl rfl rfl (r_move hS rfl) ?_; clear hS; intro a hS
        refine s_valg hS (by decide) rfl rfl rfl rfl rfl (r_move hS rfl) ?_; clear hS; intro a hS
        refine s_valg hS (by decide) rfl rfl rfl rfl rfl (r_bv hS rfl rfl gF (b_neqFn _ hx)) ?_; clear hS; intro a hS
        refine s_valg hS (by decide) rfl rfl rfl rfl rfl (r_move hS rfl) ?_; clear hS; intro a hS
        refine s_valg hS (by decide) rfl rfl rfl rfl rfl (r_move hS rfl) ?_; clear hS; intro a hS
        refine s_valg hS (by decide) rfl rfl rfl rfl rfl (r_move hS rfl) ?_; clear hS; intro a hS
        refine s_valg hS (by decide) rfl rfl rfl rfl rfl (r_bv hS rfl rfl gF (b_neqFn _ hy)) ?_; clear hS; intro a hS
        refine s_valg hS (by decide) rfl rfl rfl rfl rfl (r_pick hS rfl rfl) ?_; clear hS; intro a hS
        refine s_valg hS (by decide) rfl rfl rfl rfl rfl (r_move hS rfl) ?_; clear hS; intro a hS
        refine s_valg hS (by decide) rfl rfl rfl rfl rfl (r_move hS rfl) ?_; clear hS; intro a hS
        refine s_valg hS (by decide) rfl rfl rfl rfl rfl (r_move hS rfl) ?_; clear hS; intro a hS
        refine s_valgb hS (by decide) rfl rfl rfl rfl rfl (r_bv hS rfl rfl gF (b_eqlF _ _ _)) (fun hc => ?_) (fun hc => ?_)
        · clear hS; intro a hS; have h88 := hc
          refine s_valg hS (by decide) rfl rfl rfl rfl rfl (r_pick hS rfl rfl) ?_; clear hS; intro a hS
          refine s_valg hS (by decide) rfl rfl rfl rfl rfl (r_move hS rfl) ?_; clear hS; intro a hS
          refine s_skip hS (by decide) rfl rfl rfl rfl rfl ?_; clear hS; intro a hS
          refine s_skip hS (by decide) rfl rfl rfl rfl rfl ?_; clear hS; intro a hS
          refine s_skip hS (by decide) rfl rfl rfl rfl rfl ?_; clear hS; intro a hS
          refine s_skip hS (by decide) rfl rfl rfl rfl rfl ?_; clear hS; intro a hS
          refine s_skip hS (by decide) rfl rfl rfl rfl rfl ?_; clear hS; intro a hS
          refine s_skip hS (by decide) rfl rfl rfl rfl rfl ?_; clear hS; intro a hS
          refine s_valg hS (by decide) rfl rfl rfl rfl rfl (r_pick hS rfl rfl) ?_; clear hS; intro a hS
          refine s_val hS (by decide) rfl rfl (r_pick hS rfl rfl) ?_; clear hS; intro a hS
          refine s_val hS (by decide) rfl rfl (r_assign hS rfl) ?_; clear hS; intro a hS
          refine s_nil ?_
          refine k_seq ?_
          refine c_ret ?_
          exact k_res1 hS rfl (RV.tmp rfl) ⟨rfl, hM.done trivial⟩
        · clear hS; intro a hS; have h88 := hc
          refine s_valg hS (by decide) rfl rfl rfl rfl rfl (r_pick hS rfl rfl) ?_; clear hS; intro a hS
          refine s_valg hS (by decide) rfl rfl rfl rfl rfl (r_move hS rfl) ?_; clear hS; intro a hS
          refine s_valg hS (by decide) rfl rfl rfl rfl rfl (r_move hS rfl) ?_; clear hS; intro a hS
          refine s_valg hS (by decide) rfl rfl rfl rfl rfl (r_bv hS rfl (show ev _ _ = some (.int .i64 (0)) from rfl) gZ (b_lssZ _ _ _)) ?_; clear hS; intro a hS
          refine s_valg hS (by decide) rfl rfl rfl rfl rfl (r_move hS rfl) ?_; clear hS; intro a hS
          refine s_valg hS (by decide) rfl rfl rfl rfl rfl (r_move hS rfl) ?_; clear hS; intro a hS
          refine s_valg hS (by decide) rfl rfl rfl rfl rfl (r_bv hS rfl rfl gF (b_lssF _ _ _)) ?_; clear hS; intro a hS
          refine s_valg hS (by decide) rfl rfl rfl rfl rfl (r_eqbt hS rfl rfl Tryd.underlying4 (by first | exact lt_ord hx hy h88 | exact absurd (h59.symm.trans h88) (by decide))) ?_; clear hS; intro a hS
          refine s_valg hS (by decide) rfl rfl rfl rfl rfl (r_pick hS rfl rfl) ?_; clear hS; intro a hS
          refine s_val hS (by decide) rfl rfl (r_pick hS rfl rfl) ?_; clear hS; intro a hS
          refine s_val hS (by decide) rfl rfl (r_assign hS rfl) ?_; clear hS; intro a hS
          refine s_nil ?_
          refine k_seq ?_
          refine c_ret ?_
          exact k_res1 hS rfl (RV.tmp rfl) ⟨rfl, hM.done trivial⟩
    · clear hS; intro a hS; have h59 := hc
      refine s_valg hS (by decide) rfl rfl rfl rfl rfl (r_move hS rfl) ?_; clear hS; intro a hS
      refine s_skip hS (by decide) rfl rfl rfl rfl rfl ?_; clear hS; intro a hS
      refine s_skip hS (by decide) rfl rfl rfl rfl rfl ?_; clear hS; intro a hS
      refine s_skip hS (by decide) rfl rfl rfl rfl rfl ?_; clear hS; intro a hS
      refine s_skipu hS (by decide) rfl rfl rfl rfl rfl ?_; clear hS; intro a hS
      refine s_skipu hS (by decide) rfl rfl rfl rfl rfl ?_; clear hS; intro a hS
      refine s_skipu hS (by decide) rfl rfl rfl rfl rfl ?_; clear hS; intro a hS
      refine s_skipu hS (by decide) rfl rfl rfl rfl rfl ?_; clear hS; intro a hS
      refine s_skipu hS (by decide) rfl rfl rfl rfl rfl ?_; clear hS; intro a hS
      refine s_skip hS (by decide) rfl rfl rfl rfl rfl ?_; clear hS; intro a hS
      refine s_valg hS (by decide) rfl rfl rfl rfl rfl (r_pick hS rfl rfl) ?_; clear hS; intro a hS
      refine s_val hS (by decide) rfl rfl (r_pick hS rfl rfl) ?_; clear hS; intro a hS
      refine s_val hS (by decide) rfl rfl (r_assign hS rfl) ?_; clear hS; intro a hS
      refine s_nil ?_
      refine k_seq ?_
      refine c_seq ?_
      refine c_region ?_
      refine s_val hS (by decide) rfl rfl (r_move hS rfl) ?_; clear hS; intro a hS
      refine s_val hS (by decide) rfl rfl (r_bv hS rfl (show ev _ _ = some (.int .i64 (0)) from rfl) gZ (b_eqlZ _ _ _)) ?_; clear hS; intro a hS
      refine s_val hS (by decide) rfl rfl (r_move hS rfl) ?_; clear hS; intro a hS
      refine s_val hS (by decide) rfl rfl (r_eqbt hS rfl rfl Tryd.underlying4 (by first | exact ne_ord hx hy h59 | exact eq_ord h59 h62 | exact zero_ord h59 h62 hr65 hr67)) ?_; clear hS; intro a hS
      refine s_val hS (by decide) rfl rfl (r_move hS rfl) ?_; clear hS; intro a hS
      refine s_valg hS (by decide) rfl rfl rfl rfl rfl (r_move hS rfl) ?_; clear hS; intro a hS
      refine s_valg hS (by decide) rfl rfl rfl rfl rfl (r_move hS rfl) ?_; clear hS; intro a hS
      refine s_valg hS (by decide) rfl rfl rfl rfl rfl (r_bv hS rfl rfl gF (b_neqFn _ hx)) ?_; clear hS; intro a hS
      refine s_valg hS (by decide) rfl rfl rfl rfl rfl (r_move hS rfl) ?_; clear hS; intro a hS
      refine s_valg hS (by decide) rfl rfl rfl rfl rfl (r_move hS rfl) ?_; clear hS; intro a hS
      refine s_valg hS (by decide) rfl rfl rfl rfl rfl (r_move hS rfl) ?_; clear hS; intro a hS
      refine s_valg hS (by decide) rfl rfl rfl rfl rfl (r_bv hS rfl rfl gF (b_neqFn _ hy)) ?_; clear hS; intro a hS
      refine s_valg hS (by decide) rfl rfl rfl rfl rfl (r_pick hS rfl rfl) ?_; clear hS; intro a hS
      refine s_valg hS (by decide) rfl rfl rfl rfl rfl (r_move hS rfl) ?_; clear hS; intro a hS
      refine s_valg hS (by decide) rfl rfl rfl rfl rfl (r_move hS rfl) ?_; clear hS; intro a hS
      refine s_valg hS (by decide) rfl rfl rfl rfl rfl (r_move hS rfl) ?_; clear hS; intro a hS
      refine s_valgb hS (by decide) rfl rfl rfl rfl rfl (r_bv hS rfl rfl gF (b_eqlF _ _ _)) (fun hc => ?_) (fun hc => ?_)
      · clear hS; intro a hS; have h88 := hc
        refine s_valg hS (by decide) rfl rfl rfl rfl rfl (r_pick hS rfl rfl) ?_; clear hS; intro a hS
        refine s_valg hS (by decide) rfl rfl rfl rfl rfl (r_move hS rfl) ?_; clear hS; intro a hS
        refine s_skip hS (by decide) rfl rfl rfl rfl rfl ?_; clear hS; intro a hS
        refine s_skip hS (by decide) rfl rfl rfl rfl rfl ?_; clear hS; intro a hS
        refine s_skip hS (by decide) rfl rfl rfl rfl rfl ?_; clear hS; intro a hS
        refine s_skip hS (by decide) rfl rfl rfl rfl rfl ?_; clear hS; intro a hS
        refine s_skip hS (by decide) rfl rfl rfl rfl rfl ?_; clear hS; intro a hS
        refine s_skip hS (by decide) rfl rfl rfl rfl rfl ?_; clear hS; intro a hS
        refine s_valg hS (by decide) rfl rfl rfl rfl rfl (r_pick hS rfl rfl) ?_; clear hS; intro a hS
        refine s_val hS (by decide) rfl rfl (r_pick hS rfl rfl) ?_; clear hS; intro a hS
        refine s_val hS (by decide) rfl rfl (r_assign hS rfl) ?_; clear hS; intro a hS
        refine s_nil ?_
        refine k_seq ?_
        refine c_ret ?_
        exact k_res1 hS rfl (RV.tmp rfl) ⟨rfl, hM.done trivial⟩
      · clear hS; intro a hS; have h88 := hc
        refine s_valg hS (by decide) rfl rfl rfl rfl rfl (r_pick hS rfl rfl) ?_; clear hS; intro a hS
        refine s_valg hS (by decide) rfl rfl rfl rfl rfl (r_move hS rfl) ?_; clear hS; intro a hS
        refine s_valg hS (by decide) rfl rfl rfl rfl rfl (r_move hS rfl) ?_; clear hS; intro a hS
        refine s_valg hS (by decide) rfl rfl rfl rfl rfl (r_bv hS rfl (show ev _ _ = some (.int .i64 (0)) from rfl) gZ (b_lssZ _ _ _)) ?_; clear hS; intro a hS
        refine s_valg hS (by decide) rfl rfl rfl rfl rfl (r_move hS rfl) ?_; clear hS; intro a hS
        refine s_valg hS (by decide) rfl rfl rfl rfl rfl (r_move hS rfl) ?_; clear hS; intro a hS
        refine s_valg hS (by decide) rfl rfl rfl rfl rfl (r_bv hS rfl rfl gF (b_lssF _ _ _)) ?_; clear hS; intro a hS
        refine s_valg hS (by decide) rfl rfl rfl rfl rfl (r_eqbt hS rfl rfl Tryd.underlying4 (by first | exact lt_ord hx hy h88 | exact absurd (h59.symm.trans h88) (by decide))) ?_; clear hS; intro a hS
        refine s_valg hS (by decide) rfl rfl rfl rfl rfl (r_pick hS rfl rfl) ?_; clear hS; intro a hS
        refine s_val hS (by decide) rfl rfl (r_pick hS rfl rfl) ?_; clear hS; intro a hS
        refine s_val hS (by decide) rfl rfl (r_assign hS rfl) ?_; clear hS; intro a hS
        refine s_nil ?_
        refine k_seq ?_
        refine c_ret ?_
        exact k_res1 hS rfl (RV.tmp rfl) ⟨rfl, hM.done trivial⟩

theorem gaugeOrder_ok (w0 : World) (hG : PW w0) (x y z : BitVec 64) : Pure Tryd.prog 3 #[F x, F y, F z] w0 (.bool true) := by
  cases hx : nanB x <;> cases hy : nanB y
  · exact gorder_ff w0 hG x y z hx hy
  · exact gorder_fn w0 hG x y z hx hy
  · exact gorder_nf w0 hG x y z hx hy
  · exact gorder_nn w0 hG x y z hx hy

end Go.Proofs.YtbfiaoemoookcaaDoor
