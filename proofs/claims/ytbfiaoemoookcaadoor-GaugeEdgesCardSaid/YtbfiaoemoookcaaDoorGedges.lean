/- The walk of the law of chapter 30 on noughts, ends, and what is no number. Printed by a program of mine (walk.py). -/
import Derived.Test.YtbfiaoemoookcaaDoorGrowl
import Derived.Test.YtbfiaoemoookcaaDoorGedge
namespace Go.Proofs.YtbfiaoemoookcaaDoor
open Go Go.Sym
attribute [local irreducible] dsF blen nd th fl mulR shw ds bs numL sumR meanR att sm smooth

theorem show_is {x : BitVec 64} {s : List UInt8} {w0 : World} (hG : PW w0) (h : shw x = s) : Pure Tryd.prog 16 #[F x] w0 (SV s) := by rw [← h]; exact show_ok w0 hG x
theorem row35_20 (x0 x1 x2 x3 x4 x5 x6 x7 x8 x9 x10 x11 x12 x13 x14 x15 x16 x17 x18 x19 : List UInt8) : BuildsRow Tryd.prog 35 9 20 [(0, SV x0), (1, SV x1), (2, SV x2), (3, SV x3), (4, SV x4), (5, SV x5), (6, SV x6), (7, SV x7), (8, SV x8), (9, SV x9), (10, SV x10), (11, SV x11), (12, SV x12), (13, SV x13), (14, SV x14), (15, SV x15), (16, SV x16), (17, SV x17), (18, SV x18), (19, SV x19)] [SV x0, SV x1, SV x2, SV x3, SV x4, SV x5, SV x6, SV x7, SV x8, SV x9, SV x10, SV x11, SV x12, SV x13, SV x14, SV x15, SV x16, SV x17, SV x18, SV x19] := fun _ => by kernel_rfl
theorem sz9 : (Tryd.prog.info? 9).map (·.size) = some 1 := by kernel_rfl
theorem row31_2 (x0 x1 : BitVec 64) : BuildsRow Tryd.prog 31 22 2 [(0, F x0), (1, F x1)] [F x0, F x1] := fun _ => by kernel_rfl

set_option maxRecDepth 100000 in
theorem gaugeEdges_ok (w0 : World) (hG : PW w0) (n : Int) : Pure Tryd.prog 7 #[.int .i64 n] w0 (.bool true) := by
  refine ⟨by kernel_rfl, ?_⟩
  refine calls_sym Tryd.func7 rfl (by kernel_rfl) ?_
  intro a hS
  have hM : Mem w0 w0 [] := Mem.refl w0
  refine c_seq ?_
  refine c_region ?_
  refine s_val hS (by decide) rfl rfl (r_assign hS rfl) ?_; clear hS; intro a hS
  refine s_nil ?_
  refine k_seq ?_
  refine c_seq ?_
  refine c_region ?_
  refine s_pure hS hM (by decide) rfl (alive_ok _ (hG.keep hM trivial)) ?_; clear hS hM; intro a w hS hM
  refine s_val hS (by decide) rfl rfl (r_assign hS rfl) ?_; clear hS; intro a hS
  refine s_nil ?_
  refine k_seq ?_
  refine c_seq ?_
  refine c_region ?_
  refine s_tells hS hM (by decide) (vs := [.int .i64 (0), .int .i64 (1)]) rfl (rate_ok _ (0) (1)) ?_; clear hS hM; intro a w v12 hv12 hS hM
  obtain ⟨r12, rfl, hr12⟩ := hv12; obtain rfl := hr12.eq (v := 0#64) q_zero
  refine s_val hS (by decide) rfl rfl (r_assign hS rfl) ?_; clear hS; intro a hS
  refine s_nil ?_
  refine k_seq ?_
  refine c_seq ?_
  refine c_region ?_
  refine s_tells hS hM (by decide) (vs := [.int .i64 (0), .int .i64 (-1)]) rfl (rate_ok _ (0) (-1)) ?_; clear hS hM; intro a w v13 hv13 hS hM
  obtain ⟨r13, rfl, hr13⟩ := hv13; obtain rfl := hr13.eq (v := mz) q_minus
  refine s_val hS (by decide) rfl rfl (r_assign hS rfl) ?_; clear hS; intro a hS
  refine s_nil ?_
  refine k_seq ?_
  refine c_seq ?_
  refine c_region ?_
  refine s_tells hS hM (by decide) (vs := [.int .i64 (1), .int .i64 (0)]) rfl (rate_ok _ (1) (0)) ?_; clear hS hM; intro a w v14 hv14 hS hM
  obtain ⟨r14, rfl, hr14⟩ := hv14; obtain rfl := hr14.eq (v := pinf) q_inf
  refine s_val hS (by decide) rfl rfl (r_assign hS rfl) ?_; clear hS; intro a hS
  refine s_nil ?_
  refine k_seq ?_
  refine c_seq ?_
  refine c_region ?_
  refine s_tells hS hM (by decide) (vs := [.int .i64 (-1), .int .i64 (0)]) rfl (rate_ok _ (-1) (0)) ?_; clear hS hM; intro a w v15 hv15 hS hM
  obtain ⟨r15, rfl, hr15⟩ := hv15; obtain rfl := hr15.eq (v := ninf) q_low
  refine s_val hS (by decide) rfl rfl (r_assign hS rfl) ?_; clear hS; intro a hS
  refine s_nil ?_
  refine k_seq ?_
  refine c_seq ?_
  refine c_region ?_
  refine s_tells hS hM (by decide) (vs := [.int .i64 0, .int .i64 0]) rfl (rate_ok _ 0 0) ?_; clear hS hM; intro a w v16 hv16 hS hM
  obtain ⟨rn, rfl, hrn⟩ := hv16; replace hrn := hrn.of_none q_none
  refine s_val hS (by decide) rfl rfl (r_assign hS rfl) ?_; clear hS; intro a hS
  refine s_nil ?_
  refine k_seq ?_
  refine c_seq ?_
  refine c_region ?_
  refine s_val hS (by decide) rfl rfl (r_move hS rfl) ?_; clear hS; intro a hS
  refine s_pure hS hM (by decide) rfl (show_is (hG.keep hM trivial) w_zero) ?_; clear hS hM; intro a w hS hM
  refine s_val hS (by decide) rfl rfl (r_move hS rfl) ?_; clear hS; intro a hS
  refine s_pure hS hM (by decide) rfl (show_is (hG.keep hM trivial) w_minus) ?_; clear hS hM; intro a w hS hM
  refine s_val hS (by decide) rfl rfl (r_move hS rfl) ?_; clear hS; intro a hS
  refine s_pure hS hM (by decide) rfl (show_is (hG.keep hM trivial) w_inf) ?_; clear hS hM; intro a w hS hM
  refine s_val hS (by decide) rfl rfl (r_move hS rfl) ?_; clear hS; intro a hS
  refine s_pure hS hM (by decide) rfl (show_is (hG.keep hM trivial) w_low) ?_; clear hS hM; intro a w hS hM
  refine s_val hS (by decide) rfl rfl (r_move hS rfl) ?_; clear hS; intro a hS
  refine s_pure hS hM (by decide) rfl (show_is (hG.keep hM trivial) (w_nan hrn)) ?_; clear hS hM; intro a w hS hM
  refine s_val hS (by decide) rfl rfl (r_move hS rfl) ?_; clear hS; intro a hS
  refine s_val hS (by decide) rfl rfl (r_move hS rfl) ?_; clear hS; intro a hS
  refine s_buildSlice hS hM (by decide) (vs := [(0, F _), (1, F _)]) rfl (row31_2 _ _) ?_; clear hS hM; intro a b29 w hb29 hS hM
  refine s_pure hS hM (by decide) rfl (least_ok _ (row2F hM) (by decide)) ?_; clear hS hM; intro a w hS hM
  refine s_pure hS hM (by decide) rfl (show_is (hG.keep hM ⟨hb29, trivial⟩) w_least) ?_; clear hS hM; intro a w hS hM
  refine s_val hS (by decide) rfl rfl (r_move hS rfl) ?_; clear hS; intro a hS
  refine s_val hS (by decide) rfl rfl (r_move hS rfl) ?_; clear hS; intro a hS
  refine s_buildSlice hS hM (by decide) (vs := [(0, F _), (1, F _)]) rfl (row31_2 _ _) ?_; clear hS hM; intro a b34 w hb34 hS hM
  refine s_pure hS hM (by decide) rfl (most_ok _ (row2F hM) (by decide)) ?_; clear hS hM; intro a w hS hM
  refine s_pure hS hM (by decide) rfl (show_is (hG.keep hM ⟨hb34, hb29, trivial⟩) w_most) ?_; clear hS hM; intro a w hS hM
  refine s_val hS (by decide) rfl rfl (r_move hS rfl) ?_; clear hS; intro a hS
  refine s_val hS (by decide) rfl rfl (r_move hS rfl) ?_; clear hS; intro a hS
  refine s_buildSlice hS hM (by decide) (vs := [(0, F _), (1, F _)]) rfl (row31_2 _ _) ?_; clear hS hM; intro a b39 w hb39 hS hM
  refine s_pure hS hM (by decide) rfl (least_ok _ (row2F hM) (by decide)) ?_; clear hS hM; intro a w hS hM
  refine s_pure hS hM (by decide) rfl (show_is (hG.keep hM ⟨hb39, hb34, hb29, trivial⟩) (w_skip hrn)) ?_; clear hS hM; intro a w hS hM
  refine s_val hS (by decide) rfl rfl (r_move hS rfl) ?_; clear hS; intro a hS
  refine s_val hS (by decide) rfl rfl (r_move hS rfl) ?_; clear hS; intro a hS
  refine s_buildSlice hS hM (by decide) (vs := [(0, F _), (1, F _)]) rfl (row31_2 _ _) ?_; clear hS hM; intro a b44 w hb44 hS hM
  refine s_tells hS hM (by decide) rfl (mean_ok _ (row2F hM) (by decide)) ?_; clear hS hM; intro a w v45 hv45 hS hM
  obtain ⟨ra, rfl, hra⟩ := mean_ends hv45
  refine s_pure hS hM (by decide) rfl (show_is (hG.keep hM ⟨hb44, hb39, hb34, hb29, trivial⟩) (w_nan hra)) ?_; clear hS hM; intro a w hS hM
  refine s_tells hS hM (by decide) (vs := [.slice none 0 0]) rfl (mean_ok _ (Rd.nil _ (fun _ => F 0#64)) (by decide)) ?_; clear hS hM; intro a w v47 hv47 hS hM
  obtain ⟨rb, rfl, hrb⟩ := mean_no hv47
  refine s_pure hS hM (by decide) rfl (show_is (hG.keep hM ⟨hb44, hb39, hb34, hb29, trivial⟩) (w_nan hrb)) ?_; clear hS hM; intro a w hS hM
  refine s_val hS (by decide) rfl rfl (r_move hS rfl) ?_; clear hS; intro a hS
  refine s_tells hS hM (by decide) (vs := [_, F two]) rfl (smooth_ok _ _ _) ?_; clear hS hM; intro a w v50 hv50 hS hM
  obtain rfl := smooth_a hrn hv50
  refine s_pure hS hM (by decide) rfl (show_is (hG.keep hM ⟨hb44, hb39, hb34, hb29, trivial⟩) w_two) ?_; clear hS hM; intro a w hS hM
  refine s_val hS (by decide) rfl rfl (r_move hS rfl) ?_; clear hS; intro a hS
  refine s_tells hS hM (by decide) (vs := [F two, _]) rfl (smooth_ok _ _ _) ?_; clear hS hM; intro a w v53 hv53 hS hM
  obtain rfl := smooth_b two_num hrn hv53
  refine s_pure hS hM (by decide) rfl (show_is (hG.keep hM ⟨hb44, hb39, hb34, hb29, trivial⟩) w_two) ?_; clear hS hM; intro a w hS hM
  refine s_tells hS hM (by decide) (vs := [F 4607182418800017408#64, F 4621256167635550208#64]) rfl (smooth_ok _ _ _) ?_; clear hS hM; intro a w v55 hv55 hS hM
  obtain rfl := smooth_c hv55
  refine s_pure hS hM (by decide) rfl (show_is (hG.keep hM ⟨hb44, hb39, hb34, hb29, trivial⟩) w_two) ?_; clear hS hM; intro a w hS hM
  refine s_pure hS hM (by decide) (vs := [F 4800837202776948736#64]) rfl (show_is (hG.keep hM ⟨hb44, hb39, hb34, hb29, trivial⟩) w_43) ?_; clear hS hM; intro a w hS hM
  refine s_pure hS hM (by decide) (vs := [F 4805340802404319232#64]) rfl (show_is (hG.keep hM ⟨hb44, hb39, hb34, hb29, trivial⟩) w_44) ?_; clear hS hM; intro a w hS hM
  refine s_pure hS hM (by decide) (vs := [F 14055734437023318016#64]) rfl (show_is (hG.keep hM ⟨hb44, hb39, hb34, hb29, trivial⟩) w_50) ?_; clear hS hM; intro a w hS hM
  refine s_pure hS hM (by decide) (vs := [F 4561440258104740754#64]) rfl (show_is (hG.keep hM ⟨hb44, hb39, hb34, hb29, trivial⟩) w_9) ?_; clear hS hM; intro a w hS hM
  refine s_val hS (by decide) rfl rfl (r_move hS rfl) ?_; clear hS; intro a hS
  refine s_val hS (by decide) rfl rfl (r_move hS rfl) ?_; clear hS; intro a hS
  refine s_buildSlice hS hM (by decide) (vs := [(0, F _), (1, F _)]) rfl (row31_2 _ _) ?_; clear hS hM; intro a b63 w hb63 hS hM
  refine s_tells hS hM (by decide) rfl (mean_ok _ (row2F hM) (by decide)) ?_; clear hS hM; intro a w v64 hv64 hS hM
  obtain rfl := mean_mz hv64
  refine s_pure hS hM (by decide) rfl (show_is (hG.keep hM ⟨hb63, hb44, hb39, hb34, hb29, trivial⟩) w_zero) ?_; clear hS hM; intro a w hS hM
  refine s_tells hS hM (by decide) (vs := [.int .i64 (1), .int .i64 (3)]) rfl (rate_ok _ (1) (3)) ?_; clear hS hM; intro a w v66 hv66 hS hM
  obtain ⟨r66, rfl, hr66⟩ := hv66; obtain rfl := hr66.eq (v := third) q_third
  refine s_pure hS hM (by decide) rfl (show_is (hG.keep hM ⟨hb63, hb44, hb39, hb34, hb29, trivial⟩) w_third) ?_; clear hS hM; intro a w hS hM
  refine s_tells hS hM (by decide) (vs := [.int .i64 (-2), .int .i64 (3)]) rfl (rate_ok _ (-2) (3)) ?_; clear hS hM; intro a w v68 hv68 hS hM
  obtain ⟨r68, rfl, hr68⟩ := hv68; obtain rfl := hr68.eq (v := thirds) q_thirds
  refine s_pure hS hM (by decide) rfl (show_is (hG.keep hM ⟨hb63, hb44, hb39, hb34, hb29, trivial⟩) w_thirds) ?_; clear hS hM; intro a w hS hM
  refine s_buildSlice hS hM (by decide) (vs := [(0, SV s0), (1, SV sm0), (2, SV sinf), (3, SV sninf), (4, SV snan), (5, SV sm0), (6, SV s0), (7, SV sinf), (8, SV snan), (9, SV snan), (10, SV s2), (11, SV s2), (12, SV s2), (13, SV s43), (14, SV sbig), (15, SV snbig), (16, SV s0), (17, SV s0), (18, SV s3), (19, SV sm6)]) rfl (row35_20 _ _ _ _ _ _ _ _ _ _ _ _ _ _ _ _ _ _ _ _) ?_; clear hS hM; intro a b70 w hb70 hS hM
  replace hM := hM.congr (L' := ⟨b70, 9, wants.map SV⟩ :: _) rfl
  refine s_val hS (by decide) rfl rfl (r_assign hS rfl) ?_; clear hS; intro a hS
  refine s_nil ?_
  refine k_seq ?_
  refine c_seq ?_
  refine c_region ?_
  refine s_buildSlice hS hM (by decide) (vs := [(0, SV s0), (1, SV sm0), (2, SV sinf), (3, SV sninf), (4, SV snan), (5, SV sm0), (6, SV s0), (7, SV sinf), (8, SV snan), (9, SV snan), (10, SV s2), (11, SV s2), (12, SV s2), (13, SV s43), (14, SV sbig), (15, SV snbig), (16, SV s0), (17, SV s0), (18, SV s3), (19, SV sm6)]) rfl (row35_20 _ _ _ _ _ _ _ _ _ _ _ _ _ _ _ _ _ _ _ _) ?_; clear hS hM; intro a b71 w hb71 hS hM
  replace hM := hM.congr (L' := ⟨b71, 9, wants.map SV⟩ :: _) rfl
  refine s_val hS (by decide) rfl rfl (r_assign hS rfl) ?_; clear hS; intro a hS
  refine s_nil ?_
  refine k_seq ?_
  refine c_seq ?_
  refine c_seq ?_
  refine c_region ?_
  refine s_val hS (by decide) rfl rfl (r_move hS rfl) ?_; clear hS; intro a hS
  refine s_val hS (by decide) rfl rfl (r_not hS rfl) ?_; clear hS; intro a hS
  refine s_val hS (by decide) rfl rfl (r_move hS rfl) ?_; clear hS; intro a hS
  refine s_valg hS (by decide) rfl rfl rfl rfl rfl (r_move hS rfl) ?_; clear hS; intro a hS
  refine s_valgb hS (by decide) rfl rfl rfl rfl rfl (r_bv hS rfl (show ev _ _ = some (.int .i64 (0)) from rfl) gZ (b_lssZ _ _ _)) (fun hc => ?_) (fun hc => ?_)
  · clear hS; intro a hS; skip
    refine s_val hS (by decide) rfl rfl (r_pick hS rfl rfl) ?_; clear hS; intro a hS
    refine s_val hS (by decide) rfl rfl (r_move hS rfl) ?_; clear hS; intro a hS
    refine s_skip hS (by decide) rfl rfl rfl rfl rfl ?_; clear hS; intro a hS
    refine s_skip hS (by decide) rfl rfl rfl rfl rfl ?_; clear hS; intro a hS
    refine s_skip hS (by decide) rfl rfl rfl rfl rfl ?_; clear hS; intro a hS
    refine s_skip hS (by decide) rfl rfl rfl rfl rfl ?_; clear hS; intro a hS
    refine s_val hS (by decide) rfl rfl (r_pick hS rfl rfl) ?_; clear hS; intro a hS
    refine s_nil ?_
    refine k_seq ?_
    refine c_true hS rfl rfl ?_
    refine c_seq ?_
    refine c_region ?_
    refine s_val hS (by decide) rfl rfl (r_move hS rfl) ?_; clear hS; intro a hS
    refine s_val hS (by decide) rfl rfl (r_assign hS rfl) ?_; clear hS; intro a hS
    refine s_nil ?_
    refine k_seq ?_
    refine c_ret ?_
    refine k_thenr ?_
    exact k_res1 hS rfl (RV.tmp rfl) ⟨rfl, hM.done ⟨hb71, hb70, hb63, hb44, hb39, hb34, hb29, trivial⟩⟩
  · clear hS; intro a hS; have h1 := of_decide_eq_false hc; obtain ⟨i, rfl⟩ : ∃ j : Nat, n = (j : Int) := ⟨n.toNat, by omega⟩
    refine s_val hS (by decide) rfl rfl (r_pick hS rfl rfl) ?_; clear hS; intro a hS
    refine s_val hS (by decide) rfl rfl (r_move hS rfl) ?_; clear hS; intro a hS
    refine s_valg hS (by decide) rfl rfl rfl rfl rfl (r_move hS rfl) ?_; clear hS; intro a hS
    refine s_valg hS (by decide) rfl rfl rfl rfl rfl (r_move hS rfl) ?_; clear hS; intro a hS
    refine s_valg hS (by decide) rfl rfl rfl rfl rfl (r_lenR hS rfl (rd_strs hM (j := 1) rfl) Tryd.underlying35) ?_; clear hS; intro a hS
    refine s_valgb hS (by decide) rfl rfl rfl rfl rfl (r_bv hS rfl rfl gN (b_geqN _ _ _)) (fun hc => ?_) (fun hc => ?_)
    · clear hS; intro a hS; skip
      refine s_val hS (by decide) rfl rfl (r_pick hS rfl rfl) ?_; clear hS; intro a hS
      refine s_nil ?_
      refine k_seq ?_
      refine c_true hS rfl rfl ?_
      refine c_seq ?_
      refine c_region ?_
      refine s_val hS (by decide) rfl rfl (r_move hS rfl) ?_; clear hS; intro a hS
      refine s_val hS (by decide) rfl rfl (r_assign hS rfl) ?_; clear hS; intro a hS
      refine s_nil ?_
      refine k_seq ?_
      refine c_ret ?_
      refine k_thenr ?_
      exact k_res1 hS rfl (RV.tmp rfl) ⟨rfl, hM.done ⟨hb71, hb70, hb63, hb44, hb39, hb34, hb29, trivial⟩⟩
    · clear hS; intro a hS; have h2 : i < 20 := Nat.lt_of_not_le (of_decide_eq_false hc); have hw : wants.length = 20 := rfl
      refine s_val hS (by decide) rfl rfl (r_pick hS rfl rfl) ?_; clear hS; intro a hS
      refine s_nil ?_
      refine k_seq ?_
      refine c_false hS rfl rfl ?_
      refine c_skip ?_
      refine k_seq ?_
      refine c_seq ?_
      refine c_plan 10 (fun w => Mem w0 w _) [(9, _), (0, _), (10, _)] (by kernel_rfl) (by kernel_rfl) hS ⟨rfl, rfl, rfl, trivial⟩ (hM.drawn _) ?_; clear hS hM
      refine p_step rfl (fun a w hS hM => y_val rfl (r_move hS rfl)) ?_
      refine p_step rfl (fun a w hS hM => y_val rfl (r_move hS rfl)) ?_
      refine p_step rfl (fun a w hS hM => y_val rfl (r_indexR hS rfl (rd_strs hM (j := 1) rfl) rfl Tryd.underlying35 sz9 (by omega))) ?_
      refine p_step rfl (fun a w hS hM => y_val rfl (r_loadR hS rfl (rd_strs hM (j := 1) rfl) (by omega) Tryd.underlying9 rfl)) ?_
      refine p_step rfl (fun a w hS hM => y_val rfl (r_move hS rfl)) ?_
      refine p_step rfl (fun a w hS hM => y_val rfl (r_move hS rfl)) ?_
      refine p_step rfl (fun a w hS hM => y_val rfl (r_indexR hS rfl (rd_strs hM (j := 0) rfl) rfl Tryd.underlying35 sz9 (by omega))) ?_
      refine p_step rfl (fun a w hS hM => y_val rfl (r_loadR hS rfl (rd_strs hM (j := 0) rfl) (by omega) Tryd.underlying9 rfl)) ?_
      refine p_step rfl (fun a w hS hM => y_val rfl (r_eqlST hS rfl rfl rfl)) ?_
      refine p_step rfl (fun a w hS hM => y_val rfl (r_assign hS rfl)) ?_
      refine p_nil rfl ?_; intro a w hS hM
      refine s_nil ?_
      refine k_seq ?_
      refine c_ret ?_
      exact k_res1 hS rfl (RV.tmp rfl) ⟨rfl, hM.done ⟨hb71, hb70, hb63, hb44, hb39, hb34, hb29, trivial⟩⟩
end Go.Proofs.YtbfiaoemoookcaaDoor
