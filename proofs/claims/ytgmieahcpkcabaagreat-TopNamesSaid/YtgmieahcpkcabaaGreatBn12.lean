import Derived.Test.YtgmieahcpkcabaaGreatBn11
import Derived.Test.YtgmieahcpkcabaaGreatBn9
import Derived.Test.YtgmieahcpkcabaaGreatBn3
import Derived.Test.YtgmieahcpkcabaaGreatBn8
namespace Go.Proofs.YtgmieahcpkcabaaGreat
open Go Go.Sym
attribute [local irreducible] feAdd feMul feSub limb51 natB val byt r1X outX okX ratioX powG invX
theorem zero97 : Zero Tryz.prog 97 (pC false nilP) := fun _ => by kernel_rfl
theorem pbld (x y z t : Nat → BitVec 64) (w : World) : (Instr.build 97 ([(0, .bool true), (1, .agg (cU 5 x).toArray), (2, .agg (cU 5 y).toArray), (3, .agg (cU 5 z).toArray), (4, .agg (cU 5 t).toArray)] : List (Nat × Value)).toArray).run Tryz.prog w = .ok (.agg (pC true ⟨x, y, z, t⟩).toArray) w := by kernel_rfl
theorem one_ok (w0 : World) : Pure Tryz.prog 146 #[U 1#64] w0 (.agg (cU 5 oneX).toArray) := small_ok _ _
theorem nilbld (w : World) : (Instr.build 97 ([] : List (Nat × Value)).toArray).run Tryz.prog w = .ok (.agg (pC false nilP).toArray) w := by kernel_rfl
theorem zero397 : Zero Tryz.prog 397 rowZ := fun _ => by kernel_rfl
theorem rowbld (p q r s : PS) (w : World) : (Instr.build 397 ([(0, .agg (pC true p).toArray), (1, .agg (pC true q).toArray), (2, .agg (pC true r).toArray), (3, .agg (pC true s).toArray)] : List (Nat × Value)).toArray).run Tryz.prog w = .ok (.agg (pC true p ++ pC true q ++ pC true r ++ pC true s).toArray) w := by kernel_rfl
theorem canon_t (f : Nat → BitVec 8) (h : natB f 32 % 2 ^ 255 < pP) (w0 : World) : Pure Tryz.prog 332 #[.agg (cB 32 f).toArray] w0 (.bool true) := by have := canon_ok f w0; rwa [decide_eq_true h] at this
theorem canon_f (f : Nat → BitVec 8) (h : ¬ natB f 32 % 2 ^ 255 < pP) (w0 : World) : Pure Tryz.prog 332 #[.agg (cB 32 f).toArray] w0 (.bool false) := by have := canon_ok f w0; rwa [decide_eq_false h] at this
theorem iszero_f (x : Nat → BitVec 64) (hx : Ok x) (h : ¬ val x % pP = 0) (w0 : World) : Pure Tryz.prog 277 #[.agg (cU 5 x).toArray] w0 (.bool false) := by have := iszero_ok x hx w0; rwa [decide_eq_false h] at this
theorem b_neqBt {t : TypeId} {x y : BitVec 8} (h : ¬ x = y) : binOp .neq t (B x) (B y) = pure (.bool true) := by rw [b_neqB, decide_eq_false h]; rfl
theorem b_neqBf {t : TypeId} {x y : BitVec 8} (h : x = y) : binOp .neq t (B x) (B y) = pure (.bool false) := by rw [b_neqB, decide_eq_true h]; rfl
theorem sz4 : (Tryz.prog.info? 4).map (·.size) = some 1 := by kernel_rfl
theorem sz97 : (Tryz.prog.info? 97).map (·.size) = some 21 := by kernel_rfl
theorem sz397 : (Tryz.prog.info? 397).map (·.size) = some 84 := by kernel_rfl
theorem build27 (x0 x1 x2 x3 x4 x5 x6 x7 x8 x9 x10 x11 x12 x13 x14 x15 x16 x17 x18 x19 x20 x21 x22 x23 x24 x25 x26 x27 x28 x29 x30 x31 : BitVec 8) (w : World) : (Instr.build 27 ([(0, B x0), (1, B x1), (2, B x2), (3, B x3), (4, B x4), (5, B x5), (6, B x6), (7, B x7), (8, B x8), (9, B x9), (10, B x10), (11, B x11), (12, B x12), (13, B x13), (14, B x14), (15, B x15), (16, B x16), (17, B x17), (18, B x18), (19, B x19), (20, B x20), (21, B x21), (22, B x22), (23, B x23), (24, B x24), (25, B x25), (26, B x26), (27, B x27), (28, B x28), (29, B x29), (30, B x30), (31, B x31)] : List (Nat × Value)).toArray).run Tryz.prog w = .ok (.agg (cB 32 (lst 0 [x0, x1, x2, x3, x4, x5, x6, x7, x8, x9, x10, x11, x12, x13, x14, x15, x16, x17, x18, x19, x20, x21, x22, x23, x24, x25, x26, x27, x28, x29, x30, x31])).toArray) w := by kernel_rfl
set_option maxRecDepth 100000 in
theorem own1_ok (p : PS) (w0 : World) : Pure Tryz.prog 150 #[.agg (pC true p).toArray] w0 (.agg (pC true p).toArray) := by
  refine ⟨by kernel_rfl, ?_⟩
  refine calls_sym Tryz.func150 rfl (by kernel_rfl) ?_
  intro a hS
  have hM : Mem w0 w0 [] := Mem.refl w0
  refine c_seq <| c_region ?_
  refine s_box hS hM (by decide) rfl rfl ?_; clear hS hM; intro a b1 w hb1 hS hM
  refine s_alloc hS hM (by decide) zero97 ?_; clear hS hM; intro a b2 w hb2 hS hM
  refine s_nil <| k_seq <| c_seq <| c_seq <| c_region ?_
  refine vg hS <| vv (r_field0 · rfl Tryz.underlying97 rfl (s := 0) sz4 (k := 0) rfl) <| vv (r_load · hM rfl (j := 1) rfl Tryz.underlying4 rfl (pC_m _ _)) <| vv (r_not · rfl) ?_; clear hS; intro a hS
  refine s_nil <| k_seq ?_
  refine c_false hS rfl rfl ?_
  refine c_skip <| k_seq <| c_seq <| c_region ?_
  refine vg hS <| vv (r_loadAll · hM rfl (j := 1) rfl Tryz.underlying97 rfl sz97 (pC_len _ _)) ?_; clear hS; intro a hS
  refine s_storeAll hS hM rfl rfl (j := 0) rfl sz97 (pC_len _ _) (pC_len _ _) (pC_one _ _) ?_; clear hS hM; intro a w hS hM
  refine s_nil <| k_seq <| c_ret ?_
  exact k_res1 hS rfl (RV.row rfl (hM.have_ _ (mem_of_get (j := 0) rfl)) Tryz.underlying97 rfl (by rw [sz97]; exact congrArg some (pC_len _ _).symm)) ⟨rfl, hM.done ⟨hb2, hb1, trivial⟩⟩
set_option maxRecDepth 100000 in
theorem affine_ok (x y : Nat → BitVec 64) (w0 : World) : Pure Tryz.prog 149 #[.agg (cU 5 x).toArray, .agg (cU 5 y).toArray] w0 (.agg (pC true (affP x y)).toArray) := by
  refine ⟨by kernel_rfl, ?_⟩
  refine calls_sym Tryz.func149 rfl (by kernel_rfl) ?_
  intro a hS
  have hM : Mem w0 w0 [] := Mem.refl w0
  refine c_seq <| c_region ?_
  refine s_box hS hM (by decide) rfl rfl ?_; clear hS hM; intro a b2 w hb2 hS hM
  refine s_box hS hM (by decide) rfl rfl ?_; clear hS hM; intro a b3 w hb3 hS hM
  refine s_alloc hS hM (by decide) zero97 ?_; clear hS hM; intro a b4 w hb4 hS hM
  refine s_nil <| k_seq <| c_seq ?_
  refine c_plan 7 (fun w => Mem w0 w _) [(2, _), (3, _), (4, _)] (by kernel_rfl) (by kernel_rfl) hS ⟨rfl, rfl, rfl, trivial⟩ (hM.drawn _) ?_; clear hS hM
  refine pv rfl (fun hS hM => r_loadAll hS hM rfl (j := 2) rfl Tryz.underlying95 rfl sz95 cells_len) <| pv rfl (fun hS hM => r_loadAll hS hM rfl (j := 1) rfl Tryz.underlying95 rfl sz95 cells_len) ?_
  refine p_step rfl (fun a w hS hM => y_call (by kernel_rfl) hS (vs := [U 1#64]) rfl ((one_ok _).mem hM)) ?_
  refine pv rfl (fun hS hM => r_loadAll hS hM rfl (j := 2) rfl Tryz.underlying95 rfl sz95 cells_len) <| pv rfl (fun hS hM => r_loadAll hS hM rfl (j := 1) rfl Tryz.underlying95 rfl sz95 cells_len) ?_
  refine p_step rfl (fun a w hS hM => y_call (by kernel_rfl) hS rfl ((mul_ok _ _ _).mem hM)) ?_
  refine pv rfl (fun hS _ => r_build hS rfl (pbld _ _ _ _)) ?_
  refine p_nil rfl ?_; intro a w hS hM
  refine s_storeAll hS hM rfl rfl (j := 0) rfl sz97 (pC_len _ _) (pC_len _ _) (pC_one _ _) ?_; clear hS hM; intro a w hS hM
  refine s_nil <| k_seq <| c_ret ?_
  exact k_res1 hS rfl (RV.row rfl (hM.have_ _ (mem_of_get (j := 0) rfl)) Tryz.underlying97 rfl (by rw [sz97]; exact congrArg some (pC_len _ _).symm)) ⟨rfl, hM.done ⟨hb4, hb3, hb2, trivial⟩⟩
set_option maxRecDepth 100000 in
theorem edge_ok  (w0 : World) : Pure Tryz.prog 217 #[] w0 (.agg (cU 5 edgeX).toArray) := by
  refine ⟨by kernel_rfl, ?_⟩
  refine calls_sym Tryz.func217 rfl (by kernel_rfl) ?_
  intro a hS
  have hM : Mem w0 w0 [] := Mem.refl w0
  refine c_seq <| c_region ?_
  refine s_alloc hS hM (by decide) zero95 ?_; clear hS hM; intro a b0 w hb0 hS hM
  refine s_nil <| k_seq <| c_seq <| c_region ?_
  refine vg hS <| vv (r_build · (vs := [(0, B 163#8), (1, B 120#8), (2, B 89#8), (3, B 19#8), (4, B 202#8), (5, B 77#8), (6, B 235#8), (7, B 117#8), (8, B 171#8), (9, B 216#8), (10, B 65#8), (11, B 65#8), (12, B 77#8), (13, B 10#8), (14, B 112#8), (15, B 0#8), (16, B 152#8), (17, B 232#8), (18, B 121#8), (19, B 119#8), (20, B 121#8), (21, B 64#8), (22, B 199#8), (23, B 140#8), (24, B 115#8), (25, B 254#8), (26, B 111#8), (27, B 43#8), (28, B 238#8), (29, B 108#8), (30, B 3#8), (31, B 82#8)]) rfl (build27 _ _ _ _ _ _ _ _ _ _ _ _ _ _ _ _ _ _ _ _ _ _ _ _ _ _ _ _ _ _ _ _)) ?_; clear hS; intro a hS
  refine s_pure hS hM (by decide) rfl (from_ok _ _) ?_; clear hS hM; intro a w hS hM
  refine s_storeAll hS hM rfl rfl (j := 0) rfl sz95 cells_len cells_len cU_one ?_; clear hS hM; intro a w hS hM
  refine s_nil <| k_seq <| c_ret ?_
  exact k_res1 hS rfl (RV.row rfl (hM.have_ _ (mem_of_get (j := 0) rfl)) Tryz.underlying95 rfl (by rw [sz95]; exact congrArg some cells_len.symm)) ⟨rfl, hM.done ⟨hb0, trivial⟩⟩
attribute [local irreducible] oneX edgeX
set_option maxRecDepth 100000 in
theorem pzero_ok  (w0 : World) : Pure Tryz.prog 141 #[] w0 (.agg (pC true zeroP).toArray) := by
  refine ⟨by kernel_rfl, ?_⟩
  refine calls_sym Tryz.func141 rfl (by kernel_rfl) ?_
  intro a hS
  have hM : Mem w0 w0 [] := Mem.refl w0
  refine c_seq <| c_region ?_
  refine s_alloc hS hM (by decide) zero97 ?_; clear hS hM; intro a b0 w hb0 hS hM
  refine s_nil <| k_seq <| c_seq <| c_region ?_
  refine vg hS <| vv (fun hS => r_build hS rfl (cs := cU 5 (fun _ => 0)) (fun _ => by kernel_rfl)) ?_; clear hS; intro a hS
  refine s_pure hS hM (by decide) (vs := [U 1#64]) rfl (one_ok _) ?_; clear hS hM; intro a w hS hM
  refine s_pure hS hM (by decide) rfl (affine_ok _ _ _) ?_; clear hS hM; intro a w hS hM
  refine s_storeAll hS hM rfl rfl (j := 0) rfl sz97 (pC_len _ _) (pC_len _ _) (pC_one _ _) ?_; clear hS hM; intro a w hS hM
  refine s_nil <| k_seq <| c_ret ?_
  exact k_res1 hS rfl (RV.row rfl (hM.have_ _ (mem_of_get (j := 0) rfl)) Tryz.underlying97 rfl (by rw [sz97]; exact congrArg some (pC_len _ _).symm)) ⟨rfl, hM.done ⟨hb0, trivial⟩⟩
set_option maxRecDepth 100000 in
theorem root_ok (y : Nat → BitVec 64) (hy : Ok y) (w0 : World) : Pure Tryz.prog 148 #[.agg (cU 5 y).toArray] w0 (.tuple #[.agg (cU 5 (rootX y).1).toArray, .bool (rootX y).2]) := by
  refine ⟨by kernel_rfl, ?_⟩
  refine calls_sym Tryz.func148 rfl (by kernel_rfl) ?_
  intro a hS
  have hM : Mem w0 w0 [] := Mem.refl w0
  refine c_seq <| c_region ?_
  refine s_box hS hM (by decide) rfl rfl ?_; clear hS hM; intro a b1 w hb1 hS hM
  refine s_alloc hS hM (by decide) zero95 ?_; clear hS hM; intro a b2 w hb2 hS hM
  refine vg hS <| va rfl ?_; clear hS; intro a hS
  refine s_nil <| k_seq <| c_seq <| c_region ?_
  refine vg hS <| vv (r_loadAll · hM rfl (j := 1) rfl Tryz.underlying95 rfl sz95 cells_len) ?_; clear hS; intro a hS
  refine s_pure hS hM (by decide) rfl (square_ok _ _) ?_; clear hS hM; intro a w hS hM
  refine s_alloc hS hM (by decide) zero95 ?_; clear hS hM; intro a b4 w hb4 hS hM
  refine s_storeAll hS hM rfl rfl (j := 0) rfl sz95 cells_len cells_len cU_one ?_; clear hS hM; intro a w hS hM
  refine s_nil <| k_seq <| c_seq ?_
  refine c_plan 11 (fun w => Mem w0 w _) [(4, _), (2, _), (3, _)] (by kernel_rfl) (by kernel_rfl) hS ⟨rfl, rfl, rfl, trivial⟩ (hM.drawn _) ?_; clear hS hM
  refine pv rfl (fun hS hM => r_loadAll hS hM rfl (j := 0) rfl Tryz.underlying95 rfl sz95 cells_len) ?_
  refine p_step rfl (fun a w hS hM => y_call (by kernel_rfl) hS (vs := [U 1#64]) rfl ((one_ok _).mem hM)) ?_
  refine p_step rfl (fun a w hS hM => y_call (by kernel_rfl) hS rfl ((sub_ok _ _ _).mem hM)) ?_
  refine p_step rfl (fun a w hS hM => y_call (by kernel_rfl) hS rfl ((edge_ok _).mem hM)) ?_
  refine pv rfl (fun hS hM => r_loadAll hS hM rfl (j := 0) rfl Tryz.underlying95 rfl sz95 cells_len) ?_
  refine p_step rfl (fun a w hS hM => y_call (by kernel_rfl) hS rfl ((mul_ok _ _ _).mem hM)) ?_
  refine p_step rfl (fun a w hS hM => y_call (by kernel_rfl) hS (vs := [U 1#64]) rfl ((one_ok _).mem hM)) ?_
  refine p_step rfl (fun a w hS hM => y_call (by kernel_rfl) hS rfl ((add_ok _ _ _).mem hM)) ?_
  refine p_step rfl (fun a w hS hM => y_call (by kernel_rfl) hS rfl ((ratio_ok _ _ (ok_root1 hy) (ok_root2 hy) _).mem hM)) ?_
  refine pv rfl (fun hS _ => r_extract hS rfl rfl) <| pv rfl (fun hS _ => r_extract hS rfl rfl) ?_
  refine p_nil rfl ?_; intro a w hS hM
  refine s_storeAll hS hM rfl rfl (j := 1) rfl sz95 cells_len cells_len cU_one ?_; clear hS hM; intro a w hS hM
  refine vg hS <| va rfl ?_; clear hS; intro a hS
  refine s_nil <| k_seq <| c_ret ?_
  exact k_res2 hS rfl (RV.row rfl (hM.have_ _ (mem_of_get (j := 1) rfl)) Tryz.underlying95 rfl (by rw [sz95]; exact congrArg some cells_len.symm)) (RV.tmp rfl) ⟨(by rw [rootX]; rfl), hM.done ⟨hb4, hb2, hb1, trivial⟩⟩
attribute [local irreducible] rootX
set_option maxRecDepth 100000 in
theorem base_ok  (w0 : World) : Pure Tryz.prog 83 #[] w0 (.agg (pC true baseP).toArray) := by
  refine ⟨by kernel_rfl, ?_⟩
  refine calls_sym Tryz.func83 rfl (by kernel_rfl) ?_
  intro a hS
  have hM : Mem w0 w0 [] := Mem.refl w0
  refine c_seq <| c_region ?_
  refine s_alloc hS hM (by decide) zero97 ?_; clear hS hM; intro a b0 w hb0 hS hM
  refine s_nil <| k_seq <| c_seq <| c_region ?_
  refine s_pure hS hM (by decide) (vs := [U 4#64]) rfl (small_ok _ _) ?_; clear hS hM; intro a w hS hM
  refine s_pure hS hM (by decide) (vs := [U 5#64]) rfl (small_ok _ _) ?_; clear hS hM; intro a w hS hM
  refine s_pure hS hM (by decide) rfl (invert_ok _ _) ?_; clear hS hM; intro a w hS hM
  refine s_pure hS hM (by decide) rfl (mul_ok _ _ _) ?_; clear hS hM; intro a w hS hM
  refine s_alloc hS hM (by decide) zero95 ?_; clear hS hM; intro a b1 w hb1 hS hM
  refine s_storeAll hS hM rfl rfl (j := 0) rfl sz95 cells_len cells_len cU_one ?_; clear hS hM; intro a w hS hM
  refine s_nil <| k_seq <| c_seq <| c_region ?_
  refine vg hS <| vv (r_loadAll · hM rfl (j := 0) rfl Tryz.underlying95 rfl sz95 cells_len) ?_; clear hS; intro a hS
  refine s_pure hS hM (by decide) rfl (root_ok _ ok_baseY _) ?_; clear hS hM; intro a w hS hM
  refine vg hS <| vm rfl <| vv (r_extract · rfl rfl) <| vv (r_extract · rfl rfl) ?_; clear hS; intro a hS
  refine s_alloc hS hM (by decide) zero95 ?_; clear hS hM; intro a b2 w hb2 hS hM
  refine s_storeAll hS hM rfl rfl (j := 0) rfl sz95 cells_len cells_len cU_one ?_; clear hS hM; intro a w hS hM
  refine vg hS <| va rfl ?_; clear hS; intro a hS
  refine s_nil <| k_seq <| c_seq <| c_region ?_
  refine vg hS <| vv (r_loadAll · hM rfl (j := 0) rfl Tryz.underlying95 rfl sz95 cells_len) <| vv (r_loadAll · hM rfl (j := 1) rfl Tryz.underlying95 rfl sz95 cells_len) ?_; clear hS; intro a hS
  refine s_pure hS hM (by decide) rfl (affine_ok _ _ _) ?_; clear hS hM; intro a w hS hM
  refine s_storeAll hS hM rfl rfl (j := 2) rfl sz97 (pC_len _ _) (pC_len _ _) (pC_one _ _) ?_; clear hS hM; intro a w hS hM
  refine s_nil <| k_seq <| c_ret ?_
  exact k_res1 hS rfl (RV.row rfl (hM.have_ _ (mem_of_get (j := 2) rfl)) Tryz.underlying97 rfl (by rw [sz97]; exact congrArg some (pC_len _ _).symm)) ⟨rfl, hM.done ⟨hb2, hb1, hb0, trivial⟩⟩
set_option maxRecDepth 100000 in
theorem cross_ok (e f g h : Nat → BitVec 64) (w0 : World) : Pure Tryz.prog 218 #[.agg (cU 5 e).toArray, .agg (cU 5 f).toArray, .agg (cU 5 g).toArray, .agg (cU 5 h).toArray] w0 (.agg (pC true (crossP e f g h)).toArray) := by
  refine ⟨by kernel_rfl, ?_⟩
  refine calls_sym Tryz.func218 rfl (by kernel_rfl) ?_
  intro a hS
  have hM : Mem w0 w0 [] := Mem.refl w0
  refine c_seq <| c_region ?_
  refine s_box hS hM (by decide) rfl rfl ?_; clear hS hM; intro a b4 w hb4 hS hM
  refine s_box hS hM (by decide) rfl rfl ?_; clear hS hM; intro a b5 w hb5 hS hM
  refine s_box hS hM (by decide) rfl rfl ?_; clear hS hM; intro a b6 w hb6 hS hM
  refine s_box hS hM (by decide) rfl rfl ?_; clear hS hM; intro a b7 w hb7 hS hM
  refine s_alloc hS hM (by decide) zero97 ?_; clear hS hM; intro a b8 w hb8 hS hM
  refine s_nil <| k_seq <| c_seq ?_
  refine c_plan 13 (fun w => Mem w0 w _) [(4, _), (5, _), (6, _), (7, _), (8, _)] (by kernel_rfl) (by kernel_rfl) hS ⟨rfl, rfl, rfl, rfl, rfl, trivial⟩ (hM.drawn _) ?_; clear hS hM
  refine pv rfl (fun hS hM => r_loadAll hS hM rfl (j := 4) rfl Tryz.underlying95 rfl sz95 cells_len) <| pv rfl (fun hS hM => r_loadAll hS hM rfl (j := 3) rfl Tryz.underlying95 rfl sz95 cells_len) ?_
  refine p_step rfl (fun a w hS hM => y_call (by kernel_rfl) hS rfl ((mul_ok _ _ _).mem hM)) ?_
  refine pv rfl (fun hS hM => r_loadAll hS hM rfl (j := 2) rfl Tryz.underlying95 rfl sz95 cells_len) <| pv rfl (fun hS hM => r_loadAll hS hM rfl (j := 1) rfl Tryz.underlying95 rfl sz95 cells_len) ?_
  refine p_step rfl (fun a w hS hM => y_call (by kernel_rfl) hS rfl ((mul_ok _ _ _).mem hM)) ?_
  refine pv rfl (fun hS hM => r_loadAll hS hM rfl (j := 3) rfl Tryz.underlying95 rfl sz95 cells_len) <| pv rfl (fun hS hM => r_loadAll hS hM rfl (j := 2) rfl Tryz.underlying95 rfl sz95 cells_len) ?_
  refine p_step rfl (fun a w hS hM => y_call (by kernel_rfl) hS rfl ((mul_ok _ _ _).mem hM)) ?_
  refine pv rfl (fun hS hM => r_loadAll hS hM rfl (j := 4) rfl Tryz.underlying95 rfl sz95 cells_len) <| pv rfl (fun hS hM => r_loadAll hS hM rfl (j := 1) rfl Tryz.underlying95 rfl sz95 cells_len) ?_
  refine p_step rfl (fun a w hS hM => y_call (by kernel_rfl) hS rfl ((mul_ok _ _ _).mem hM)) ?_
  refine pv rfl (fun hS _ => r_build hS rfl (pbld _ _ _ _)) ?_
  refine p_nil rfl ?_; intro a w hS hM
  refine s_storeAll hS hM rfl rfl (j := 0) rfl sz97 (pC_len _ _) (pC_len _ _) (pC_one _ _) ?_; clear hS hM; intro a w hS hM
  refine s_nil <| k_seq <| c_ret ?_
  exact k_res1 hS rfl (RV.row rfl (hM.have_ _ (mem_of_get (j := 0) rfl)) Tryz.underlying97 rfl (by rw [sz97]; exact congrArg some (pC_len _ _).symm)) ⟨rfl, hM.done ⟨hb8, hb7, hb6, hb5, hb4, trivial⟩⟩
set_option maxRecDepth 100000 in
theorem padd_ok (p q : PS) (w0 : World) : Pure Tryz.prog 144 #[.agg (pC true p).toArray, .agg (pC true q).toArray] w0 (.agg (pC true (addP p q)).toArray) := by
  refine ⟨by kernel_rfl, ?_⟩
  refine calls_sym Tryz.func144 rfl (by kernel_rfl) ?_
  intro a hS
  have hM : Mem w0 w0 [] := Mem.refl w0
  refine c_seq <| c_region ?_
  refine s_box hS hM (by decide) rfl rfl ?_; clear hS hM; intro a b2 w hb2 hS hM
  refine s_box hS hM (by decide) rfl rfl ?_; clear hS hM; intro a b3 w hb3 hS hM
  refine s_alloc hS hM (by decide) zero97 ?_; clear hS hM; intro a b4 w hb4 hS hM
  refine s_nil <| k_seq <| c_seq ?_
  refine c_plan 4 (fun w => Mem w0 w _) [(2, _), (3, _), (4, _)] (by kernel_rfl) (by kernel_rfl) hS ⟨rfl, rfl, rfl, trivial⟩ (hM.drawn _) ?_; clear hS hM
  refine pv rfl (fun hS hM => r_loadAll hS hM rfl (j := 2) rfl Tryz.underlying97 rfl sz97 (pC_len _ _)) ?_
  refine p_step rfl (fun a w hS hM => y_call (by kernel_rfl) hS rfl ((own1_ok _ _).mem hM)) ?_
  refine pv rfl (fun hS hM => r_loadAll hS hM rfl (j := 1) rfl Tryz.underlying97 rfl sz97 (pC_len _ _)) ?_
  refine p_step rfl (fun a w hS hM => y_call (by kernel_rfl) hS rfl ((own1_ok _ _).mem hM)) ?_
  refine p_nil rfl ?_; intro a w hS hM
  refine s_storeAll hS hM rfl rfl (j := 2) rfl sz97 (pC_len _ _) (pC_len _ _) (pC_one _ _) ?_; clear hS hM; intro a w hS hM
  refine s_storeAll hS hM rfl rfl (j := 1) rfl sz97 (pC_len _ _) (pC_len _ _) (pC_one _ _) ?_; clear hS hM; intro a w hS hM
  refine s_nil <| k_seq <| c_seq ?_
  refine c_vplan 12 (AL w0 11 1000 95 (cU 5 (fun _ => 0)) ((cU 5 (fun _ => 0))) [⟨b4, 97, pC false nilP⟩, ⟨b3, 97, pC true q⟩, ⟨b2, 97, pC true p⟩]) [(2, ptr b2 0), (3, ptr b3 0), (4, ptr b4 0)] (fun i V => match i with | 0 => V 0 = ptr b2 6 | 1 => V 1 = .agg (cU 5 p.y).toArray | 2 => V 2 = ptr b2 1 | 3 => V 3 = .agg (cU 5 p.x).toArray | 4 => V 4 = .agg (cU 5 (feSub p.y p.x)).toArray | 5 => V 5 = ptr b3 6 | 6 => V 6 = .agg (cU 5 q.y).toArray | 7 => V 7 = ptr b3 1 | 8 => V 8 = .agg (cU 5 q.x).toArray | 9 => V 9 = .agg (cU 5 (feSub q.y q.x)).toArray | 10 => V 10 = .agg (cU 5 (aX p q)).toArray | 11 => ∃ b, w0.heap.size ≤ b ∧ V 11 = ptr b 0 | _ => True) (by kernel_rfl) (by kernel_rfl) hS ⟨rfl, rfl, rfl, trivial⟩ (AL.start (hM.drawn _)) ?_ ?_
  · clear hS hM
    refine ⟨?_, ?_, ?_, ?_, ?_, ?_, ?_, ?_, ?_, ?_, ?_, ?_, trivial⟩
    · intro S V a w hp hs hi hR hS hM
      replace hS := hS.to [(2, ptr b2 0)] ⟨rfl, trivial⟩
      have hM0 := hM; replace hM := hM0.low
      exact vy_val rfl (r_field0 hS rfl Tryz.underlying97 rfl (s := 4) sz95 (k := 6) rfl) ⟨rfl, hM0.keep rfl rfl⟩
    · intro S V a w hp hs hi hR hS hM
      have h0 : V 0 = ptr b2 6 := hR 0 rfl
      replace hS := hS.to [(13, ptr b2 6)] ⟨congrArg some h0, trivial⟩
      have hM0 := hM; replace hM := hM0.low
      exact vy_val rfl (r_loadSub hS hM rfl (j := 2) rfl (pC_y _ _) rfl Tryz.underlying95 rfl (by rw [cells_len]; exact sz95)) ⟨rfl, hM0.keep rfl rfl⟩
    · intro S V a w hp hs hi hR hS hM
      replace hS := hS.to [(2, ptr b2 0)] ⟨rfl, trivial⟩
      have hM0 := hM; replace hM := hM0.low
      exact vy_val rfl (r_field0 hS rfl Tryz.underlying97 rfl (s := 4) sz95 (k := 1) rfl) ⟨rfl, hM0.keep rfl rfl⟩
    · intro S V a w hp hs hi hR hS hM
      have h2 : V 2 = ptr b2 1 := hR 2 rfl
      replace hS := hS.to [(15, ptr b2 1)] ⟨congrArg some h2, trivial⟩
      have hM0 := hM; replace hM := hM0.low
      exact vy_val rfl (r_loadSub hS hM rfl (j := 2) rfl (pC_x _ _) rfl Tryz.underlying95 rfl (by rw [cells_len]; exact sz95)) ⟨rfl, hM0.keep rfl rfl⟩
    · intro S V a w hp hs hi hR hS hM
      have h1 : V 1 = .agg (cU 5 p.y).toArray := hR 1 rfl
      have h3 : V 3 = .agg (cU 5 p.x).toArray := hR 3 rfl
      replace hS := hS.to [(14, .agg (cU 5 p.y).toArray), (16, .agg (cU 5 p.x).toArray)] ⟨congrArg some h1, congrArg some h3, trivial⟩
      have hM0 := hM; replace hM := hM0.low
      exact vy_pureA hS rfl (sub_ok _ _ _) fun w' hm => ⟨rfl, (hM0.after hm).keep rfl rfl⟩
    · intro S V a w hp hs hi hR hS hM
      replace hS := hS.to [(3, ptr b3 0)] ⟨rfl, trivial⟩
      have hM0 := hM; replace hM := hM0.low
      exact vy_val rfl (r_field0 hS rfl Tryz.underlying97 rfl (s := 4) sz95 (k := 6) rfl) ⟨rfl, hM0.keep rfl rfl⟩
    · intro S V a w hp hs hi hR hS hM
      have h5 : V 5 = ptr b3 6 := hR 5 rfl
      replace hS := hS.to [(18, ptr b3 6)] ⟨congrArg some h5, trivial⟩
      have hM0 := hM; replace hM := hM0.low
      exact vy_val rfl (r_loadSub hS hM rfl (j := 1) rfl (pC_y _ _) rfl Tryz.underlying95 rfl (by rw [cells_len]; exact sz95)) ⟨rfl, hM0.keep rfl rfl⟩
    · intro S V a w hp hs hi hR hS hM
      replace hS := hS.to [(3, ptr b3 0)] ⟨rfl, trivial⟩
      have hM0 := hM; replace hM := hM0.low
      exact vy_val rfl (r_field0 hS rfl Tryz.underlying97 rfl (s := 4) sz95 (k := 1) rfl) ⟨rfl, hM0.keep rfl rfl⟩
    · intro S V a w hp hs hi hR hS hM
      have h7 : V 7 = ptr b3 1 := hR 7 rfl
      replace hS := hS.to [(20, ptr b3 1)] ⟨congrArg some h7, trivial⟩
      have hM0 := hM; replace hM := hM0.low
      exact vy_val rfl (r_loadSub hS hM rfl (j := 1) rfl (pC_x _ _) rfl Tryz.underlying95 rfl (by rw [cells_len]; exact sz95)) ⟨rfl, hM0.keep rfl rfl⟩
    · intro S V a w hp hs hi hR hS hM
      have h6 : V 6 = .agg (cU 5 q.y).toArray := hR 6 rfl
      have h8 : V 8 = .agg (cU 5 q.x).toArray := hR 8 rfl
      replace hS := hS.to [(19, .agg (cU 5 q.y).toArray), (21, .agg (cU 5 q.x).toArray)] ⟨congrArg some h6, congrArg some h8, trivial⟩
      have hM0 := hM; replace hM := hM0.low
      exact vy_pureA hS rfl (sub_ok _ _ _) fun w' hm => ⟨rfl, (hM0.after hm).keep rfl rfl⟩
    · intro S V a w hp hs hi hR hS hM
      have h4 : V 4 = .agg (cU 5 (feSub p.y p.x)).toArray := hR 4 rfl
      have h9 : V 9 = .agg (cU 5 (feSub q.y q.x)).toArray := hR 9 rfl
      replace hS := hS.to [(17, .agg (cU 5 (feSub p.y p.x)).toArray), (22, .agg (cU 5 (feSub q.y q.x)).toArray)] ⟨congrArg some h4, congrArg some h9, trivial⟩
      have hM0 := hM; replace hM := hM0.low
      exact vy_pureA hS rfl (mul_ok _ _ _) fun w' hm => ⟨rfl, (hM0.after hm).keep rfl rfl⟩
    · intro S V a w hp hs hi hR hS hM
      exact vy_alloc zero95 hM.low fun b w' hb hM' => ⟨⟨b, hb, rfl⟩, AL.made0 hb hM'⟩
  clear hS hM; intro V a w hR hS hM
  obtain ⟨b5, hb5, v11⟩ : ∃ b, w0.heap.size ≤ b ∧ V 11 = ptr b 0 := hR 11 (by decide)
  have v0 : V 0 = ptr b2 6 := hR 0 (by decide)
  have v1 : V 1 = .agg (cU 5 p.y).toArray := hR 1 (by decide)
  have v2 : V 2 = ptr b2 1 := hR 2 (by decide)
  have v3 : V 3 = .agg (cU 5 p.x).toArray := hR 3 (by decide)
  have v4 : V 4 = .agg (cU 5 (feSub p.y p.x)).toArray := hR 4 (by decide)
  have v5 : V 5 = ptr b3 6 := hR 5 (by decide)
  have v6 : V 6 = .agg (cU 5 q.y).toArray := hR 6 (by decide)
  have v7 : V 7 = ptr b3 1 := hR 7 (by decide)
  have v8 : V 8 = .agg (cU 5 q.x).toArray := hR 8 (by decide)
  have v9 : V 9 = .agg (cU 5 (feSub q.y q.x)).toArray := hR 9 (by decide)
  have v10 : V 10 = .agg (cU 5 (aX p q)).toArray := hR 10 (by decide)
  replace hS := hS.to [(5, ptr b5 0), (13, ptr b2 6), (14, .agg (cU 5 p.y).toArray), (15, ptr b2 1), (16, .agg (cU 5 p.x).toArray), (17, .agg (cU 5 (feSub p.y p.x)).toArray), (18, ptr b3 6), (19, .agg (cU 5 q.y).toArray), (20, ptr b3 1), (21, .agg (cU 5 q.x).toArray), (22, .agg (cU 5 (feSub q.y q.x)).toArray), (23, .agg (cU 5 (aX p q)).toArray), (2, ptr b2 0), (3, ptr b3 0), (4, ptr b4 0)] ⟨congrArg some v11, congrArg some v0, congrArg some v1, congrArg some v2, congrArg some v3, congrArg some v4, congrArg some v5, congrArg some v6, congrArg some v7, congrArg some v8, congrArg some v9, congrArg some v10, rfl, rfl, rfl, trivial⟩
  replace hM := (hM.stop0 rfl rfl).2; rw [v11] at hM; replace hM : Mem w0 w (⟨b5, 95, (cU 5 (fun _ => 0))⟩ :: [⟨b4, 97, pC false nilP⟩, ⟨b3, 97, pC true q⟩, ⟨b2, 97, pC true p⟩]) := hM
  clear hR v0 v1 v2 v3 v4 v5 v6 v7 v8 v9 v10 v11
  refine s_storeAll hS hM rfl rfl (j := 0) rfl sz95 cells_len cells_len cU_one ?_; clear hS hM; intro a w hS hM
  refine s_nil <| k_seq <| c_seq ?_
  refine c_vplan 12 (AL w0 11 1000 95 (cU 5 (fun _ => 0)) ((cU 5 (fun _ => 0))) [⟨b5, 95, cU 5 (aX p q)⟩, ⟨b4, 97, pC false nilP⟩, ⟨b3, 97, pC true q⟩, ⟨b2, 97, pC true p⟩]) [(2, ptr b2 0), (3, ptr b3 0), (4, ptr b4 0), (5, ptr b5 0)] (fun i V => match i with | 0 => V 0 = ptr b2 6 | 1 => V 1 = .agg (cU 5 p.y).toArray | 2 => V 2 = ptr b2 1 | 3 => V 3 = .agg (cU 5 p.x).toArray | 4 => V 4 = .agg (cU 5 (feAdd p.y p.x)).toArray | 5 => V 5 = ptr b3 6 | 6 => V 6 = .agg (cU 5 q.y).toArray | 7 => V 7 = ptr b3 1 | 8 => V 8 = .agg (cU 5 q.x).toArray | 9 => V 9 = .agg (cU 5 (feAdd q.y q.x)).toArray | 10 => V 10 = .agg (cU 5 (bX p q)).toArray | 11 => ∃ b, w0.heap.size ≤ b ∧ V 11 = ptr b 0 | _ => True) (by kernel_rfl) (by kernel_rfl) hS ⟨rfl, rfl, rfl, rfl, trivial⟩ (AL.start (hM.drawn _)) ?_ ?_
  · clear hS hM
    refine ⟨?_, ?_, ?_, ?_, ?_, ?_, ?_, ?_, ?_, ?_, ?_, ?_, trivial⟩
    · intro S V a w hp hs hi hR hS hM
      replace hS := hS.to [(2, ptr b2 0)] ⟨rfl, trivial⟩
      have hM0 := hM; replace hM := hM0.low
      exact vy_val rfl (r_field0 hS rfl Tryz.underlying97 rfl (s := 4) sz95 (k := 6) rfl) ⟨rfl, hM0.keep rfl rfl⟩
    · intro S V a w hp hs hi hR hS hM
      have h0 : V 0 = ptr b2 6 := hR 0 rfl
      replace hS := hS.to [(24, ptr b2 6)] ⟨congrArg some h0, trivial⟩
      have hM0 := hM; replace hM := hM0.low
      exact vy_val rfl (r_loadSub hS hM rfl (j := 3) rfl (pC_y _ _) rfl Tryz.underlying95 rfl (by rw [cells_len]; exact sz95)) ⟨rfl, hM0.keep rfl rfl⟩
    · intro S V a w hp hs hi hR hS hM
      replace hS := hS.to [(2, ptr b2 0)] ⟨rfl, trivial⟩
      have hM0 := hM; replace hM := hM0.low
      exact vy_val rfl (r_field0 hS rfl Tryz.underlying97 rfl (s := 4) sz95 (k := 1) rfl) ⟨rfl, hM0.keep rfl rfl⟩
    · intro S V a w hp hs hi hR hS hM
      have h2 : V 2 = ptr b2 1 := hR 2 rfl
      replace hS := hS.to [(26, ptr b2 1)] ⟨congrArg some h2, trivial⟩
      have hM0 := hM; replace hM := hM0.low
      exact vy_val rfl (r_loadSub hS hM rfl (j := 3) rfl (pC_x _ _) rfl Tryz.underlying95 rfl (by rw [cells_len]; exact sz95)) ⟨rfl, hM0.keep rfl rfl⟩
    · intro S V a w hp hs hi hR hS hM
      have h1 : V 1 = .agg (cU 5 p.y).toArray := hR 1 rfl
      have h3 : V 3 = .agg (cU 5 p.x).toArray := hR 3 rfl
      replace hS := hS.to [(25, .agg (cU 5 p.y).toArray), (27, .agg (cU 5 p.x).toArray)] ⟨congrArg some h1, congrArg some h3, trivial⟩
      have hM0 := hM; replace hM := hM0.low
      exact vy_pureA hS rfl (add_ok _ _ _) fun w' hm => ⟨rfl, (hM0.after hm).keep rfl rfl⟩
    · intro S V a w hp hs hi hR hS hM
      replace hS := hS.to [(3, ptr b3 0)] ⟨rfl, trivial⟩
      have hM0 := hM; replace hM := hM0.low
      exact vy_val rfl (r_field0 hS rfl Tryz.underlying97 rfl (s := 4) sz95 (k := 6) rfl) ⟨rfl, hM0.keep rfl rfl⟩
    · intro S V a w hp hs hi hR hS hM
      have h5 : V 5 = ptr b3 6 := hR 5 rfl
      replace hS := hS.to [(29, ptr b3 6)] ⟨congrArg some h5, trivial⟩
      have hM0 := hM; replace hM := hM0.low
      exact vy_val rfl (r_loadSub hS hM rfl (j := 2) rfl (pC_y _ _) rfl Tryz.underlying95 rfl (by rw [cells_len]; exact sz95)) ⟨rfl, hM0.keep rfl rfl⟩
    · intro S V a w hp hs hi hR hS hM
      replace hS := hS.to [(3, ptr b3 0)] ⟨rfl, trivial⟩
      have hM0 := hM; replace hM := hM0.low
      exact vy_val rfl (r_field0 hS rfl Tryz.underlying97 rfl (s := 4) sz95 (k := 1) rfl) ⟨rfl, hM0.keep rfl rfl⟩
    · intro S V a w hp hs hi hR hS hM
      have h7 : V 7 = ptr b3 1 := hR 7 rfl
      replace hS := hS.to [(31, ptr b3 1)] ⟨congrArg some h7, trivial⟩
      have hM0 := hM; replace hM := hM0.low
      exact vy_val rfl (r_loadSub hS hM rfl (j := 2) rfl (pC_x _ _) rfl Tryz.underlying95 rfl (by rw [cells_len]; exact sz95)) ⟨rfl, hM0.keep rfl rfl⟩
    · intro S V a w hp hs hi hR hS hM
      have h6 : V 6 = .agg (cU 5 q.y).toArray := hR 6 rfl
      have h8 : V 8 = .agg (cU 5 q.x).toArray := hR 8 rfl
      replace hS := hS.to [(30, .agg (cU 5 q.y).toArray), (32, .agg (cU 5 q.x).toArray)] ⟨congrArg some h6, congrArg some h8, trivial⟩
      have hM0 := hM; replace hM := hM0.low
      exact vy_pureA hS rfl (add_ok _ _ _) fun w' hm => ⟨rfl, (hM0.after hm).keep rfl rfl⟩
    · intro S V a w hp hs hi hR hS hM
      have h4 : V 4 = .agg (cU 5 (feAdd p.y p.x)).toArray := hR 4 rfl
      have h9 : V 9 = .agg (cU 5 (feAdd q.y q.x)).toArray := hR 9 rfl
      replace hS := hS.to [(28, .agg (cU 5 (feAdd p.y p.x)).toArray), (33, .agg (cU 5 (feAdd q.y q.x)).toArray)] ⟨congrArg some h4, congrArg some h9, trivial⟩
      have hM0 := hM; replace hM := hM0.low
      exact vy_pureA hS rfl (mul_ok _ _ _) fun w' hm => ⟨rfl, (hM0.after hm).keep rfl rfl⟩
    · intro S V a w hp hs hi hR hS hM
      exact vy_alloc zero95 hM.low fun b w' hb hM' => ⟨⟨b, hb, rfl⟩, AL.made0 hb hM'⟩
  clear hS hM; intro V a w hR hS hM
  obtain ⟨b6, hb6, v11⟩ : ∃ b, w0.heap.size ≤ b ∧ V 11 = ptr b 0 := hR 11 (by decide)
  have v0 : V 0 = ptr b2 6 := hR 0 (by decide)
  have v1 : V 1 = .agg (cU 5 p.y).toArray := hR 1 (by decide)
  have v2 : V 2 = ptr b2 1 := hR 2 (by decide)
  have v3 : V 3 = .agg (cU 5 p.x).toArray := hR 3 (by decide)
  have v4 : V 4 = .agg (cU 5 (feAdd p.y p.x)).toArray := hR 4 (by decide)
  have v5 : V 5 = ptr b3 6 := hR 5 (by decide)
  have v6 : V 6 = .agg (cU 5 q.y).toArray := hR 6 (by decide)
  have v7 : V 7 = ptr b3 1 := hR 7 (by decide)
  have v8 : V 8 = .agg (cU 5 q.x).toArray := hR 8 (by decide)
  have v9 : V 9 = .agg (cU 5 (feAdd q.y q.x)).toArray := hR 9 (by decide)
  have v10 : V 10 = .agg (cU 5 (bX p q)).toArray := hR 10 (by decide)
  replace hS := hS.to [(6, ptr b6 0), (24, ptr b2 6), (25, .agg (cU 5 p.y).toArray), (26, ptr b2 1), (27, .agg (cU 5 p.x).toArray), (28, .agg (cU 5 (feAdd p.y p.x)).toArray), (29, ptr b3 6), (30, .agg (cU 5 q.y).toArray), (31, ptr b3 1), (32, .agg (cU 5 q.x).toArray), (33, .agg (cU 5 (feAdd q.y q.x)).toArray), (34, .agg (cU 5 (bX p q)).toArray), (2, ptr b2 0), (3, ptr b3 0), (4, ptr b4 0), (5, ptr b5 0)] ⟨congrArg some v11, congrArg some v0, congrArg some v1, congrArg some v2, congrArg some v3, congrArg some v4, congrArg some v5, congrArg some v6, congrArg some v7, congrArg some v8, congrArg some v9, congrArg some v10, rfl, rfl, rfl, rfl, trivial⟩
  replace hM := (hM.stop0 rfl rfl).2; rw [v11] at hM; replace hM : Mem w0 w (⟨b6, 95, (cU 5 (fun _ => 0))⟩ :: [⟨b5, 95, cU 5 (aX p q)⟩, ⟨b4, 97, pC false nilP⟩, ⟨b3, 97, pC true q⟩, ⟨b2, 97, pC true p⟩]) := hM
  clear hR v0 v1 v2 v3 v4 v5 v6 v7 v8 v9 v10 v11
  refine s_storeAll hS hM rfl rfl (j := 0) rfl sz95 cells_len cells_len cU_one ?_; clear hS hM; intro a w hS hM
  refine s_nil <| k_seq <| c_seq <| c_region ?_
  refine vg hS <| vv (r_field0 · rfl Tryz.underlying97 rfl (s := 4) sz95 (k := 16) rfl) <| vv (r_loadSub · hM rfl (j := 4) rfl (pC_t _ _) rfl Tryz.underlying95 rfl (by rw [cells_len]; exact sz95)) <| vv (r_field0 · rfl Tryz.underlying97 rfl (s := 4) sz95 (k := 16) rfl) <| vv (r_loadSub · hM rfl (j := 3) rfl (pC_t _ _) rfl Tryz.underlying95 rfl (by rw [cells_len]; exact sz95)) ?_; clear hS; intro a hS
  refine s_pure hS hM (by decide) rfl (mul_ok _ _ _) ?_; clear hS hM; intro a w hS hM
  refine s_pure hS hM (by decide) rfl (edge_ok _) ?_; clear hS hM; intro a w hS hM
  refine s_pure hS hM (by decide) rfl (mul_ok _ _ _) ?_; clear hS hM; intro a w hS hM
  refine s_alloc hS hM (by decide) zero95 ?_; clear hS hM; intro a b7 w hb7 hS hM
  refine s_storeAll hS hM rfl rfl (j := 0) rfl sz95 cells_len cells_len cU_one ?_; clear hS hM; intro a w hS hM
  refine s_nil <| k_seq <| c_seq <| c_region ?_
  refine vg hS <| vv (r_loadAll · hM rfl (j := 0) rfl Tryz.underlying95 rfl sz95 cells_len) <| vv (r_loadAll · hM rfl (j := 0) rfl Tryz.underlying95 rfl sz95 cells_len) ?_; clear hS; intro a hS
  refine s_pure hS hM (by decide) rfl (add_ok _ _ _) ?_; clear hS hM; intro a w hS hM
  refine s_storeAll hS hM rfl rfl (j := 0) rfl sz95 cells_len cells_len cU_one ?_; clear hS hM; intro a w hS hM
  refine s_nil <| k_seq <| c_seq <| c_region ?_
  refine vg hS <| vv (r_field0 · rfl Tryz.underlying97 rfl (s := 4) sz95 (k := 11) rfl) <| vv (r_loadSub · hM rfl (j := 5) rfl (pC_z _ _) rfl Tryz.underlying95 rfl (by rw [cells_len]; exact sz95)) <| vv (r_field0 · rfl Tryz.underlying97 rfl (s := 4) sz95 (k := 11) rfl) <| vv (r_loadSub · hM rfl (j := 4) rfl (pC_z _ _) rfl Tryz.underlying95 rfl (by rw [cells_len]; exact sz95)) ?_; clear hS; intro a hS
  refine s_pure hS hM (by decide) rfl (mul_ok _ _ _) ?_; clear hS hM; intro a w hS hM
  refine s_alloc hS hM (by decide) zero95 ?_; clear hS hM; intro a b8 w hb8 hS hM
  refine s_storeAll hS hM rfl rfl (j := 0) rfl sz95 cells_len cells_len cU_one ?_; clear hS hM; intro a w hS hM
  refine s_nil <| k_seq <| c_seq <| c_region ?_
  refine vg hS <| vv (r_loadAll · hM rfl (j := 0) rfl Tryz.underlying95 rfl sz95 cells_len) <| vv (r_loadAll · hM rfl (j := 0) rfl Tryz.underlying95 rfl sz95 cells_len) ?_; clear hS; intro a hS
  refine s_pure hS hM (by decide) rfl (add_ok _ _ _) ?_; clear hS hM; intro a w hS hM
  refine s_storeAll hS hM rfl rfl (j := 0) rfl sz95 cells_len cells_len cU_one ?_; clear hS hM; intro a w hS hM
  refine s_nil <| k_seq <| c_seq ?_
  refine c_plan 13 (fun w => Mem w0 w _) [(6, _), (5, _), (8, _), (7, _), (4, _)] (by kernel_rfl) (by kernel_rfl) hS ⟨rfl, rfl, rfl, rfl, rfl, trivial⟩ (hM.drawn _) ?_; clear hS hM
  refine pv rfl (fun hS hM => r_loadAll hS hM rfl (j := 2) rfl Tryz.underlying95 rfl sz95 cells_len) <| pv rfl (fun hS hM => r_loadAll hS hM rfl (j := 3) rfl Tryz.underlying95 rfl sz95 cells_len) ?_
  refine p_step rfl (fun a w hS hM => y_call (by kernel_rfl) hS rfl ((sub_ok _ _ _).mem hM)) ?_
  refine pv rfl (fun hS hM => r_loadAll hS hM rfl (j := 0) rfl Tryz.underlying95 rfl sz95 cells_len) <| pv rfl (fun hS hM => r_loadAll hS hM rfl (j := 1) rfl Tryz.underlying95 rfl sz95 cells_len) ?_
  refine p_step rfl (fun a w hS hM => y_call (by kernel_rfl) hS rfl ((sub_ok _ _ _).mem hM)) ?_
  refine pv rfl (fun hS hM => r_loadAll hS hM rfl (j := 0) rfl Tryz.underlying95 rfl sz95 cells_len) <| pv rfl (fun hS hM => r_loadAll hS hM rfl (j := 1) rfl Tryz.underlying95 rfl sz95 cells_len) ?_
  refine p_step rfl (fun a w hS hM => y_call (by kernel_rfl) hS rfl ((add_ok _ _ _).mem hM)) ?_
  refine pv rfl (fun hS hM => r_loadAll hS hM rfl (j := 2) rfl Tryz.underlying95 rfl sz95 cells_len) <| pv rfl (fun hS hM => r_loadAll hS hM rfl (j := 3) rfl Tryz.underlying95 rfl sz95 cells_len) ?_
  refine p_step rfl (fun a w hS hM => y_call (by kernel_rfl) hS rfl ((add_ok _ _ _).mem hM)) ?_
  refine p_step rfl (fun a w hS hM => y_call (by kernel_rfl) hS rfl ((cross_ok _ _ _ _ _).mem hM)) ?_
  refine p_nil rfl ?_; intro a w hS hM
  refine s_storeAll hS hM rfl rfl (j := 4) rfl sz97 (pC_len _ _) (pC_len _ _) (pC_one _ _) ?_; clear hS hM; intro a w hS hM
  refine s_nil <| k_seq <| c_ret ?_
  exact k_res1 hS rfl (RV.row rfl (hM.have_ _ (mem_of_get (j := 4) rfl)) Tryz.underlying97 rfl (by rw [sz97]; exact congrArg some (pC_len _ _).symm)) ⟨rfl, hM.done ⟨hb8, hb7, hb6, hb5, hb4, hb3, hb2, trivial⟩⟩
set_option maxRecDepth 100000 in
theorem double_ok (p : PS) (w0 : World) : Pure Tryz.prog 142 #[.agg (pC true p).toArray] w0 (.agg (pC true (addP p p)).toArray) := by
  refine ⟨by kernel_rfl, ?_⟩
  refine calls_sym Tryz.func142 rfl (by kernel_rfl) ?_
  intro a hS
  have hM : Mem w0 w0 [] := Mem.refl w0
  refine c_seq <| c_region ?_
  refine s_box hS hM (by decide) rfl rfl ?_; clear hS hM; intro a b1 w hb1 hS hM
  refine s_alloc hS hM (by decide) zero97 ?_; clear hS hM; intro a b2 w hb2 hS hM
  refine s_nil <| k_seq <| c_seq <| c_region ?_
  refine vg hS <| vv (r_loadAll · hM rfl (j := 1) rfl Tryz.underlying97 rfl sz97 (pC_len _ _)) <| vv (r_loadAll · hM rfl (j := 1) rfl Tryz.underlying97 rfl sz97 (pC_len _ _)) ?_; clear hS; intro a hS
  refine s_pure hS hM (by decide) rfl (padd_ok _ _ _) ?_; clear hS hM; intro a w hS hM
  refine s_storeAll hS hM rfl rfl (j := 0) rfl sz97 (pC_len _ _) (pC_len _ _) (pC_one _ _) ?_; clear hS hM; intro a w hS hM
  refine s_nil <| k_seq <| c_ret ?_
  exact k_res1 hS rfl (RV.row rfl (hM.have_ _ (mem_of_get (j := 0) rfl)) Tryz.underlying97 rfl (by rw [sz97]; exact congrArg some (pC_len _ _).symm)) ⟨rfl, hM.done ⟨hb2, hb1, trivial⟩⟩
set_option maxRecDepth 100000 in
theorem place_ok (p : PS) (w0 : World) : Pure Tryz.prog 84 #[.agg (pC true p).toArray] w0 (.tuple #[.agg (cU 5 (plX p)).toArray, .agg (cU 5 (plY p)).toArray]) := by
  refine ⟨by kernel_rfl, ?_⟩
  refine calls_sym Tryz.func84 rfl (by kernel_rfl) ?_
  intro a hS
  have hM : Mem w0 w0 [] := Mem.refl w0
  refine c_seq <| c_region ?_
  refine s_box hS hM (by decide) rfl rfl ?_; clear hS hM; intro a b1 w hb1 hS hM
  refine s_alloc hS hM (by decide) zero95 ?_; clear hS hM; intro a b2 w hb2 hS hM
  refine s_alloc hS hM (by decide) zero95 ?_; clear hS hM; intro a b3 w hb3 hS hM
  refine s_nil <| k_seq <| c_seq <| c_region ?_
  refine vg hS <| vv (r_loadAll · hM rfl (j := 2) rfl Tryz.underlying97 rfl sz97 (pC_len _ _)) ?_; clear hS; intro a hS
  refine s_pure hS hM (by decide) rfl (own1_ok _ _) ?_; clear hS hM; intro a w hS hM
  refine s_storeAll hS hM rfl rfl (j := 2) rfl sz97 (pC_len _ _) (pC_len _ _) (pC_one _ _) ?_; clear hS hM; intro a w hS hM
  refine s_nil <| k_seq <| c_seq <| c_region ?_
  refine vg hS <| vv (r_field0 · rfl Tryz.underlying97 rfl (s := 4) sz95 (k := 11) rfl) <| vv (r_loadSub · hM rfl (j := 2) rfl (pC_z _ _) rfl Tryz.underlying95 rfl (by rw [cells_len]; exact sz95)) ?_; clear hS; intro a hS
  refine s_pure hS hM (by decide) rfl (invert_ok _ _) ?_; clear hS hM; intro a w hS hM
  refine s_alloc hS hM (by decide) zero95 ?_; clear hS hM; intro a b4 w hb4 hS hM
  refine s_storeAll hS hM rfl rfl (j := 0) rfl sz95 cells_len cells_len cU_one ?_; clear hS hM; intro a w hS hM
  refine s_nil <| k_seq <| c_seq ?_
  refine c_plan 8 (fun w => Mem w0 w _) [(1, _), (4, _), (2, _), (3, _)] (by kernel_rfl) (by kernel_rfl) hS ⟨rfl, rfl, rfl, rfl, trivial⟩ (hM.drawn _) ?_; clear hS hM
  refine pv rfl (fun hS _ => r_field0 hS rfl Tryz.underlying97 rfl (s := 4) sz95 (k := 1) rfl) <| pv rfl (fun hS hM => r_loadSub hS hM rfl (j := 3) rfl (pC_x _ _) rfl Tryz.underlying95 rfl (by rw [cells_len]; exact sz95)) <| pv rfl (fun hS hM => r_loadAll hS hM rfl (j := 0) rfl Tryz.underlying95 rfl sz95 cells_len) ?_
  refine p_step rfl (fun a w hS hM => y_call (by kernel_rfl) hS rfl ((mul_ok _ _ _).mem hM)) ?_
  refine pv rfl (fun hS _ => r_field0 hS rfl Tryz.underlying97 rfl (s := 4) sz95 (k := 6) rfl) <| pv rfl (fun hS hM => r_loadSub hS hM rfl (j := 3) rfl (pC_y _ _) rfl Tryz.underlying95 rfl (by rw [cells_len]; exact sz95)) <| pv rfl (fun hS hM => r_loadAll hS hM rfl (j := 0) rfl Tryz.underlying95 rfl sz95 cells_len) ?_
  refine p_step rfl (fun a w hS hM => y_call (by kernel_rfl) hS rfl ((mul_ok _ _ _).mem hM)) ?_
  refine p_nil rfl ?_; intro a w hS hM
  refine s_storeAll hS hM rfl rfl (j := 2) rfl sz95 cells_len cells_len cU_one ?_; clear hS hM; intro a w hS hM
  refine s_storeAll hS hM rfl rfl (j := 1) rfl sz95 cells_len cells_len cU_one ?_; clear hS hM; intro a w hS hM
  refine s_nil <| k_seq <| c_ret ?_
  exact k_res2 hS rfl (RV.row rfl (hM.have_ _ (mem_of_get (j := 2) rfl)) Tryz.underlying95 rfl (by rw [sz95]; exact congrArg some cells_len.symm)) (RV.row rfl (hM.have_ _ (mem_of_get (j := 1) rfl)) Tryz.underlying95 rfl (by rw [sz95]; exact congrArg some cells_len.symm)) ⟨rfl, hM.done ⟨hb4, hb3, hb2, hb1, trivial⟩⟩
set_option maxRecDepth 100000 in
theorem pneg_ok (p : PS) (w0 : World) : Pure Tryz.prog 304 #[.agg (pC true p).toArray] w0 (.agg (pC true (negP p)).toArray) := by
  refine ⟨by kernel_rfl, ?_⟩
  refine calls_sym Tryz.func304 rfl (by kernel_rfl) ?_
  intro a hS
  have hM : Mem w0 w0 [] := Mem.refl w0
  refine c_seq <| c_region ?_
  refine s_box hS hM (by decide) rfl rfl ?_; clear hS hM; intro a b1 w hb1 hS hM
  refine s_alloc hS hM (by decide) zero97 ?_; clear hS hM; intro a b2 w hb2 hS hM
  refine s_nil <| k_seq <| c_seq <| c_region ?_
  refine vg hS <| vv (r_loadAll · hM rfl (j := 1) rfl Tryz.underlying97 rfl sz97 (pC_len _ _)) ?_; clear hS; intro a hS
  refine s_pure hS hM (by decide) rfl (own1_ok _ _) ?_; clear hS hM; intro a w hS hM
  refine s_storeAll hS hM rfl rfl (j := 1) rfl sz97 (pC_len _ _) (pC_len _ _) (pC_one _ _) ?_; clear hS hM; intro a w hS hM
  refine s_nil <| k_seq <| c_seq ?_
  refine c_plan 7 (fun w => Mem w0 w _) [(1, _), (2, _)] (by kernel_rfl) (by kernel_rfl) hS ⟨rfl, rfl, trivial⟩ (hM.drawn _) ?_; clear hS hM
  refine pv rfl (fun hS _ => r_field0 hS rfl Tryz.underlying97 rfl (s := 4) sz95 (k := 1) rfl) <| pv rfl (fun hS hM => r_loadSub hS hM rfl (j := 1) rfl (pC_x _ _) rfl Tryz.underlying95 rfl (by rw [cells_len]; exact sz95)) ?_
  refine p_step rfl (fun a w hS hM => y_call (by kernel_rfl) hS rfl ((neg_ok _ _).mem hM)) ?_
  refine pv rfl (fun hS _ => r_field0 hS rfl Tryz.underlying97 rfl (s := 4) sz95 (k := 16) rfl) <| pv rfl (fun hS hM => r_loadSub hS hM rfl (j := 1) rfl (pC_t _ _) rfl Tryz.underlying95 rfl (by rw [cells_len]; exact sz95)) ?_
  refine p_step rfl (fun a w hS hM => y_call (by kernel_rfl) hS rfl ((neg_ok _ _).mem hM)) ?_
  refine pv rfl (fun hS _ => r_field0 hS rfl Tryz.underlying97 rfl (s := 4) sz95 (k := 1) rfl) ?_
  refine p_nil rfl ?_; intro a w hS hM
  refine s_storeRow hS hM rfl rfl (j := 1) rfl (by rw [cells_len]; exact sz95) cU_one (by rw [pC_len, cells_len]; decide) ?_; clear hS hM; intro a w hS hM
  rw [pC_set_x] at hM
  refine vg hS <| vv (r_field0 · rfl Tryz.underlying97 rfl (s := 4) sz95 (k := 16) rfl) ?_; clear hS; intro a hS
  refine s_storeRow hS hM rfl rfl (j := 1) rfl (by rw [cells_len]; exact sz95) cU_one (by rw [pC_len, cells_len]; decide) ?_; clear hS hM; intro a w hS hM
  rw [pC_set_t] at hM
  refine s_nil <| k_seq <| c_seq <| c_region ?_
  refine vg hS <| vv (r_loadAll · hM rfl (j := 1) rfl Tryz.underlying97 rfl sz97 (pC_len _ _)) ?_; clear hS; intro a hS
  refine s_storeAll hS hM rfl rfl (j := 0) rfl sz97 (pC_len _ _) (pC_len _ _) (pC_one _ _) ?_; clear hS hM; intro a w hS hM
  refine s_nil <| k_seq <| c_ret ?_
  exact k_res1 hS rfl (RV.row rfl (hM.have_ _ (mem_of_get (j := 0) rfl)) Tryz.underlying97 rfl (by rw [sz97]; exact congrArg some (pC_len _ _).symm)) ⟨rfl, hM.done ⟨hb2, hb1, trivial⟩⟩
set_option maxRecDepth 100000 in
theorem encode_ok (p : PS) (hp : p.Ok) (w0 : World) : Pure Tryz.prog 38 #[.agg (pC true p).toArray] w0 (.agg (cB 32 (encB p)).toArray) := by
  refine ⟨by kernel_rfl, ?_⟩
  refine calls_sym Tryz.func38 rfl (by kernel_rfl) ?_
  intro a hS
  have hM : Mem w0 w0 [] := Mem.refl w0
  refine c_seq <| c_region ?_
  refine s_box hS hM (by decide) rfl rfl ?_; clear hS hM; intro a b1 w hb1 hS hM
  refine s_alloc hS hM (by decide) zero27 ?_; clear hS hM; intro a b2 w hb2 hS hM
  refine s_nil <| k_seq <| c_seq <| c_region ?_
  refine vg hS <| vv (r_loadAll · hM rfl (j := 1) rfl Tryz.underlying97 rfl sz97 (pC_len _ _)) ?_; clear hS; intro a hS
  refine s_pure hS hM (by decide) rfl (place_ok _ _) ?_; clear hS hM; intro a w hS hM
  refine vg hS <| vm rfl <| vv (r_extract · rfl rfl) <| vv (r_extract · rfl rfl) ?_; clear hS; intro a hS
  refine s_alloc hS hM (by decide) zero95 ?_; clear hS hM; intro a b3 w hb3 hS hM
  refine s_alloc hS hM (by decide) zero95 ?_; clear hS hM; intro a b4 w hb4 hS hM
  refine s_storeAll hS hM rfl rfl (j := 1) rfl sz95 cells_len cells_len cU_one ?_; clear hS hM; intro a w hS hM
  refine s_storeAll hS hM rfl rfl (j := 0) rfl sz95 cells_len cells_len cU_one ?_; clear hS hM; intro a w hS hM
  refine s_nil <| k_seq <| c_seq <| c_region ?_
  refine vg hS <| vv (r_loadAll · hM rfl (j := 0) rfl Tryz.underlying95 rfl sz95 cells_len) ?_; clear hS; intro a hS
  refine s_pure hS hM (by decide) rfl (bytes_ok _ (ok_plY hp) _) ?_; clear hS hM; intro a w hS hM
  refine s_alloc hS hM (by decide) zero27 ?_; clear hS hM; intro a b5 w hb5 hS hM
  refine s_storeAll hS hM rfl rfl (j := 0) rfl sz27 cells_len cells_len cB_one ?_; clear hS hM; intro a w hS hM
  refine s_nil <| k_seq <| c_seq <| c_seq <| c_region ?_
  refine vg hS <| vv (r_loadAll · hM rfl (j := 2) rfl Tryz.underlying95 rfl sz95 cells_len) ?_; clear hS; intro a hS
  refine s_pure hS hM (by decide) rfl (odd_ok _ (ok_plX hp) _) ?_; clear hS hM; intro a w hS hM
  refine s_nil <| k_seq ?_
  refine c_cond hS rfl (fun hc => ?_) (fun hc => ?_)
  · have hk := of_decide_eq_true hc
    refine c_region ?_
    refine vg hS <| vv (r_index0 · rfl (show ev _ _ = some (.int .i64 ((31 : Nat) : Int)) from rfl) Tryz.underlying27 sz5 (by decide)) <| vv (r_load · hM rfl (j := 0) rfl Tryz.underlying5 rfl (cells_get (by omega))) <| vv (r_bv · rfl (show ev _ _ = some (B 128#8) from rfl) gB (b_orB _ _ _)) <| vv (r_index0 · rfl (show ev _ _ = some (.int .i64 ((31 : Nat) : Int)) from rfl) Tryz.underlying27 sz5 (by decide)) ?_; clear hS; intro a hS
    refine s_storeB hS hM rfl rfl (j := 0) rfl sz5 (by omega) ?_; clear hS hM; intro a w hS hM
    refine s_nil <| k_seq <| c_seq <| c_region ?_
    refine vg hS <| vv (r_loadAll · hM rfl (j := 0) rfl Tryz.underlying27 rfl sz27 cells_len) ?_; clear hS; intro a hS
    refine s_storeAll hS hM rfl rfl (j := 3) rfl sz27 cells_len cells_len cB_one ?_; clear hS hM; intro a w hS hM
    refine s_nil <| k_seq <| c_ret ?_
    exact k_res1 hS rfl (RV.row rfl (hM.have_ _ (mem_of_get (j := 3) rfl)) Tryz.underlying27 rfl (by rw [sz27]; exact congrArg some cells_len.symm)) ⟨(by unfold encB; first | rw [if_pos hk] | rw [if_neg hk]), hM.done ⟨hb5, hb4, hb3, hb2, hb1, trivial⟩⟩
  · have hk := of_decide_eq_false hc
    refine c_skip <| k_seq <| c_seq <| c_region ?_
    refine vg hS <| vv (r_loadAll · hM rfl (j := 0) rfl Tryz.underlying27 rfl sz27 cells_len) ?_; clear hS; intro a hS
    refine s_storeAll hS hM rfl rfl (j := 3) rfl sz27 cells_len cells_len cB_one ?_; clear hS hM; intro a w hS hM
    refine s_nil <| k_seq <| c_ret ?_
    exact k_res1 hS rfl (RV.row rfl (hM.have_ _ (mem_of_get (j := 3) rfl)) Tryz.underlying27 rfl (by rw [sz27]; exact congrArg some cells_len.symm)) ⟨(by unfold encB; first | rw [if_pos hk] | rw [if_neg hk]), hM.done ⟨hb5, hb4, hb3, hb2, hb1, trivial⟩⟩
set_option maxRecDepth 100000 in
theorem dec_b (f : Nat → BitVec 8) (hok : (rootX (limb51 (natB f 32))).2 = true) (hcan : ¬ natB f 32 % 2 ^ 255 < pP) (w0 : World) : Pure Tryz.prog 301 #[.agg (cB 32 f).toArray] w0 (.tuple #[.agg (pC false nilP).toArray, .bool false]) := by
  refine ⟨by kernel_rfl, ?_⟩
  refine calls_sym Tryz.func301 rfl (by kernel_rfl) ?_
  intro a hS
  have hM : Mem w0 w0 [] := Mem.refl w0
  refine c_seq <| c_region ?_
  refine s_box hS hM (by decide) rfl rfl ?_; clear hS hM; intro a b1 w hb1 hS hM
  refine s_alloc hS hM (by decide) zero97 ?_; clear hS hM; intro a b2 w hb2 hS hM
  refine vg hS <| va rfl ?_; clear hS; intro a hS
  refine s_nil <| k_seq <| c_seq <| c_region ?_
  refine vg hS <| vv (r_index0 · rfl (show ev _ _ = some (.int .i64 ((31 : Nat) : Int)) from rfl) Tryz.underlying27 sz5 (by decide)) <| vv (r_load · hM rfl (j := 1) rfl Tryz.underlying5 rfl (cells_get (by omega))) <| vv (r_bv · rfl (show ev _ _ = some (B 128#8) from rfl) gB (b_andB _ _ _)) <| vv (r_bv · rfl (show ev _ _ = some (B 0#8) from rfl) gB (b_neqB _ _ _)) <| va rfl ?_; clear hS; intro a hS
  refine s_nil <| k_seq <| c_seq <| c_region ?_
  refine vg hS <| vv (r_loadAll · hM rfl (j := 1) rfl Tryz.underlying27 rfl sz27 cells_len) ?_; clear hS; intro a hS
  refine s_pure hS hM (by decide) rfl (from_ok _ _) ?_; clear hS hM; intro a w hS hM
  refine s_alloc hS hM (by decide) zero95 ?_; clear hS hM; intro a b5 w hb5 hS hM
  refine s_storeAll hS hM rfl rfl (j := 0) rfl sz95 cells_len cells_len cU_one ?_; clear hS hM; intro a w hS hM
  refine s_nil <| k_seq <| c_seq <| c_region ?_
  refine vg hS <| vv (r_loadAll · hM rfl (j := 0) rfl Tryz.underlying95 rfl sz95 cells_len) ?_; clear hS; intro a hS
  refine s_pure hS hM (by decide) rfl (root_ok _ (limb51_ok _) _) ?_; clear hS hM; intro a w hS hM
  refine vg hS <| vm rfl <| vv (r_extract · rfl rfl) <| vv (fun hS => r_extract hS rfl (show _ = some (Value.bool true) from congrArg (fun q => some (Value.bool q)) hok)) ?_; clear hS; intro a hS
  refine s_alloc hS hM (by decide) zero95 ?_; clear hS hM; intro a b6 w hb6 hS hM
  refine s_storeAll hS hM rfl rfl (j := 0) rfl sz95 cells_len cells_len cU_one ?_; clear hS hM; intro a w hS hM
  refine vg hS <| va rfl ?_; clear hS; intro a hS
  refine s_nil <| k_seq <| c_seq <| c_seq <| c_region ?_
  refine vg hS <| vm rfl <| vv (r_not · rfl) <| vm rfl ?_; clear hS; intro a hS
  refine s_valg hS (by decide) rfl rfl rfl rfl rfl (r_loadAll hS hM rfl (j := 3) rfl Tryz.underlying27 rfl sz27 cells_len) ?_; clear hS; intro a hS
  refine s_pureg hS hM (by decide) rfl rfl rfl rfl (canon_f _ hcan _) ?_; clear hS hM; intro a w hS hM
  refine s_valg hS (by decide) rfl rfl rfl rfl rfl (r_not hS rfl) ?_; clear hS; intro a hS
  refine vg hS <| vv (r_pick · rfl rfl) <| vm rfl ?_; clear hS; intro a hS
  refine s_skip hS (by decide) rfl rfl rfl rfl rfl ?_; clear hS; intro a hS
  refine s_skip hS (by decide) rfl rfl rfl rfl rfl ?_; clear hS; intro a hS
  refine s_skipu hS (by decide) rfl rfl rfl rfl rfl ?_; clear hS; intro a hS
  refine s_skipu hS (by decide) rfl rfl rfl rfl rfl ?_; clear hS; intro a hS
  refine s_skip hS (by decide) rfl rfl rfl rfl rfl ?_; clear hS; intro a hS
  refine vg hS <| vv (r_pick · rfl rfl) ?_; clear hS; intro a hS
  refine s_nil <| k_seq ?_
  refine c_true hS rfl rfl ?_
  refine c_seq <| c_region ?_
  refine vg hS <| vv (r_build · rfl (nilbld)) ?_; clear hS; intro a hS
  refine s_storeAll hS hM rfl rfl (j := 2) rfl sz97 (pC_len _ _) (pC_len _ _) (pC_one _ _) ?_; clear hS hM; intro a w hS hM
  refine vg hS <| va rfl ?_; clear hS; intro a hS
  refine s_nil <| k_seq <| c_ret <| k_thenr ?_
  exact k_res2 hS rfl (RV.row rfl (hM.have_ _ (mem_of_get (j := 2) rfl)) Tryz.underlying97 rfl (by rw [sz97]; exact congrArg some (pC_len _ _).symm)) (RV.tmp rfl) ⟨rfl, hM.done ⟨hb6, hb5, hb2, hb1, trivial⟩⟩
set_option maxRecDepth 100000 in
theorem dec_c (f : Nat → BitVec 8) (hok : (rootX (limb51 (natB f 32))).2 = true) (hcan : natB f 32 % 2 ^ 255 < pP) (hodd : f 31 &&& 128#8 = 0#8) (w0 : World) : Pure Tryz.prog 301 #[.agg (cB 32 f).toArray] w0 (.tuple #[.agg (pC true (affP (rootX (limb51 (natB f 32))).1 (limb51 (natB f 32)))).toArray, .bool true]) := by
  refine ⟨by kernel_rfl, ?_⟩
  refine calls_sym Tryz.func301 rfl (by kernel_rfl) ?_
  intro a hS
  have hM : Mem w0 w0 [] := Mem.refl w0
  refine c_seq <| c_region ?_
  refine s_box hS hM (by decide) rfl rfl ?_; clear hS hM; intro a b1 w hb1 hS hM
  refine s_alloc hS hM (by decide) zero97 ?_; clear hS hM; intro a b2 w hb2 hS hM
  refine vg hS <| va rfl ?_; clear hS; intro a hS
  refine s_nil <| k_seq <| c_seq <| c_region ?_
  refine vg hS <| vv (r_index0 · rfl (show ev _ _ = some (.int .i64 ((31 : Nat) : Int)) from rfl) Tryz.underlying27 sz5 (by decide)) <| vv (r_load · hM rfl (j := 1) rfl Tryz.underlying5 rfl (cells_get (by omega))) <| vv (r_bv · rfl (show ev _ _ = some (B 128#8) from rfl) gB (b_andB _ _ _)) <| vv (r_bv · rfl (show ev _ _ = some (B 0#8) from rfl) gB (b_neqBf hodd)) <| va rfl ?_; clear hS; intro a hS
  refine s_nil <| k_seq <| c_seq <| c_region ?_
  refine vg hS <| vv (r_loadAll · hM rfl (j := 1) rfl Tryz.underlying27 rfl sz27 cells_len) ?_; clear hS; intro a hS
  refine s_pure hS hM (by decide) rfl (from_ok _ _) ?_; clear hS hM; intro a w hS hM
  refine s_alloc hS hM (by decide) zero95 ?_; clear hS hM; intro a b5 w hb5 hS hM
  refine s_storeAll hS hM rfl rfl (j := 0) rfl sz95 cells_len cells_len cU_one ?_; clear hS hM; intro a w hS hM
  refine s_nil <| k_seq <| c_seq <| c_region ?_
  refine vg hS <| vv (r_loadAll · hM rfl (j := 0) rfl Tryz.underlying95 rfl sz95 cells_len) ?_; clear hS; intro a hS
  refine s_pure hS hM (by decide) rfl (root_ok _ (limb51_ok _) _) ?_; clear hS hM; intro a w hS hM
  refine vg hS <| vm rfl <| vv (r_extract · rfl rfl) <| vv (fun hS => r_extract hS rfl (show _ = some (Value.bool true) from congrArg (fun q => some (Value.bool q)) hok)) ?_; clear hS; intro a hS
  refine s_alloc hS hM (by decide) zero95 ?_; clear hS hM; intro a b6 w hb6 hS hM
  refine s_storeAll hS hM rfl rfl (j := 0) rfl sz95 cells_len cells_len cU_one ?_; clear hS hM; intro a w hS hM
  refine vg hS <| va rfl ?_; clear hS; intro a hS
  refine s_nil <| k_seq <| c_seq <| c_seq <| c_region ?_
  refine vg hS <| vm rfl <| vv (r_not · rfl) <| vm rfl ?_; clear hS; intro a hS
  refine s_valg hS (by decide) rfl rfl rfl rfl rfl (r_loadAll hS hM rfl (j := 3) rfl Tryz.underlying27 rfl sz27 cells_len) ?_; clear hS; intro a hS
  refine s_pureg hS hM (by decide) rfl rfl rfl rfl (canon_t _ hcan _) ?_; clear hS hM; intro a w hS hM
  refine s_valg hS (by decide) rfl rfl rfl rfl rfl (r_not hS rfl) ?_; clear hS; intro a hS
  refine vg hS <| vv (r_pick · rfl rfl) <| vm rfl ?_; clear hS; intro a hS
  refine s_valg hS (by decide) rfl rfl rfl rfl rfl (r_move hS rfl) ?_; clear hS; intro a hS
  refine s_valg hS (by decide) rfl rfl rfl rfl rfl (r_move hS rfl) ?_; clear hS; intro a hS
  refine s_skip hS (by decide) rfl rfl rfl rfl rfl ?_; clear hS; intro a hS
  refine s_skip hS (by decide) rfl rfl rfl rfl rfl ?_; clear hS; intro a hS
  refine s_valg hS (by decide) rfl rfl rfl rfl rfl (r_pick hS rfl rfl) ?_; clear hS; intro a hS
  refine vg hS <| vv (r_pick · rfl rfl) ?_; clear hS; intro a hS
  refine s_nil <| k_seq ?_
  refine c_false hS rfl rfl ?_
  refine c_skip <| k_seq <| c_seq <| c_seq <| c_region ?_
  refine vg hS <| vm rfl ?_; clear hS; intro a hS
  refine s_nil <| k_seq ?_
  refine c_false hS rfl rfl ?_
  refine c_skip <| k_seq <| c_seq <| c_region ?_
  refine vg hS <| vv (r_loadAll · hM rfl (j := 0) rfl Tryz.underlying95 rfl sz95 cells_len) <| vv (r_loadAll · hM rfl (j := 1) rfl Tryz.underlying95 rfl sz95 cells_len) ?_; clear hS; intro a hS
  refine s_pure hS hM (by decide) rfl (affine_ok _ _ _) ?_; clear hS hM; intro a w hS hM
  refine s_storeAll hS hM rfl rfl (j := 2) rfl sz97 (pC_len _ _) (pC_len _ _) (pC_one _ _) ?_; clear hS hM; intro a w hS hM
  refine vg hS <| va rfl ?_; clear hS; intro a hS
  refine s_nil <| k_seq <| c_ret ?_
  exact k_res2 hS rfl (RV.row rfl (hM.have_ _ (mem_of_get (j := 2) rfl)) Tryz.underlying97 rfl (by rw [sz97]; exact congrArg some (pC_len _ _).symm)) (RV.tmp rfl) ⟨rfl, hM.done ⟨hb6, hb5, hb2, hb1, trivial⟩⟩
set_option maxRecDepth 100000 in
theorem dec_e (f : Nat → BitVec 8) (hok : (rootX (limb51 (natB f 32))).2 = true) (hcan : natB f 32 % 2 ^ 255 < pP) (hodd : ¬ f 31 &&& 128#8 = 0#8) (hz : ¬ val (rootX (limb51 (natB f 32))).1 % pP = 0) (w0 : World) : Pure Tryz.prog 301 #[.agg (cB 32 f).toArray] w0 (.tuple #[.agg (pC true (affP (feSub (fun _ => 0) (rootX (limb51 (natB f 32))).1) (limb51 (natB f 32)))).toArray, .bool true]) := by
  refine ⟨by kernel_rfl, ?_⟩
  refine calls_sym Tryz.func301 rfl (by kernel_rfl) ?_
  intro a hS
  have hM : Mem w0 w0 [] := Mem.refl w0
  refine c_seq <| c_region ?_
  refine s_box hS hM (by decide) rfl rfl ?_; clear hS hM; intro a b1 w hb1 hS hM
  refine s_alloc hS hM (by decide) zero97 ?_; clear hS hM; intro a b2 w hb2 hS hM
  refine vg hS <| va rfl ?_; clear hS; intro a hS
  refine s_nil <| k_seq <| c_seq <| c_region ?_
  refine vg hS <| vv (r_index0 · rfl (show ev _ _ = some (.int .i64 ((31 : Nat) : Int)) from rfl) Tryz.underlying27 sz5 (by decide)) <| vv (r_load · hM rfl (j := 1) rfl Tryz.underlying5 rfl (cells_get (by omega))) <| vv (r_bv · rfl (show ev _ _ = some (B 128#8) from rfl) gB (b_andB _ _ _)) <| vv (r_bv · rfl (show ev _ _ = some (B 0#8) from rfl) gB (b_neqBt hodd)) <| va rfl ?_; clear hS; intro a hS
  refine s_nil <| k_seq <| c_seq <| c_region ?_
  refine vg hS <| vv (r_loadAll · hM rfl (j := 1) rfl Tryz.underlying27 rfl sz27 cells_len) ?_; clear hS; intro a hS
  refine s_pure hS hM (by decide) rfl (from_ok _ _) ?_; clear hS hM; intro a w hS hM
  refine s_alloc hS hM (by decide) zero95 ?_; clear hS hM; intro a b5 w hb5 hS hM
  refine s_storeAll hS hM rfl rfl (j := 0) rfl sz95 cells_len cells_len cU_one ?_; clear hS hM; intro a w hS hM
  refine s_nil <| k_seq <| c_seq <| c_region ?_
  refine vg hS <| vv (r_loadAll · hM rfl (j := 0) rfl Tryz.underlying95 rfl sz95 cells_len) ?_; clear hS; intro a hS
  refine s_pure hS hM (by decide) rfl (root_ok _ (limb51_ok _) _) ?_; clear hS hM; intro a w hS hM
  refine vg hS <| vm rfl <| vv (r_extract · rfl rfl) <| vv (fun hS => r_extract hS rfl (show _ = some (Value.bool true) from congrArg (fun q => some (Value.bool q)) hok)) ?_; clear hS; intro a hS
  refine s_alloc hS hM (by decide) zero95 ?_; clear hS hM; intro a b6 w hb6 hS hM
  refine s_storeAll hS hM rfl rfl (j := 0) rfl sz95 cells_len cells_len cU_one ?_; clear hS hM; intro a w hS hM
  refine vg hS <| va rfl ?_; clear hS; intro a hS
  refine s_nil <| k_seq <| c_seq <| c_seq <| c_region ?_
  refine vg hS <| vm rfl <| vv (r_not · rfl) <| vm rfl ?_; clear hS; intro a hS
  refine s_valg hS (by decide) rfl rfl rfl rfl rfl (r_loadAll hS hM rfl (j := 3) rfl Tryz.underlying27 rfl sz27 cells_len) ?_; clear hS; intro a hS
  refine s_pureg hS hM (by decide) rfl rfl rfl rfl (canon_t _ hcan _) ?_; clear hS hM; intro a w hS hM
  refine s_valg hS (by decide) rfl rfl rfl rfl rfl (r_not hS rfl) ?_; clear hS; intro a hS
  refine vg hS <| vv (r_pick · rfl rfl) <| vm rfl ?_; clear hS; intro a hS
  refine s_valg hS (by decide) rfl rfl rfl rfl rfl (r_move hS rfl) ?_; clear hS; intro a hS
  refine s_valg hS (by decide) rfl rfl rfl rfl rfl (r_move hS rfl) ?_; clear hS; intro a hS
  refine s_valg hS (by decide) rfl rfl rfl rfl rfl (r_loadAll hS hM rfl (j := 0) rfl Tryz.underlying95 rfl sz95 cells_len) ?_; clear hS; intro a hS
  refine s_pureg hS hM (by decide) rfl rfl rfl rfl (iszero_f _ (ok_root (limb51_ok _)) hz _) ?_; clear hS hM; intro a w hS hM
  refine s_valg hS (by decide) rfl rfl rfl rfl rfl (r_pick hS rfl rfl) ?_; clear hS; intro a hS
  refine vg hS <| vv (r_pick · rfl rfl) ?_; clear hS; intro a hS
  refine s_nil <| k_seq ?_
  refine c_false hS rfl rfl ?_
  refine c_skip <| k_seq <| c_seq <| c_seq <| c_region ?_
  refine vg hS <| vm rfl ?_; clear hS; intro a hS
  refine s_nil <| k_seq ?_
  refine c_true hS rfl rfl ?_
  refine c_region ?_
  refine vg hS <| vv (r_loadAll · hM rfl (j := 0) rfl Tryz.underlying95 rfl sz95 cells_len) ?_; clear hS; intro a hS
  refine s_pure hS hM (by decide) rfl (neg_ok _ _) ?_; clear hS hM; intro a w hS hM
  refine s_storeAll hS hM rfl rfl (j := 0) rfl sz95 cells_len cells_len cU_one ?_; clear hS hM; intro a w hS hM
  refine s_nil <| k_seq <| c_seq <| c_region ?_
  refine vg hS <| vv (r_loadAll · hM rfl (j := 0) rfl Tryz.underlying95 rfl sz95 cells_len) <| vv (r_loadAll · hM rfl (j := 1) rfl Tryz.underlying95 rfl sz95 cells_len) ?_; clear hS; intro a hS
  refine s_pure hS hM (by decide) rfl (affine_ok _ _ _) ?_; clear hS hM; intro a w hS hM
  refine s_storeAll hS hM rfl rfl (j := 2) rfl sz97 (pC_len _ _) (pC_len _ _) (pC_one _ _) ?_; clear hS hM; intro a w hS hM
  refine vg hS <| va rfl ?_; clear hS; intro a hS
  refine s_nil <| k_seq <| c_ret ?_
  exact k_res2 hS rfl (RV.row rfl (hM.have_ _ (mem_of_get (j := 2) rfl)) Tryz.underlying97 rfl (by rw [sz97]; exact congrArg some (pC_len _ _).symm)) (RV.tmp rfl) ⟨rfl, hM.done ⟨hb6, hb5, hb2, hb1, trivial⟩⟩
set_option maxRecDepth 100000 in
theorem mult_ok (f : Nat → BitVec 8) (p : PS) (w0 : World) : Pure Tryz.prog 82 #[.agg (cB 32 f).toArray, .agg (pC true p).toArray] w0 (.agg (pC true (mulP (natB f 32) p 256)).toArray) := by
  refine ⟨by kernel_rfl, ?_⟩
  refine calls_sym Tryz.func82 rfl (by kernel_rfl) ?_
  intro a hS
  have hM : Mem w0 w0 [] := Mem.refl w0
  refine c_seq <| c_region ?_
  refine s_box hS hM (by decide) rfl rfl ?_; clear hS hM; intro a b2 w hb2 hS hM
  refine s_box hS hM (by decide) rfl rfl ?_; clear hS hM; intro a b3 w hb3 hS hM
  refine s_alloc hS hM (by decide) zero97 ?_; clear hS hM; intro a b4 w hb4 hS hM
  refine s_nil <| k_seq <| c_seq <| c_region ?_
  refine s_pure hS hM (by decide) rfl (pzero_ok _) ?_; clear hS hM; intro a w hS hM
  refine s_alloc hS hM (by decide) zero97 ?_; clear hS hM; intro a b5 w hb5 hS hM
  refine s_storeAll hS hM rfl rfl (j := 0) rfl sz97 (pC_len _ _) (pC_len _ _) (pC_one _ _) ?_; clear hS hM; intro a w hS hM
  refine s_nil <| k_seq <| c_seq <| c_seq <| c_region ?_
  refine vg hS <| vv (r_assign · (show ev _ _ = some (N 255) from rfl)) ?_; clear hS; intro a hS
  refine s_nil <| k_seq <| c_block ?_
  refine c_loop (σ := Nat) (fun k a w => (k ≤ 256) ∧ Slots a 22 (env [(2, ptr b2 0), (3, ptr b3 0), (4, ptr b4 0), (5, ptr b5 0), (6, .int .i64 (255 - (k : Int)))]) ∧ Mem w0 w ([⟨b5, 97, pC true (mulP (natB f 32) p k)⟩, ⟨b4, 97, pC false nilP⟩, ⟨b3, 97, pC true p⟩, ⟨b2, 27, cB 32 f⟩])) (fun k => 256 - k) (0) ⟨by omega, hS.to _ ⟨rfl, rfl, rfl, rfl, rfl, trivial⟩, hM⟩ ?_
  clear hS hM; rintro k a w ⟨hk, hS, hM⟩
  refine c_seq <| c_seq <| c_region ?_
  refine vg hS <| vm rfl <| vv (r_bv · rfl (show ev _ _ = some (.int .i64 (0)) from rfl) gZ (b_geqZ _ _ _)) ?_; clear hS; intro a hS
  refine s_nil <| k_seq ?_
  refine c_cond hS rfl (fun hc => ?_) (fun hc => ?_)
  · have hk1 := of_decide_eq_true hc; have hk2 : k ≤ 255 := (by omega); rw [show (255 : Int) - (k : Int) = ((255 - k : Nat) : Int) by omega] at hS
    refine c_skip <| k_seq <| c_seq <| c_block <| c_seq <| c_region ?_
    refine vg hS <| vv (r_loadAll · hM rfl (j := 0) rfl Tryz.underlying97 rfl sz97 (pC_len _ _)) ?_; clear hS; intro a hS
    refine s_pure hS hM (by decide) rfl (double_ok _ _) ?_; clear hS hM; intro a w hS hM
    refine s_storeAll hS hM rfl rfl (j := 0) rfl sz97 (pC_len _ _) (pC_len _ _) (pC_one _ _) ?_; clear hS hM; intro a w hS hM
    refine s_nil <| k_seq <| c_seq <| c_region ?_
    refine vg hS <| vv (r_loadAll · hM rfl (j := 3) rfl Tryz.underlying27 rfl sz27 cells_len) <| vm rfl ?_; clear hS; intro a hS
    refine s_pure hS hM (by decide) rfl (Bit_ok _ _ _) ?_; clear hS hM; intro a w hS hM
    refine vg hS <| vv (r_bv · rfl (show ev _ _ = some (N 1) from rfl) gN (b_eqlN _ _ _)) ?_; clear hS; intro a hS
    refine s_nil <| k_seq ?_
    refine c_cond hS rfl (fun hc => ?_) (fun hc => ?_)
    · have hk3 := of_decide_eq_true hc; rw [bitZ_at _ _ (by omega)] at hk3
      refine c_region ?_
      refine vg hS <| vv (r_loadAll · hM rfl (j := 0) rfl Tryz.underlying97 rfl sz97 (pC_len _ _)) <| vv (r_loadAll · hM rfl (j := 2) rfl Tryz.underlying97 rfl sz97 (pC_len _ _)) ?_; clear hS; intro a hS
      refine s_pure hS hM (by decide) rfl (padd_ok _ _ _) ?_; clear hS hM; intro a w hS hM
      refine s_storeAll hS hM rfl rfl (j := 0) rfl sz97 (pC_len _ _) (pC_len _ _) (pC_one _ _) ?_; clear hS hM; intro a w hS hM
      refine s_nil <| k_in <| k_seq <| c_region ?_
      refine vg hS <| vm rfl <| vv (r_bv · rfl (show ev _ _ = some (.int .i64 (1)) from rfl) gZ (b_subZ _ _ _ (by omega))) <| va rfl ?_; clear hS; intro a hS
      refine s_nil <| k_then ?_
      refine ⟨k + 1, by omega, by omega, hS.to _ ⟨rfl, rfl, rfl, rfl, congrArg (fun q => some (Value.int .i64 q)) (by omega), trivial⟩, (by first | exact hM.congr (by rw [mulP_one hk3]; rfl) | exact hM.congr (by rw [mulP_none hk3]; rfl))⟩
    · have hk3 := of_decide_eq_false hc; rw [bitZ_at _ _ (by omega)] at hk3
      refine c_skip <| k_in <| k_seq <| c_region ?_
      refine vg hS <| vm rfl <| vv (r_bv · rfl (show ev _ _ = some (.int .i64 (1)) from rfl) gZ (b_subZ _ _ _ (by omega))) <| va rfl ?_; clear hS; intro a hS
      refine s_nil <| k_then ?_
      refine ⟨k + 1, by omega, by omega, hS.to _ ⟨rfl, rfl, rfl, rfl, congrArg (fun q => some (Value.int .i64 q)) (by omega), trivial⟩, (by first | exact hM.congr (by rw [mulP_one hk3]; rfl) | exact hM.congr (by rw [mulP_none hk3]; rfl))⟩
  · obtain rfl : k = 256 := by have := of_decide_eq_false hc; omega
    refine c_exit <| k_thenx <| k_thenx <| k_inx <| k_seq <| c_seq <| c_region ?_
    refine vg hS <| vv (r_loadAll · hM rfl (j := 0) rfl Tryz.underlying97 rfl sz97 (pC_len _ _)) ?_; clear hS; intro a hS
    refine s_storeAll hS hM rfl rfl (j := 1) rfl sz97 (pC_len _ _) (pC_len _ _) (pC_one _ _) ?_; clear hS hM; intro a w hS hM
    refine s_nil <| k_seq <| c_ret ?_
    exact k_res1 hS rfl (RV.row rfl (hM.have_ _ (mem_of_get (j := 1) rfl)) Tryz.underlying97 rfl (by rw [sz97]; exact congrArg some (pC_len _ _).symm)) ⟨rfl, hM.done ⟨hb5, hb4, hb3, hb2, trivial⟩⟩
set_option maxRecDepth 100000 in
theorem mbase_ok (f : Nat → BitVec 8) (w0 : World) : Pure Tryz.prog 37 #[.agg (cB 32 f).toArray] w0 (.agg (pC true (mulP (natB f 32) baseP 256)).toArray) := by
  refine ⟨by kernel_rfl, ?_⟩
  refine calls_sym Tryz.func37 rfl (by kernel_rfl) ?_
  intro a hS
  have hM : Mem w0 w0 [] := Mem.refl w0
  refine c_seq <| c_region ?_
  refine s_box hS hM (by decide) rfl rfl ?_; clear hS hM; intro a b1 w hb1 hS hM
  refine s_alloc hS hM (by decide) zero97 ?_; clear hS hM; intro a b2 w hb2 hS hM
  refine s_nil <| k_seq <| c_seq ?_
  refine c_plan 3 (fun w => Mem w0 w _) [(1, _), (2, _)] (by kernel_rfl) (by kernel_rfl) hS ⟨rfl, rfl, trivial⟩ (hM.drawn _) ?_; clear hS hM
  refine pv rfl (fun hS hM => r_loadAll hS hM rfl (j := 1) rfl Tryz.underlying27 rfl sz27 cells_len) ?_
  refine p_step rfl (fun a w hS hM => y_call (by kernel_rfl) hS rfl ((base_ok _).mem hM)) ?_
  refine p_step rfl (fun a w hS hM => y_call (by kernel_rfl) hS rfl ((mult_ok _ _ _).mem hM)) ?_
  refine p_nil rfl ?_; intro a w hS hM
  refine s_storeAll hS hM rfl rfl (j := 0) rfl sz97 (pC_len _ _) (pC_len _ _) (pC_one _ _) ?_; clear hS hM; intro a w hS hM
  refine s_nil <| k_seq <| c_ret ?_
  exact k_res1 hS rfl (RV.row rfl (hM.have_ _ (mem_of_get (j := 0) rfl)) Tryz.underlying97 rfl (by rw [sz97]; exact congrArg some (pC_len _ _).symm)) ⟨rfl, hM.done ⟨hb2, hb1, trivial⟩⟩
attribute [local irreducible] addP baseP zeroP twoP mulP
set_option maxRecDepth 100000 in
theorem mtwo_ok (f : Nat → BitVec 8) (p : PS) (g : Nat → BitVec 8) (w0 : World) : Pure Tryz.prog 303 #[.agg (cB 32 f).toArray, .agg (pC true p).toArray, .agg (cB 32 g).toArray] w0 (.agg (pC true (twoP (natB f 32) (natB g 32) p 256)).toArray) := by
  refine ⟨by kernel_rfl, ?_⟩
  refine calls_sym Tryz.func303 rfl (by kernel_rfl) ?_
  intro a hS
  have hM : Mem w0 w0 [] := Mem.refl w0
  refine c_seq <| c_region ?_
  refine s_box hS hM (by decide) rfl rfl ?_; clear hS hM; intro a b3 w hb3 hS hM
  refine s_box hS hM (by decide) rfl rfl ?_; clear hS hM; intro a b4 w hb4 hS hM
  refine s_box hS hM (by decide) rfl rfl ?_; clear hS hM; intro a b5 w hb5 hS hM
  refine s_alloc hS hM (by decide) zero97 ?_; clear hS hM; intro a b6 w hb6 hS hM
  refine s_nil <| k_seq <| c_seq <| c_region ?_
  refine s_pure hS hM (by decide) rfl (base_ok _) ?_; clear hS hM; intro a w hS hM
  refine s_alloc hS hM (by decide) zero97 ?_; clear hS hM; intro a b7 w hb7 hS hM
  refine s_storeAll hS hM rfl rfl (j := 0) rfl sz97 (pC_len _ _) (pC_len _ _) (pC_one _ _) ?_; clear hS hM; intro a w hS hM
  refine s_nil <| k_seq <| c_seq ?_
  refine c_vplan 8 (AL w0 7 1000 397 rowZ (rowZ) [⟨b7, 97, pC true baseP⟩, ⟨b6, 97, pC false nilP⟩, ⟨b5, 27, cB 32 g⟩, ⟨b4, 97, pC true p⟩, ⟨b3, 27, cB 32 f⟩]) [(4, ptr b4 0), (7, ptr b7 0), (3, ptr b3 0), (5, ptr b5 0), (6, ptr b6 0)] (fun i V => match i with | 0 => V 0 = .agg (pC true zeroP).toArray | 1 => V 1 = .agg (pC true p).toArray | 2 => V 2 = .agg (pC true baseP).toArray | 3 => V 3 = .agg (pC true p).toArray | 4 => V 4 = .agg (pC true baseP).toArray | 5 => V 5 = .agg (pC true (addP p baseP)).toArray | 6 => V 6 = .agg (rowP p).toArray | 7 => ∃ b, w0.heap.size ≤ b ∧ V 7 = ptr b 0 | _ => True) (by kernel_rfl) (by kernel_rfl) hS ⟨rfl, rfl, rfl, rfl, rfl, trivial⟩ (AL.start (hM.drawn _)) ?_ ?_
  · clear hS hM
    refine ⟨?_, ?_, ?_, ?_, ?_, ?_, ?_, ?_, trivial⟩
    · intro S V a w hp hs hi hR hS hM
      replace hS := hS.to [] trivial
      have hM0 := hM; replace hM := hM0.low
      exact vy_pureA hS rfl (pzero_ok _) fun w' hm => ⟨rfl, (hM0.after hm).keep rfl rfl⟩
    · intro S V a w hp hs hi hR hS hM
      replace hS := hS.to [(4, ptr b4 0)] ⟨rfl, trivial⟩
      have hM0 := hM; replace hM := hM0.low
      exact vy_val rfl (r_loadAll hS hM rfl (j := 3) rfl Tryz.underlying97 rfl sz97 (pC_len _ _)) ⟨rfl, hM0.keep rfl rfl⟩
    · intro S V a w hp hs hi hR hS hM
      replace hS := hS.to [(7, ptr b7 0)] ⟨rfl, trivial⟩
      have hM0 := hM; replace hM := hM0.low
      exact vy_val rfl (r_loadAll hS hM rfl (j := 0) rfl Tryz.underlying97 rfl sz97 (pC_len _ _)) ⟨rfl, hM0.keep rfl rfl⟩
    · intro S V a w hp hs hi hR hS hM
      replace hS := hS.to [(4, ptr b4 0)] ⟨rfl, trivial⟩
      have hM0 := hM; replace hM := hM0.low
      exact vy_val rfl (r_loadAll hS hM rfl (j := 3) rfl Tryz.underlying97 rfl sz97 (pC_len _ _)) ⟨rfl, hM0.keep rfl rfl⟩
    · intro S V a w hp hs hi hR hS hM
      replace hS := hS.to [(7, ptr b7 0)] ⟨rfl, trivial⟩
      have hM0 := hM; replace hM := hM0.low
      exact vy_val rfl (r_loadAll hS hM rfl (j := 0) rfl Tryz.underlying97 rfl sz97 (pC_len _ _)) ⟨rfl, hM0.keep rfl rfl⟩
    · intro S V a w hp hs hi hR hS hM
      have h3 : V 3 = .agg (pC true p).toArray := hR 3 rfl
      have h4 : V 4 = .agg (pC true baseP).toArray := hR 4 rfl
      replace hS := hS.to [(16, .agg (pC true p).toArray), (17, .agg (pC true baseP).toArray)] ⟨congrArg some h3, congrArg some h4, trivial⟩
      have hM0 := hM; replace hM := hM0.low
      exact vy_pureA hS rfl (padd_ok _ _ _) fun w' hm => ⟨rfl, (hM0.after hm).keep rfl rfl⟩
    · intro S V a w hp hs hi hR hS hM
      have h0 : V 0 = .agg (pC true zeroP).toArray := hR 0 rfl
      have h1 : V 1 = .agg (pC true p).toArray := hR 1 rfl
      have h2 : V 2 = .agg (pC true baseP).toArray := hR 2 rfl
      have h5 : V 5 = .agg (pC true (addP p baseP)).toArray := hR 5 rfl
      replace hS := hS.to [(13, .agg (pC true zeroP).toArray), (14, .agg (pC true p).toArray), (15, .agg (pC true baseP).toArray), (18, .agg (pC true (addP p baseP)).toArray)] ⟨congrArg some h0, congrArg some h1, congrArg some h2, congrArg some h5, trivial⟩
      have hM0 := hM; replace hM := hM0.low
      exact vy_val rfl (r_build hS rfl (rowbld _ _ _ _)) ⟨rfl, hM0.keep rfl rfl⟩
    · intro S V a w hp hs hi hR hS hM
      exact vy_alloc zero397 hM.low fun b w' hb hM' => ⟨⟨b, hb, rfl⟩, AL.made0 hb hM'⟩
  clear hS hM; intro V a w hR hS hM
  obtain ⟨b8, hb8, v7⟩ : ∃ b, w0.heap.size ≤ b ∧ V 7 = ptr b 0 := hR 7 (by decide)
  have v0 : V 0 = .agg (pC true zeroP).toArray := hR 0 (by decide)
  have v1 : V 1 = .agg (pC true p).toArray := hR 1 (by decide)
  have v2 : V 2 = .agg (pC true baseP).toArray := hR 2 (by decide)
  have v3 : V 3 = .agg (pC true p).toArray := hR 3 (by decide)
  have v4 : V 4 = .agg (pC true baseP).toArray := hR 4 (by decide)
  have v5 : V 5 = .agg (pC true (addP p baseP)).toArray := hR 5 (by decide)
  have v6 : V 6 = .agg (rowP p).toArray := hR 6 (by decide)
  replace hS := hS.to [(8, ptr b8 0), (13, .agg (pC true zeroP).toArray), (14, .agg (pC true p).toArray), (15, .agg (pC true baseP).toArray), (16, .agg (pC true p).toArray), (17, .agg (pC true baseP).toArray), (18, .agg (pC true (addP p baseP)).toArray), (19, .agg (rowP p).toArray), (4, ptr b4 0), (7, ptr b7 0), (3, ptr b3 0), (5, ptr b5 0), (6, ptr b6 0)] ⟨congrArg some v7, congrArg some v0, congrArg some v1, congrArg some v2, congrArg some v3, congrArg some v4, congrArg some v5, congrArg some v6, rfl, rfl, rfl, rfl, rfl, trivial⟩
  replace hM := (hM.stop0 rfl rfl).2; rw [v7] at hM; replace hM : Mem w0 w (⟨b8, 397, rowZ⟩ :: [⟨b7, 97, pC true baseP⟩, ⟨b6, 97, pC false nilP⟩, ⟨b5, 27, cB 32 g⟩, ⟨b4, 97, pC true p⟩, ⟨b3, 27, cB 32 f⟩]) := hM
  clear hR v0 v1 v2 v3 v4 v5 v6 v7
  refine s_storeAll hS hM rfl rfl (j := 0) rfl sz397 (rowP_len _) (by first | exact rowZ_len | exact rowP_len _) (rowP_one _) ?_; clear hS hM; intro a w hS hM
  refine s_nil <| k_seq <| c_seq <| c_region ?_
  refine s_pure hS hM (by decide) rfl (pzero_ok _) ?_; clear hS hM; intro a w hS hM
  refine s_alloc hS hM (by decide) zero97 ?_; clear hS hM; intro a b9 w hb9 hS hM
  refine s_storeAll hS hM rfl rfl (j := 0) rfl sz97 (pC_len _ _) (pC_len _ _) (pC_one _ _) ?_; clear hS hM; intro a w hS hM
  refine s_nil <| k_seq <| c_seq <| c_seq <| c_region ?_
  refine vg hS <| vv (r_assign · (show ev _ _ = some (N 255) from rfl)) ?_; clear hS; intro a hS
  refine s_nil <| k_seq <| c_block ?_
  refine c_loop (σ := Nat) (fun k a w => (k ≤ 256) ∧ Slots a 43 (env [(3, ptr b3 0), (5, ptr b5 0), (6, ptr b6 0), (8, ptr b8 0), (9, ptr b9 0), (10, .int .i64 (255 - (k : Int)))]) ∧ Mem w0 w ([⟨b9, 97, pC true (twoP (natB f 32) (natB g 32) p k)⟩, ⟨b8, 397, rowP p⟩, ⟨b7, 97, pC true baseP⟩, ⟨b6, 97, pC false nilP⟩, ⟨b5, 27, cB 32 g⟩, ⟨b4, 97, pC true p⟩, ⟨b3, 27, cB 32 f⟩])) (fun k => 256 - k) (0) ⟨by omega, hS.to _ ⟨rfl, rfl, rfl, rfl, rfl, rfl, trivial⟩, (hM.congr (by rw [twoP]; rfl))⟩ ?_
  clear hS hM; rintro k a w ⟨hk, hS, hM⟩
  refine c_seq <| c_seq <| c_region ?_
  refine vg hS <| vm rfl <| vv (r_bv · rfl (show ev _ _ = some (.int .i64 (0)) from rfl) gZ (b_geqZ _ _ _)) ?_; clear hS; intro a hS
  refine s_nil <| k_seq ?_
  refine c_cond hS rfl (fun hc => ?_) (fun hc => ?_)
  · have hk1 := of_decide_eq_true hc; have hk2 : k ≤ 255 := (by omega); rw [show (255 : Int) - (k : Int) = ((255 - k : Nat) : Int) by omega] at hS; have hA := bitZ_le f ((255 - k : Nat) : Int); have hB := bitZ_le g ((255 - k : Nat) : Int)
    refine c_skip <| k_seq <| c_seq <| c_block <| c_seq <| c_region ?_
    refine vg hS <| vv (r_loadAll · hM rfl (j := 0) rfl Tryz.underlying97 rfl sz97 (pC_len _ _)) ?_; clear hS; intro a hS
    refine s_pure hS hM (by decide) rfl (double_ok _ _) ?_; clear hS hM; intro a w hS hM
    refine s_storeAll hS hM rfl rfl (j := 0) rfl sz97 (pC_len _ _) (pC_len _ _) (pC_one _ _) ?_; clear hS hM; intro a w hS hM
    refine s_nil <| k_seq <| c_seq ?_
    refine c_plan 9 (fun w => Mem w0 w _) [(3, _), (10, _), (5, _), (6, _), (8, _), (9, _), (21, _), (22, _), (25, _), (26, _)] (by kernel_rfl) (by kernel_rfl) hS ⟨rfl, rfl, rfl, rfl, rfl, rfl, rfl, rfl, rfl, rfl, trivial⟩ (hM.drawn _) ?_; clear hS hM
    refine pv rfl (fun hS hM => r_loadAll hS hM rfl (j := 6) rfl Tryz.underlying27 rfl sz27 cells_len) <| pv rfl (fun hS _ => r_move hS rfl) ?_
    refine p_step rfl (fun a w hS hM => y_call (by kernel_rfl) hS rfl ((Bit_ok _ _ _).mem hM)) ?_
    refine pv rfl (fun hS hM => r_loadAll hS hM rfl (j := 4) rfl Tryz.underlying27 rfl sz27 cells_len) <| pv rfl (fun hS _ => r_move hS rfl) ?_
    refine p_step rfl (fun a w hS hM => y_call (by kernel_rfl) hS rfl ((Bit_ok _ _ _).mem hM)) ?_
    refine pv rfl (fun hS _ => r_bv hS (show ev _ _ = some (N 2) from rfl) rfl gN (b_mulN _ _ _ (by omega))) <| pv rfl (fun hS _ => r_bv hS rfl rfl gN (b_addN _ _ _ (by omega))) <| pv rfl (fun hS _ => r_assign hS rfl) ?_
    refine p_nil rfl ?_; intro a w hS hM
    rw [twoK_eq _ _ hk2] at hS
    have htk := twoK_lt (natB f 32) (natB g 32) k
    refine s_nil <| k_seq <| c_seq <| c_region ?_
    refine vg hS <| vm rfl <| vv (r_bv · rfl (show ev _ _ = some (N 0) from rfl) gN (b_gtrN _ _ _)) ?_; clear hS; intro a hS
    refine s_nil <| k_seq ?_
    refine c_cond hS rfl (fun hc => ?_) (fun hc => ?_)
    · have hk3 : 0 < twoK (natB f 32) (natB g 32) k := of_decide_eq_true hc; obtain ⟨pre, post, hcs, hoff⟩ := rowP_at p htk
      refine c_plan 5 (fun w => Mem w0 w _) [(9, _), (11, _), (8, _), (3, _), (5, _), (6, _), (10, _), (21, _), (22, _), (25, _), (26, _), (27, _), (28, _), (29, _), (30, _), (31, _), (32, _), (33, _), (34, _), (35, _), (36, _)] (by kernel_rfl) (by kernel_rfl) hS ⟨rfl, rfl, rfl, rfl, rfl, rfl, rfl, rfl, rfl, rfl, rfl, rfl, rfl, rfl, rfl, rfl, rfl, rfl, rfl, rfl, rfl, trivial⟩ (hM.drawn _) ?_; clear hS hM
      refine pv rfl (fun hS hM => r_loadAll hS hM rfl (j := 0) rfl Tryz.underlying97 rfl sz97 (pC_len _ _)) <| pv rfl (fun hS _ => r_move hS rfl) <| pv rfl (fun hS _ => r_index0z hS rfl rfl Tryz.underlying397 sz97 htk) <| pv rfl (fun hS hM => r_loadSub hS hM rfl (j := 1) rfl hcs (hoff.trans (Nat.mul_comm _ _)) Tryz.underlying97 rfl (by rw [pC_len]; exact sz97)) ?_
      refine p_step rfl (fun a w hS hM => y_call (by kernel_rfl) hS rfl ((padd_ok _ _ _).mem hM)) ?_
      refine p_nil rfl ?_; intro a w hS hM
      refine s_storeAll hS hM rfl rfl (j := 0) rfl sz97 (pC_len _ _) (pC_len _ _) (pC_one _ _) ?_; clear hS hM; intro a w hS hM
      refine s_nil <| k_in <| k_seq <| c_region ?_
      refine vg hS <| vm rfl <| vv (r_bv · rfl (show ev _ _ = some (.int .i64 (1)) from rfl) gZ (b_subZ _ _ _ (by omega))) <| va rfl ?_; clear hS; intro a hS
      refine s_nil <| k_then ?_
      refine ⟨k + 1, by omega, by omega, hS.to _ ⟨rfl, rfl, rfl, rfl, rfl, congrArg (fun q => some (Value.int .i64 q)) (by omega), trivial⟩, (by first | exact hM.congr (by rw [twoP_some hk3]; rfl) | exact hM.congr (by rw [twoP_none hk3]; rfl))⟩
    · have hk3 : ¬ 0 < twoK (natB f 32) (natB g 32) k := of_decide_eq_false hc
      refine c_skip <| k_in <| k_seq <| c_region ?_
      refine vg hS <| vm rfl <| vv (r_bv · rfl (show ev _ _ = some (.int .i64 (1)) from rfl) gZ (b_subZ _ _ _ (by omega))) <| va rfl ?_; clear hS; intro a hS
      refine s_nil <| k_then ?_
      refine ⟨k + 1, by omega, by omega, hS.to _ ⟨rfl, rfl, rfl, rfl, rfl, congrArg (fun q => some (Value.int .i64 q)) (by omega), trivial⟩, (by first | exact hM.congr (by rw [twoP_some hk3]; rfl) | exact hM.congr (by rw [twoP_none hk3]; rfl))⟩
  · obtain rfl : k = 256 := by have := of_decide_eq_false hc; omega
    refine c_exit <| k_thenx <| k_thenx <| k_inx <| k_seq <| c_seq <| c_region ?_
    refine vg hS <| vv (r_loadAll · hM rfl (j := 0) rfl Tryz.underlying97 rfl sz97 (pC_len _ _)) ?_; clear hS; intro a hS
    refine s_storeAll hS hM rfl rfl (j := 3) rfl sz97 (pC_len _ _) (pC_len _ _) (pC_one _ _) ?_; clear hS hM; intro a w hS hM
    refine s_nil <| k_seq <| c_ret ?_
    exact k_res1 hS rfl (RV.row rfl (hM.have_ _ (mem_of_get (j := 3) rfl)) Tryz.underlying97 rfl (by rw [sz97]; exact congrArg some (pC_len _ _).symm)) ⟨rfl, hM.done ⟨hb9, hb8, hb7, hb6, hb5, hb4, hb3, trivial⟩⟩
end Go.Proofs.YtgmieahcpkcabaaGreat
namespace Go.Proofs.YtgmieahcpkcabaaGreat
open Go Go.Sym Go.Ev Go.RowKit
set_option linter.unusedSectionVars false
noncomputable section
def den : Ob → PS
  | .op0 n => mulP n baseP 256
  | .op1 0 o => negP (den o)
  | .op1 _ (.op0 n) => decP (byt n)
  | .op3 _ (.op0 a) o (.op0 b) => twoP a b (den o) 256
  | _ => zeroP
def denC : Ob → NP
  | .op0 n => mulC n baseC 256
  | .op1 0 o => negN (denC o)
  | .op1 _ (.op0 n) => decC (n % 2 ^ 256)
  | .op3 _ (.op0 a) o (.op0 b) => twoC a b (denC o) 256
  | _ => zeroN
theorem dec_at (n : Nat) : PW (decP (byt n)) (decC (n % 2 ^ 256)) := by
  have := PW.dec (byt n)
  rwa [natB_byt] at this
theorem den_pw : ∀ o, PW (den o) (denC o)
  | .var i => by unfold den denC; exact .zero
  | .op0 n => by unfold den denC; exact PW.base.mul n 256
  | .op1 0 o => by unfold den denC; exact (den_pw o).neg
  | .op1 (_ + 1) (.op0 n) => by unfold den denC; exact dec_at n
  | .op1 (_ + 1) (.var _) => by unfold den denC; exact .zero
  | .op1 (_ + 1) (.op1 _ _) => by unfold den denC; exact .zero
  | .op1 (_ + 1) (.op2 _ _ _) => by unfold den denC; exact .zero
  | .op1 (_ + 1) (.op3 _ _ _ _) => by unfold den denC; exact .zero
  | .op2 _ _ _ => by unfold den denC; exact .zero
  | .op3 _ a o b => by
    have ih := den_pw o
    unfold den denC
    cases a with
    | op0 n => cases b with
      | op0 m => exact ih.two n m 256
      | _ => exact .zero
    | _ => exact .zero
def vlV (o : Ob) (k : Nat) : Value := (pC true (den o)).getD k (.bool true)
theorem vlV_at (o : Ob) {k : Nat} (h : k < 21) : (pC true (den o))[k]? = some (vlV o k) := by
  unfold vlV
  rw [List.getD_eq_getElem?_getD, List.getElem?_eq_getElem (by rw [pC_len]; exact h)]; rfl
instance vl : Vl where
  v := vlV
  one o k := by
    by_cases h : k < 21
    · exact pC_one true (den o) _ (List.mem_of_getElem? (vlV_at o h))
    · unfold vlV
      rw [List.getD_eq_getElem?_getD, List.getElem?_eq_none (by rw [pC_len]; omega)]; rfl
theorem vl_row (o : Ob) : ((List.range 21).map fun i => Vl.v o (0 + i)) = pC true (den o) := by
  apply List.ext_getElem?
  intro i
  rw [List.getElem?_map]
  by_cases h : i < 21
  · rw [List.getElem?_range h, vlV_at o h, Option.map_some, Nat.zero_add]; rfl
  · rw [List.getElem?_eq_none (by rw [List.length_range]; omega), List.getElem?_eq_none (by rw [pC_len]; omega)]; rfl
def ptV (o : Ob) : V := .agg (syC o 0 21)
variable {bs : Nm}
theorem pt_vr (o : Ob) : VR bs (ptV o) (.agg (pC true (den o)).toArray) := ⟨_, syC_ok 21 0, by rw [vl_row]⟩
theorem pt_of {l : List C} {o : Ob} {u : Value} (h : whole 21 l = some o) (hv : VR bs (.agg l) u) : u = .agg (pC true (den o)).toArray := by
  obtain ⟨vs, h1, rfl⟩ := hv
  rw [whole_ok h] at h1
  rw [syC_vs h1, vl_row]
def bytesN (n : Nat) (l : List C) : Option (List Nat) := match bytesL l with
  | some bl => bif Nat.beq bl.length n then some bl else none
  | none => none
theorem bytesN_ok {n : Nat} {l : List C} {bl : List Nat} {u : Value} (h : bytesN n l = some bl) (hv : VR bs (.agg l) u) : u = .agg (cB n (fnL bl)).toArray ∧ natB (fnL bl) n = natL bl := by
  unfold bytesN at h
  split at h
  · rename_i bl' hb
    obtain ⟨h1, h2⟩ := bcond h
    subst h2
    have hl := beq_eq h1
    rw [bytes_agg hb hv, hl]
    exact ⟨rfl, natL_eq _ _ (bytesL_lt hb) hl.symm⟩
  · cases h
theorem vs1 {x : V} {vs : List Value} (h : VsR bs [x] vs) : ∃ u, vs = [u] ∧ VR bs x u := by
  match vs, h with
  | [u], ⟨h1, _⟩ => exact ⟨u, rfl, h1⟩
theorem vs2 {x y : V} {vs : List Value} (h : VsR bs [x, y] vs) : ∃ u v, vs = [u, v] ∧ VR bs x u ∧ VR bs y v := by
  match vs, h with
  | [u, v], ⟨h1, h2, _⟩ => exact ⟨u, v, rfl, h1, h2⟩
theorem vs3 {x y z : V} {vs : List Value} (h : VsR bs [x, y, z] vs) : ∃ u v t, vs = [u, v, t] ∧ VR bs x u ∧ VR bs y v ∧ VR bs z t := by
  match vs, h with
  | [u, v, t], ⟨h1, h2, h3, _⟩ => exact ⟨u, v, t, rfl, h1, h2, h3⟩
def gBase : List V → Option V
  | [.agg l] => match bytesN 32 l with
    | some bl => some (ptV (.op0 (natL bl)))
    | none => none
  | _ => none
theorem gBase_ok : PureF Tryz.prog 37 gBase := by
  intro xs v he bs vs w ha
  unfold gBase at he
  split at he
  · split at he
    · rename_i bl hb
      cases he
      obtain ⟨u, rfl, h1⟩ := vs1 ha
      obtain ⟨rfl, h2⟩ := bytesN_ok hb h1
      refine ⟨_, mbase_ok (fnL bl) w, ?_⟩
      rw [h2]
      exact pt_vr (.op0 (natL bl))
    · cases he
  · cases he
def gEnc : List V → Option V
  | [.agg l] => match whole 21 l with
    | some o => some (.agg (byC (outL (encC (denC o)) 32)))
    | none => none
  | _ => none
theorem gEnc_ok : PureF Tryz.prog 38 gEnc := by
  intro xs v he bs vs w ha
  unfold gEnc at he
  split at he
  · split at he
    · rename_i o hb
      cases he
      obtain ⟨u, rfl, h1⟩ := vs1 ha
      rw [pt_of hb h1]
      have hp := den_pw o
      refine ⟨_, encode_ok (den o) hp.ok w, ?_⟩
      rw [cB_congr fun i hi => encC_ok hp hi]
      exact out_vr 32 _
    · cases he
  · cases he
def gNeg : List V → Option V
  | [.agg l] => match whole 21 l with
    | some o => some (ptV (.op1 0 o))
    | none => none
  | _ => none
theorem gNeg_ok : PureF Tryz.prog 304 gNeg := by
  intro xs v he bs vs w ha
  unfold gNeg at he
  split at he
  · split at he
    · rename_i o hb
      cases he
      obtain ⟨u, rfl, h1⟩ := vs1 ha
      rw [pt_of hb h1]
      refine ⟨_, pneg_ok (den o) w, ?_⟩
      have : negP (den o) = den (.op1 0 o) := by rw [den]
      rw [this]
      exact pt_vr (.op1 0 o)
    · cases he
  · cases he
def gTwo : List V → Option V
  | [.agg a, .agg l, .agg b] => match bytesN 32 a, whole 21 l, bytesN 32 b with
    | some al, some o, some bl => some (ptV (.op3 0 (.op0 (natL al)) o (.op0 (natL bl))))
    | _, _, _ => none
  | _ => none
theorem gTwo_ok : PureF Tryz.prog 303 gTwo := by
  intro xs v he bs vs w ha
  unfold gTwo at he
  split at he
  · split at he
    · rename_i al o bl h1 h2 h3
      cases he
      obtain ⟨u1, u2, u3, rfl, k1, k2, k3⟩ := vs3 ha
      obtain ⟨rfl, e1⟩ := bytesN_ok h1 k1
      obtain ⟨rfl, e3⟩ := bytesN_ok h3 k3
      rw [pt_of h2 k2]
      refine ⟨_, mtwo_ok (fnL al) (den o) (fnL bl) w, ?_⟩
      rw [e1, e3]
      have : twoP (natL al) (natL bl) (den o) 256 = den (.op3 0 (.op0 (natL al)) o (.op0 (natL bl))) := by rw [den]
      rw [this]
      exact pt_vr _
    · cases he
  · cases he
theorem decP_like {f g : Nat → BitVec 8} (h : ∀ i, i < 32 → f i = g i) : decP f = decP g := by
  unfold decP
  rw [natB_congr h, h 31 (by decide)]
theorem dec_yes (f : Nat → BitVec 8) (h : decB (natB f 32) = true) (w : World) : Pure Tryz.prog 301 #[.agg (cB 32 f).toArray] w (.tuple #[.agg (pC true (decP f)).toArray, .bool true]) := by
  obtain ⟨hcan, hok, hz⟩ := decB_ok h
  have hr := root_tw (Tw.read f)
  have hok' : (rootX (limb51 (natB f 32))).2 = true := hr.2.trans hok
  unfold decP
  by_cases ho : f 31 &&& 128#8 = 0#8
  · rw [if_pos ho]
    exact dec_c f hok' hcan ho w
  · rw [if_neg ho]
    refine dec_e f hok' hcan ho (fun hx => hz ?_ (hr.1.eq.symm.trans hx)) w
    have := mt (odd_top f).2 ho; omega
theorem den_dec (n : Nat) : den (.op1 1 (.op0 n)) = decP (byt n) := by
  rw [den]
  intro h; cases h
def gDec : List V → Option V
  | [.agg l] => match bytesN 32 l with
    | some bl => bif decB (natL bl) then some (.tup [.agg (syC (.op1 1 (.op0 (natL bl))) 0 21), .c (.bool true)]) else none
    | none => none
  | _ => none
theorem gDec_ok : PureF Tryz.prog 301 gDec := by
  intro xs v he bs vs w ha
  unfold gDec at he
  split at he
  · split at he
    · rename_i bl hb
      obtain ⟨hd, he⟩ := bcond he
      subst he
      obtain ⟨u, rfl, h1⟩ := vs1 ha
      obtain ⟨rfl, h2⟩ := bytesN_ok hb h1
      refine ⟨_, dec_yes (fnL bl) (by rw [h2]; exact hd) w, ?_⟩
      have e : decP (fnL bl) = den (.op1 1 (.op0 (natL bl))) := by
        rw [den_dec]
        exact decP_like fun i hi => by rw [← h2, byt_natB _ _ _ hi]
      rw [e]
      exact ⟨[_, _], ⟨pt_vr (.op1 1 (.op0 (natL bl))), rfl, trivial⟩, rfl⟩
    · cases he
  · cases he
def gRed : List V → Option V
  | [.agg l] => match bytesN 64 l with
    | some bl => some (.agg (byC (outL (natL bl % ordL) 32)))
    | none => none
  | _ => none
theorem gRed_ok : PureF Tryz.prog 134 gRed := by
  intro xs v he bs vs w ha
  unfold gRed at he
  split at he
  · split at he
    · rename_i bl hb
      cases he
      obtain ⟨u, rfl, h1⟩ := vs1 ha
      obtain ⟨rfl, h2⟩ := bytesN_ok hb h1
      refine ⟨_, reduce_ok (fnL bl) w, ?_⟩
      rw [h2]
      exact out_vr 32 _
    · cases he
  · cases he
def gMul : List V → Option V
  | [.agg a, .agg b, .agg c] => match bytesN 32 a, bytesN 32 b, bytesN 32 c with
    | some al, some bl, some cl => some (.agg (byC (outL ((natL al * natL bl + natL cl) % ordL) 32)))
    | _, _, _ => none
  | _ => none
theorem gMul_ok : PureF Tryz.prog 136 gMul := by
  intro xs v he bs vs w ha
  unfold gMul at he
  split at he
  · split at he
    · rename_i al bl cl h1 h2 h3
      cases he
      obtain ⟨u1, u2, u3, rfl, k1, k2, k3⟩ := vs3 ha
      obtain ⟨rfl, e1⟩ := bytesN_ok h1 k1
      obtain ⟨rfl, e2⟩ := bytesN_ok h2 k2
      obtain ⟨rfl, e3⟩ := bytesN_ok h3 k3
      refine ⟨_, mulAdd_ok (fnL al) (fnL bl) (fnL cl) w, ?_⟩
      rw [e1, e2, e3]
      exact out_vr 32 _
    · cases he
  · cases he
def gCan : List V → Option V
  | [.agg l] => match bytesN 32 l with
    | some bl => some (.c (.bool (Nat.blt (natL bl) ordL)))
    | none => none
  | _ => none
theorem gCan_ok : PureF Tryz.prog 302 gCan := by
  intro xs v he bs vs w ha
  unfold gCan at he
  split at he
  · split at he
    · rename_i bl hb
      cases he
      obtain ⟨u, rfl, h1⟩ := vs1 ha
      obtain ⟨rfl, h2⟩ := bytesN_ok hb h1
      refine ⟨_, canonical_ok (fnL bl) w, ?_⟩
      rw [h2]
      show Value.bool _ = Value.bool _
      congr 1
      by_cases h : natL bl < ordL
      · rw [decide_eq_true h, blt_t h]
      · rw [decide_eq_false h, blt_f h]
    · cases he
  · cases he
end
end Go.Proofs.YtgmieahcpkcabaaGreat
