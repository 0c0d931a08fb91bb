import Derived.Test.YtgmieahcpkcabaaGreatBn10
import Derived.Test.YtgmieahcpkcabaaGreatBn9
import Derived.Test.YtgmieahcpkcabaaGreatBn4
namespace Go.Proofs.YtgmieahcpkcabaaGreat
open Go Go.Sym
theorem ext317 : ExtOk Tryz.prog 317 Tryz.f317 subEntry := ⟨Tryz.func317, by kernel_rfl, by kernel_rfl, by kernel_rfl, by kernel_rfl⟩
theorem buildOrd (w : World) : (Instr.build 280 ([(0, U 6346243789798364141#64), (1, U 1503914060200516822#64), (2, U 0#64), (3, U 1152921504606846976#64)] : List (Nat × Value)).toArray).run Tryz.prog w = .ok (.agg (cU 8 (limb ordL)).toArray) w := by kernel_rfl
theorem sz280 : (Tryz.prog.info? 280).map (·.size) = some 8 := by kernel_rfl
theorem zero280 : Zero Tryz.prog 280 (cU 8 (fun _ => 0)) := fun _ => by kernel_rfl
set_option maxRecDepth 100000 in
theorem order_ok  (w0 : World) : Pure Tryz.prog 272 #[] w0 (.agg (cU 8 (limb ordL)).toArray) := by
  refine ⟨by kernel_rfl, ?_⟩
  refine calls_sym Tryz.func272 rfl (by kernel_rfl) ?_
  intro a hS
  have hM : Mem w0 w0 [] := Mem.refl w0
  refine c_seq <| c_region ?_
  refine s_alloc hS hM (by decide) zero280 ?_; clear hS hM; intro a b0 w hb0 hS hM
  refine s_nil <| k_seq <| c_seq <| c_region ?_
  refine vg hS <| vv (r_build · (vs := [(0, U 6346243789798364141#64), (1, U 1503914060200516822#64), (2, U 0#64), (3, U 1152921504606846976#64)]) rfl buildOrd) ?_; clear hS; intro a hS
  refine s_storeAll hS hM rfl rfl (j := 0) rfl sz280 cells_len cells_len cU_one ?_; clear hS hM; intro a w hS hM
  refine s_nil <| k_seq <| c_ret ?_
  exact k_res1 hS rfl (RV.row rfl (hM.have_ _ (mem_of_get (j := 0) rfl)) Tryz.underlying280 rfl (by rw [sz280]; exact congrArg some cells_len.symm)) ⟨rfl, hM.done ⟨hb0, trivial⟩⟩
set_option maxRecDepth 100000 in
theorem of_ok (w0 : World) {v : Value} {m : Nat} {f : Nat → BitVec 8} (hr : Rd w0 v m (fun i => B (f i))) (hm : m ≤ 64) : Pure Tryz.prog 211 #[v] w0 (.agg (cU 8 (limb (natB f m))).toArray) := by
  refine ⟨by kernel_rfl, ?_⟩
  refine calls_sym Tryz.func211 rfl (by kernel_rfl) ?_
  intro a hS
  have hM : Mem w0 w0 [] := Mem.refl w0
  refine c_seq <| c_region ?_
  refine s_alloc hS hM (by decide) zero280 ?_; clear hS hM; intro a b2 w hb2 hS hM
  refine s_nil <| k_seq <| c_seq <| c_region ?_
  refine s_alloc hS hM (by decide) zero280 ?_; clear hS hM; intro a b3 w hb3 hS hM
  refine s_nil <| k_seq <| c_seq <| c_seq <| c_region ?_
  refine vg hS <| vm rfl <| vv (r_lenR · rfl (hr.keepGe hM ⟨hb3, hb2, trivial⟩) Tryz.underlying36) <| vv (r_move · (show ev _ _ = some (N 0) from rfl)) ?_; clear hS; intro a hS
  refine s_nil <| k_seq <| c_block ?_
  refine c_loop (σ := Nat) (fun k a w => (k ≤ m) ∧ Slots a 27 (env [(6, v), (7, N m), (8, N k), (2, ptr b2 0), (3, ptr b3 0)]) ∧ Mem w0 w ([⟨b3, 280, cU 8 (limb (natB f k))⟩, ⟨b2, 280, cU 8 (fun _ => 0)⟩])) (fun k => m - k) (0) ⟨by omega, hS.to _ ⟨rfl, rfl, rfl, rfl, rfl, trivial⟩, (hM.congr (by show _ = [(⟨b3, 280, cU 8 (limb 0)⟩ : Blk), _]; rw [limb_zero]))⟩ ?_
  clear hS hM; rintro k a w ⟨hk, hS, hM⟩
  refine c_seq <| c_region ?_
  refine vg hS <| vv (r_bv · rfl rfl gN (b_lssN _ _ _)) ?_; clear hS; intro a hS
  refine s_nil <| k_seq <| c_seq ?_
  refine c_cond hS rfl (fun hc => ?_) (fun hc => ?_)
  · have hk1 := of_decide_eq_true hc
    refine c_skip <| k_seq <| c_seq <| c_block <| c_seq <| c_region ?_
    refine vg hS <| vm rfl <| vv (r_indexR · rfl (hr.keepGe hM ⟨hb3, hb2, trivial⟩) rfl Tryz.underlying36 sz5 (by omega)) <| vv (r_loadR · rfl (hr.keepGe hM ⟨hb3, hb2, trivial⟩) (by omega) Tryz.underlying5 rfl) <| va rfl <| va rfl ?_; clear hS; intro a hS
    refine s_nil <| k_seq ?_
    refine c_plan 12 (fun w => Mem w0 w _) [(4, _), (3, _), (5, _), (2, _), (6, _), (7, _), (8, _), (9, _), (10, _), (11, _), (12, _)] (by kernel_rfl) (by kernel_rfl) hS ⟨rfl, rfl, rfl, rfl, rfl, rfl, rfl, rfl, rfl, rfl, rfl, trivial⟩ (hM.drawn _) ?_; clear hS hM
    refine pv rfl (fun hS _ => r_move hS rfl) <| pv rfl (fun hS _ => r_bv hS rfl (show ev _ _ = some (N 8) from rfl) gN (b_quoN _ _ _ (by omega) (by omega))) <| pv rfl (fun hS _ => r_index0 hS rfl rfl Tryz.underlying280 sz45 (by omega)) <| pv rfl (fun hS hM => r_load hS hM rfl (j := 0) rfl Tryz.underlying45 rfl (cells_get (by omega))) <| pv rfl (fun hS _ => r_move hS rfl) <| pv rfl (fun hS _ => r_conv hS rfl (by kernel_rfl) Tryz.underlying45 (cv_BU _)) <| pv rfl (fun hS _ => r_move hS rfl) <| pv rfl (fun hS _ => r_bv hS rfl (show ev _ _ = some (N 8) from rfl) gN (b_remN _ _ _ (by omega))) <| pv rfl (fun hS _ => r_bv hS rfl (show ev _ _ = some (N 8) from rfl) gN (b_mulN _ _ _ (by omega))) <| pv rfl (fun hS _ => r_bv hS rfl rfl gU (b_shlU _ _ _ _)) ?_
    refine pv rfl (fun hS _ => r_bv hS rfl rfl gU (b_orU _ _ _)) <| pv rfl (fun hS _ => r_index0 hS rfl rfl Tryz.underlying280 sz45 (by omega)) ?_
    refine p_nil rfl ?_; intro a w hS hM
    refine s_storeU hS hM rfl rfl (j := 0) rfl sz45 (by omega) ?_; clear hS hM; intro a w hS hM
    refine s_nil <| k_in <| k_seq <| c_region ?_
    refine vg hS <| vv (r_bv · rfl (show ev _ _ = some (N 1) from rfl) gN (b_addN _ _ _ (by omega))) <| vm rfl ?_; clear hS; intro a hS
    refine s_nil <| k_then ?_
    refine ⟨k + 1, by omega, by omega, hS.to _ ⟨rfl, rfl, rfl, rfl, rfl, trivial⟩, (hM.congr (by rw [← of_step]; rfl))⟩
  · obtain rfl : k = m := by have := of_decide_eq_false hc; omega
    refine c_exit <| k_thenx <| k_thenx <| k_inx <| k_seq <| c_seq <| c_region ?_
    refine vg hS <| vv (r_loadAll · hM rfl (j := 0) rfl Tryz.underlying280 rfl sz280 cells_len) ?_; clear hS; intro a hS
    refine s_storeAll hS hM rfl rfl (j := 1) rfl sz280 cells_len cells_len cU_one ?_; clear hS hM; intro a w hS hM
    refine s_nil <| k_seq <| c_ret ?_
    exact k_res1 hS rfl (RV.row rfl (hM.have_ _ (mem_of_get (j := 1) rfl)) Tryz.underlying280 rfl (by rw [sz280]; exact congrArg some cells_len.symm)) ⟨rfl, hM.done ⟨hb3, hb2, trivial⟩⟩
set_option maxRecDepth 100000 in
theorem wbytes_ok (n : Nat) (w0 : World) : Pure Tryz.prog 273 #[.agg (cU 8 (limb n)).toArray] w0 (.agg (cB 32 (byt n)).toArray) := by
  refine ⟨by kernel_rfl, ?_⟩
  refine calls_sym Tryz.func273 rfl (by kernel_rfl) ?_
  intro a hS
  have hM : Mem w0 w0 [] := Mem.refl w0
  refine c_seq <| c_region ?_
  refine s_box hS hM (by decide) rfl rfl ?_; clear hS hM; intro a b1 w hb1 hS hM
  refine s_alloc hS hM (by decide) zero27 ?_; clear hS hM; intro a b2 w hb2 hS hM
  refine s_nil <| k_seq <| c_seq <| c_region ?_
  refine s_alloc hS hM (by decide) zero27 ?_; clear hS hM; intro a b3 w hb3 hS hM
  refine s_nil <| k_seq <| c_seq <| c_seq <| c_region ?_
  refine vg hS <| vv (r_move · (show ev _ _ = some (N 0) from rfl)) ?_; clear hS; intro a hS
  refine s_nil <| k_seq <| c_block ?_
  refine c_loop (σ := Nat) (fun k a w => (k ≤ 32) ∧ Slots a 21 (env [(1, ptr b1 0), (5, N k), (2, ptr b2 0), (3, ptr b3 0)]) ∧ Mem w0 w ([⟨b3, 27, cB 32 (fil 0 (byt n) k)⟩, ⟨b2, 27, cB 32 (fun _ => 0)⟩, ⟨b1, 280, cU 8 (limb n)⟩])) (fun k => 32 - k) (0) ⟨by omega, hS.to _ ⟨rfl, rfl, rfl, rfl, trivial⟩, hM⟩ ?_
  clear hS hM; rintro k a w ⟨hk, hS, hM⟩
  refine c_seq <| c_region ?_
  refine vg hS <| vv (r_bv · rfl (show ev _ _ = some (N 32) from rfl) gN (b_lssN _ _ _)) ?_; clear hS; intro a hS
  refine s_nil <| k_seq <| c_seq ?_
  refine c_cond hS rfl (fun hc => ?_) (fun hc => ?_)
  · have hk1 := of_decide_eq_true hc
    refine c_skip <| k_seq <| c_seq <| c_block <| c_seq <| c_region ?_
    refine vg hS <| vm rfl <| va rfl ?_; clear hS; intro a hS
    refine s_nil <| k_seq <| c_region ?_
    refine vg hS <| vm rfl <| vm rfl <| vv (r_bv · rfl (show ev _ _ = some (N 8) from rfl) gN (b_quoN _ _ _ (by omega) (by omega))) <| vv (r_index0 · rfl rfl Tryz.underlying280 sz45 (by omega)) <| vv (r_load · hM rfl (j := 2) rfl Tryz.underlying45 rfl (cells_get (by omega))) <| vm rfl <| vv (r_bv · rfl (show ev _ _ = some (N 8) from rfl) gN (b_remN _ _ _ (by omega))) <| vv (r_bv · rfl (show ev _ _ = some (N 8) from rfl) gN (b_mulN _ _ _ (by omega))) <| vv (r_bv · rfl rfl gU (b_shrU _ _ _ _)) <| vv (r_conv · rfl (by kernel_rfl) Tryz.underlying5 (cv_UB _)) ?_; clear hS; intro a hS
    refine vg hS <| vv (r_index0 · rfl rfl Tryz.underlying27 sz5 (by omega)) ?_; clear hS; intro a hS
    refine s_storeB hS hM rfl rfl (j := 0) rfl sz5 (by omega) ?_; clear hS hM; intro a w hS hM
    refine s_nil <| k_in <| k_seq <| c_region ?_
    refine vg hS <| vv (r_bv · rfl (show ev _ _ = some (N 1) from rfl) gN (b_addN _ _ _ (by omega))) <| vm rfl ?_; clear hS; intro a hS
    refine s_nil <| k_then ?_
    refine ⟨k + 1, by omega, by omega, hS.to _ ⟨rfl, rfl, rfl, rfl, trivial⟩, (hM.congr (by rw [limb_byt]; rfl))⟩
  · obtain rfl : k = 32 := (by have := of_decide_eq_false hc; omega); rw [cB_fil] at hM
    refine c_exit <| k_thenx <| k_thenx <| k_inx <| k_seq <| c_seq <| c_region ?_
    refine vg hS <| vv (r_loadAll · hM rfl (j := 0) rfl Tryz.underlying27 rfl sz27 cells_len) ?_; clear hS; intro a hS
    refine s_storeAll hS hM rfl rfl (j := 1) rfl sz27 cells_len cells_len cB_one ?_; clear hS hM; intro a w hS hM
    refine s_nil <| k_seq <| c_ret ?_
    exact k_res1 hS rfl (RV.row rfl (hM.have_ _ (mem_of_get (j := 1) rfl)) Tryz.underlying27 rfl (by rw [sz27]; exact congrArg some cells_len.symm)) ⟨rfl, hM.done ⟨hb3, hb2, hb1, trivial⟩⟩
set_option maxRecDepth 100000 in
theorem bit_ok (n i : Nat) (_hi : i < 512) (w0 : World) : Pure Tryz.prog 270 #[.agg (cU 8 (limb n)).toArray, N i] w0 (U (limb n (i / 64) >>> (i % 64) &&& 1#64)) := by
  refine ⟨by kernel_rfl, ?_⟩
  refine calls_sym Tryz.func270 rfl (by kernel_rfl) ?_
  intro a hS
  have hM : Mem w0 w0 [] := Mem.refl w0
  refine c_seq <| c_region ?_
  refine s_box hS hM (by decide) rfl rfl ?_; clear hS hM; intro a b2 w hb2 hS hM
  refine vg hS <| vv (r_assign · (show ev _ _ = some (U 0#64) from rfl)) ?_; clear hS; intro a hS
  refine s_nil <| k_seq <| c_seq <| c_region ?_
  refine vg hS <| vm rfl <| vv (r_bv · rfl (show ev _ _ = some (N 64) from rfl) gN (b_quoN _ _ _ (by omega) (by omega))) <| vv (r_index0 · rfl rfl Tryz.underlying280 sz45 (by omega)) <| vv (r_load · hM rfl (j := 0) rfl Tryz.underlying45 rfl (cells_get (by omega))) <| vm rfl <| vv (r_bv · rfl (show ev _ _ = some (N 64) from rfl) gN (b_remN _ _ _ (by omega))) <| vv (r_bv · rfl rfl gU (b_shrU _ _ _ _)) <| vv (r_bv · rfl (show ev _ _ = some (U 1#64) from rfl) gU (b_andU _ _ _)) <| va rfl ?_; clear hS; intro a hS
  refine s_nil <| k_seq <| c_ret ?_
  exact k_res1 hS rfl (RV.tmp rfl) ⟨rfl, hM.done ⟨hb2, trivial⟩⟩
set_option maxRecDepth 100000 in
theorem and_ok (x y : Nat) (w0 : World) : Pure Tryz.prog 214 #[.agg (cU 8 (limb x)).toArray, .agg (cU 8 (limb y)).toArray] w0 (.agg (cU 8 (limb (x + y))).toArray) := by
  refine ⟨by kernel_rfl, ?_⟩
  refine calls_sym Tryz.func214 rfl (by kernel_rfl) ?_
  intro a hS
  have hM : Mem w0 w0 [] := Mem.refl w0
  refine c_seq <| c_region ?_
  refine s_box hS hM (by decide) rfl rfl ?_; clear hS hM; intro a b2 w hb2 hS hM
  refine s_box hS hM (by decide) rfl rfl ?_; clear hS hM; intro a b3 w hb3 hS hM
  refine s_alloc hS hM (by decide) zero280 ?_; clear hS hM; intro a b4 w hb4 hS hM
  refine s_nil <| k_seq <| c_seq <| c_region ?_
  refine vg hS <| vv (r_assign · (show ev _ _ = some (U 0#64) from rfl)) ?_; clear hS; intro a hS
  refine s_nil <| k_seq <| c_seq <| c_seq <| c_region ?_
  refine vg hS <| vv (r_move · (show ev _ _ = some (N 0) from rfl)) ?_; clear hS; intro a hS
  refine s_nil <| k_seq <| c_block ?_
  refine c_loop (σ := Nat) (fun k a w => (k ≤ 8) ∧ Slots a 25 (env [(2, ptr b2 0), (3, ptr b3 0), (4, ptr b4 0), (5, U (BitVec.ofNat 64 (carryOf x y k))), (7, N k)]) ∧ Mem w0 w ([⟨b4, 280, cU 8 (fun _ => 0)⟩, ⟨b3, 280, cU 8 (limb y)⟩, ⟨b2, 280, cU 8 (mixL (x + y) x k)⟩])) (fun k => 8 - k) (0) ⟨by omega, hS.to _ ⟨rfl, rfl, rfl, congrArg (fun v => some (U v)) (by rw [carryOf_zero]), rfl, trivial⟩, (by rw [mixL_zero]; exact hM)⟩ ?_
  clear hS hM; rintro k a w ⟨hk, hS, hM⟩
  refine c_seq <| c_region ?_
  refine vg hS <| vv (r_bv · rfl (show ev _ _ = some (N 8) from rfl) gN (b_lssN _ _ _)) ?_; clear hS; intro a hS
  refine s_nil <| k_seq <| c_seq ?_
  refine c_cond hS rfl (fun hc => ?_) (fun hc => ?_)
  · have hk1 := of_decide_eq_true hc
    refine c_skip <| k_seq <| c_seq <| c_block <| c_seq <| c_region ?_
    refine vg hS <| vm rfl <| va rfl ?_; clear hS; intro a hS
    refine s_nil <| k_seq ?_
    refine c_two 14 13 (fun i => Nat.beq i 11) (fun w => Mem w0 w _) [(6, _), (2, _), (3, _), (5, _), (4, _), (7, _), (8, _), (9, _)] (by kernel_rfl) (by kernel_rfl) hS ⟨rfl, rfl, rfl, rfl, rfl, rfl, rfl, rfl, trivial⟩ (hM.drawn _) ?_; clear hS hM
    refine t_step rfl rfl rfl (fun a w hS hM => y_val rfl (r_move hS rfl)) ?_
    refine t_step rfl rfl rfl (fun a w hS hM => y_val rfl (r_move hS rfl)) ?_
    refine t_step rfl rfl rfl (fun a w hS hM => y_val rfl (r_index0 hS rfl rfl Tryz.underlying280 sz45 (by omega))) ?_
    refine t_step rfl rfl rfl (fun a w hS hM => y_val rfl (r_load hS hM rfl (j := 2) rfl Tryz.underlying45 rfl (cells_get (by omega)))) ?_
    refine t_step rfl rfl rfl (fun a w hS hM => y_val rfl (r_move hS rfl)) ?_
    refine t_step rfl rfl rfl (fun a w hS hM => y_val rfl (r_index0 hS rfl rfl Tryz.underlying280 sz45 (by omega))) ?_
    refine t_step rfl rfl rfl (fun a w hS hM => y_val rfl (r_load hS hM rfl (j := 1) rfl Tryz.underlying45 rfl (cells_get (by omega)))) ?_
    refine t_step rfl rfl rfl (fun a w hS hM => y_val rfl (r_move hS rfl)) ?_
    refine t_step rfl rfl rfl (fun a w hS hM => y_val rfl (r_ext ext275 hS rfl (run_add _ _ _ (by rw [carry_bv]; exact carryOf_le _ _ _)))) ?_
    refine t_step rfl rfl rfl (fun a w hS hM => y_val rfl (r_move hS rfl)) ?_
    refine t_step rfl rfl rfl (fun a w hS hM => y_val rfl (r_extract hS rfl rfl)) ?_
    refine t_float rfl rfl rfl rfl (fun a w hS => (r_extract hS rfl rfl)) ?_
    refine t_step rfl rfl rfl (fun a w hS hM => y_val rfl (r_index0 hS rfl rfl Tryz.underlying280 sz45 (by omega))) ?_
    refine t_write rfl rfl rfl rfl (fun a w hS hM => e_storeU hS hM rfl rfl (j := 2) rfl sz45 (by omega)) ?_
    refine p_nil rfl ?_; intro a w hS hM
    refine vg hS <| va rfl ?_; clear hS; intro a hS
    refine s_nil <| k_in <| k_seq <| c_region ?_
    refine vg hS <| vv (r_bv · rfl (show ev _ _ = some (N 1) from rfl) gN (b_addN _ _ _ (by omega))) <| vm rfl ?_; clear hS; intro a hS
    refine s_nil <| k_then ?_
    refine ⟨k + 1, by omega, by omega, hS.to _ ⟨rfl, rfl, rfl, congrArg (fun v => some (U v)) (sum_carry x y k), rfl, trivial⟩, (hM.congr (by rw [← sum_step]; rfl))⟩
  · obtain rfl : k = 8 := (by have := of_decide_eq_false hc; omega); rw [cU_mixL] at hM
    refine c_exit <| k_thenx <| k_thenx <| k_inx <| k_seq <| c_seq <| c_region ?_
    refine vg hS <| vv (r_loadAll · hM rfl (j := 2) rfl Tryz.underlying280 rfl sz280 cells_len) ?_; clear hS; intro a hS
    refine s_storeAll hS hM rfl rfl (j := 0) rfl sz280 cells_len cells_len cU_one ?_; clear hS hM; intro a w hS hM
    refine s_nil <| k_seq <| c_ret ?_
    exact k_res1 hS rfl (RV.row rfl (hM.have_ _ (mem_of_get (j := 0) rfl)) Tryz.underlying280 rfl (by rw [sz280]; exact congrArg some cells_len.symm)) ⟨rfl, hM.done ⟨hb4, hb3, hb2, trivial⟩⟩
set_option maxRecDepth 100000 in
theorem less_ok (x y : Nat) (hb : y < pwS 8) (w0 : World) : Pure Tryz.prog 271 #[.agg (cU 8 (limb x)).toArray, .agg (cU 8 (limb y)).toArray] w0 (.tuple #[.agg (cU 8 (limb (x + (M512 - y)))).toArray, U (BitVec.ofNat 64 (borrowOf x y 8))]) := by
  refine ⟨by kernel_rfl, ?_⟩
  refine calls_sym Tryz.func271 rfl (by kernel_rfl) ?_
  intro a hS
  have hM : Mem w0 w0 [] := Mem.refl w0
  refine c_seq <| c_region ?_
  refine s_box hS hM (by decide) rfl rfl ?_; clear hS hM; intro a b2 w hb2 hS hM
  refine s_box hS hM (by decide) rfl rfl ?_; clear hS hM; intro a b3 w hb3 hS hM
  refine s_alloc hS hM (by decide) zero280 ?_; clear hS hM; intro a b4 w hb4 hS hM
  refine vg hS <| vv (r_assign · (show ev _ _ = some (U 0#64) from rfl)) ?_; clear hS; intro a hS
  refine s_nil <| k_seq <| c_seq <| c_region ?_
  refine vg hS <| vv (r_assign · (show ev _ _ = some (U 0#64) from rfl)) ?_; clear hS; intro a hS
  refine s_nil <| k_seq <| c_seq <| c_seq <| c_region ?_
  refine vg hS <| vv (r_move · (show ev _ _ = some (N 0) from rfl)) ?_; clear hS; intro a hS
  refine s_nil <| k_seq <| c_block ?_
  refine c_loop (σ := Nat) (fun k a w => (k ≤ 8) ∧ Slots a 27 (env [(2, ptr b2 0), (3, ptr b3 0), (4, ptr b4 0), (6, U (BitVec.ofNat 64 (borrowOf x y k))), (8, N k)]) ∧ Mem w0 w ([⟨b4, 280, cU 8 (fun _ => 0)⟩, ⟨b3, 280, cU 8 (limb y)⟩, ⟨b2, 280, cU 8 (mixL (x + (M512 - y)) x k)⟩])) (fun k => 8 - k) (0) ⟨by omega, hS.to _ ⟨rfl, rfl, rfl, congrArg (fun v => some (U v)) (by rw [borrowOf_zero]), rfl, trivial⟩, (by rw [mixL_zero]; exact hM)⟩ ?_
  clear hS hM; rintro k a w ⟨hk, hS, hM⟩
  refine c_seq <| c_region ?_
  refine vg hS <| vv (r_bv · rfl (show ev _ _ = some (N 8) from rfl) gN (b_lssN _ _ _)) ?_; clear hS; intro a hS
  refine s_nil <| k_seq <| c_seq ?_
  refine c_cond hS rfl (fun hc => ?_) (fun hc => ?_)
  · have hk1 := of_decide_eq_true hc
    refine c_skip <| k_seq <| c_seq <| c_block <| c_seq <| c_region ?_
    refine vg hS <| vm rfl <| va rfl ?_; clear hS; intro a hS
    refine s_nil <| k_seq ?_
    refine c_two 14 13 (fun i => Nat.beq i 11) (fun w => Mem w0 w _) [(7, _), (2, _), (3, _), (6, _), (4, _), (8, _), (9, _), (10, _)] (by kernel_rfl) (by kernel_rfl) hS ⟨rfl, rfl, rfl, rfl, rfl, rfl, rfl, rfl, trivial⟩ (hM.drawn _) ?_; clear hS hM
    refine t_step rfl rfl rfl (fun a w hS hM => y_val rfl (r_move hS rfl)) ?_
    refine t_step rfl rfl rfl (fun a w hS hM => y_val rfl (r_move hS rfl)) ?_
    refine t_step rfl rfl rfl (fun a w hS hM => y_val rfl (r_index0 hS rfl rfl Tryz.underlying280 sz45 (by omega))) ?_
    refine t_step rfl rfl rfl (fun a w hS hM => y_val rfl (r_load hS hM rfl (j := 2) rfl Tryz.underlying45 rfl (cells_get (by omega)))) ?_
    refine t_step rfl rfl rfl (fun a w hS hM => y_val rfl (r_move hS rfl)) ?_
    refine t_step rfl rfl rfl (fun a w hS hM => y_val rfl (r_index0 hS rfl rfl Tryz.underlying280 sz45 (by omega))) ?_
    refine t_step rfl rfl rfl (fun a w hS hM => y_val rfl (r_load hS hM rfl (j := 1) rfl Tryz.underlying45 rfl (cells_get (by omega)))) ?_
    refine t_step rfl rfl rfl (fun a w hS hM => y_val rfl (r_move hS rfl)) ?_
    refine t_step rfl rfl rfl (fun a w hS hM => y_val rfl (r_ext ext317 hS rfl (run_sub _ _ _ (by rw [borrow_bv]; exact borrowOf_le _ _ _)))) ?_
    refine t_step rfl rfl rfl (fun a w hS hM => y_val rfl (r_move hS rfl)) ?_
    refine t_step rfl rfl rfl (fun a w hS hM => y_val rfl (r_extract hS rfl rfl)) ?_
    refine t_float rfl rfl rfl rfl (fun a w hS => (r_extract hS rfl rfl)) ?_
    refine t_step rfl rfl rfl (fun a w hS hM => y_val rfl (r_index0 hS rfl rfl Tryz.underlying280 sz45 (by omega))) ?_
    refine t_write rfl rfl rfl rfl (fun a w hS hM => e_storeU hS hM rfl rfl (j := 2) rfl sz45 (by omega)) ?_
    refine p_nil rfl ?_; intro a w hS hM
    refine vg hS <| va rfl ?_; clear hS; intro a hS
    refine s_nil <| k_in <| k_seq <| c_region ?_
    refine vg hS <| vv (r_bv · rfl (show ev _ _ = some (N 1) from rfl) gN (b_addN _ _ _ (by omega))) <| vm rfl ?_; clear hS; intro a hS
    refine s_nil <| k_then ?_
    refine ⟨k + 1, by omega, by omega, hS.to _ ⟨rfl, rfl, rfl, congrArg (fun v => some (U v)) (diff_borrow x y k hk1 hb), rfl, trivial⟩, (hM.congr (by rw [← diff_step x y k hk1 hb]; rfl))⟩
  · obtain rfl : k = 8 := (by have := of_decide_eq_false hc; omega); rw [cU_mixL] at hM
    refine c_exit <| k_thenx <| k_thenx <| k_inx <| k_seq <| c_seq <| c_region ?_
    refine vg hS <| vv (r_loadAll · hM rfl (j := 2) rfl Tryz.underlying280 rfl sz280 cells_len) <| vm rfl ?_; clear hS; intro a hS
    refine s_storeAll hS hM rfl rfl (j := 0) rfl sz280 cells_len cells_len cU_one ?_; clear hS hM; intro a w hS hM
    refine vg hS <| va rfl ?_; clear hS; intro a hS
    refine s_nil <| k_seq <| c_ret ?_
    exact k_res2 hS rfl (RV.row rfl (hM.have_ _ (mem_of_get (j := 0) rfl)) Tryz.underlying280 rfl (by rw [sz280]; exact congrArg some cells_len.symm)) (RV.tmp rfl) ⟨rfl, hM.done ⟨hb4, hb3, hb2, trivial⟩⟩
set_option maxRecDepth 100000 in
theorem times_ok (x y : Nat) (w0 : World) : Pure Tryz.prog 213 #[.agg (cU 8 (limb x)).toArray, .agg (cU 8 (limb y)).toArray] w0 (.agg (cU 8 (limb ((x % 2 ^ (64 * 4)) * (y % 2 ^ (64 * 4))))).toArray) := by
  refine ⟨by kernel_rfl, ?_⟩
  refine calls_sym Tryz.func213 rfl (by kernel_rfl) ?_
  intro a hS
  have hM : Mem w0 w0 [] := Mem.refl w0
  refine c_seq <| c_region ?_
  refine s_box hS hM (by decide) rfl rfl ?_; clear hS hM; intro a b2 w hb2 hS hM
  refine s_box hS hM (by decide) rfl rfl ?_; clear hS hM; intro a b3 w hb3 hS hM
  refine s_alloc hS hM (by decide) zero280 ?_; clear hS hM; intro a b4 w hb4 hS hM
  refine s_nil <| k_seq <| c_seq <| c_region ?_
  refine s_alloc hS hM (by decide) zero280 ?_; clear hS hM; intro a b5 w hb5 hS hM
  refine s_nil <| k_seq <| c_seq <| c_seq <| c_region ?_
  refine vg hS <| vv (r_move · (show ev _ _ = some (N 0) from rfl)) ?_; clear hS; intro a hS
  refine s_nil <| k_seq <| c_block ?_
  refine c_loop (σ := Nat × (Nat → BitVec 64)) (fun s a w => (s.1 ≤ 4 ∧ TimOut 4 8 x y s.1 s.2) ∧ Slots a 61 (env [(2, ptr b2 0), (3, ptr b3 0), (4, ptr b4 0), (5, ptr b5 0), (12, N s.1)]) ∧ Mem w0 w ([⟨b5, 280, cU 8 s.2⟩, ⟨b4, 280, cU 8 (fun _ => 0)⟩, ⟨b3, 280, cU 8 (limb y)⟩, ⟨b2, 280, cU 8 (limb x)⟩])) (fun s => 4 - s.1) (0, fun _ => 0) ⟨⟨by decide, TimOut.start 4 8 x y⟩, hS.to _ ⟨rfl, rfl, rfl, rfl, rfl, trivial⟩, hM⟩ ?_
  clear hS hM; rintro ⟨i, g⟩ a w ⟨hk, hS, hM⟩
  have hk0 := hk; clear hk; dsimp only at hk0 hS hM
  refine c_seq <| c_region ?_
  refine vg hS <| vv (r_bv · rfl (show ev _ _ = some (N 4) from rfl) gN (b_lssN _ _ _)) ?_; clear hS; intro a hS
  refine s_nil <| k_seq <| c_seq ?_
  refine c_cond hS rfl (fun hc => ?_) (fun hc => ?_)
  · have hk1 := of_decide_eq_true hc
    refine c_skip <| k_seq <| c_seq <| c_block <| c_seq <| c_region ?_
    refine vg hS <| vm rfl <| va rfl ?_; clear hS; intro a hS
    refine s_nil <| k_seq <| c_seq <| c_region ?_
    refine vg hS <| vv (r_assign · (show ev _ _ = some (U 0#64) from rfl)) ?_; clear hS; intro a hS
    refine s_nil <| k_seq <| c_seq <| c_seq <| c_region ?_
    refine vg hS <| vv (r_move · (show ev _ _ = some (N 0) from rfl)) ?_; clear hS; intro a hS
    refine s_nil <| k_seq <| c_block ?_
    refine c_loop (σ := Nat × (Nat → BitVec 64) × BitVec 64) (fun s a w => (s.1 ≤ 4 ∧ TimIn 4 8 x y i s.1 s.2.1 s.2.2) ∧ Slots a 61 (env [(2, ptr b2 0), (3, ptr b3 0), (4, ptr b4 0), (5, ptr b5 0), (6, N i), (7, U s.2.2), (12, N i), (15, N s.1)]) ∧ Mem w0 w ([⟨b5, 280, cU 8 s.2.1⟩, ⟨b4, 280, cU 8 (fun _ => 0)⟩, ⟨b3, 280, cU 8 (limb y)⟩, ⟨b2, 280, cU 8 (limb x)⟩])) (fun s => 4 - s.1) (0, g, 0#64) ⟨⟨Nat.zero_le _, hk0.2.inner⟩, hS.to _ ⟨rfl, rfl, rfl, rfl, rfl, rfl, rfl, rfl, trivial⟩, hM⟩ ?_
    clear hS hM; rintro ⟨j, h, c⟩ a w ⟨hk, hS, hM⟩
    have hk3 := hk; clear hk; dsimp only at hk3 hS hM
    refine c_seq <| c_region ?_
    refine vg hS <| vv (r_bv · rfl (show ev _ _ = some (N 4) from rfl) gN (b_lssN _ _ _)) ?_; clear hS; intro a hS
    refine s_nil <| k_seq <| c_seq ?_
    refine c_cond hS rfl (fun hc => ?_) (fun hc => ?_)
    · have hk2 := of_decide_eq_true hc
      refine c_skip <| k_seq <| c_seq <| c_block <| c_seq <| c_region ?_
      refine vg hS <| vm rfl <| va rfl ?_; clear hS; intro a hS
      refine s_nil <| k_seq <| c_seq ?_
      refine c_plan 12 (fun w => Mem w0 w _) [(6, _), (2, _), (8, _), (3, _), (4, _), (5, _), (7, _), (12, _), (15, _), (16, _), (17, _)] (by kernel_rfl) (by kernel_rfl) hS ⟨rfl, rfl, rfl, rfl, rfl, rfl, rfl, rfl, rfl, rfl, rfl, trivial⟩ (hM.drawn _) ?_; clear hS hM
      refine pv rfl (fun hS _ => r_move hS rfl) <| pv rfl (fun hS _ => r_index0 hS rfl rfl Tryz.underlying280 sz45 (by omega)) <| pv rfl (fun hS hM => r_load hS hM rfl (j := 3) rfl Tryz.underlying45 rfl (cells_get (by omega))) <| pv rfl (fun hS _ => r_move hS rfl) <| pv rfl (fun hS _ => r_index0 hS rfl rfl Tryz.underlying280 sz45 (by omega)) <| pv rfl (fun hS hM => r_load hS hM rfl (j := 2) rfl Tryz.underlying45 rfl (cells_get (by omega))) ?_
      refine p_step rfl (fun a w hS hM => y_call (by kernel_rfl) hS rfl ((mul64_ok _ _ _).mem hM)) ?_
      refine pv rfl (fun hS _ => r_move hS rfl) <| pv rfl (fun hS _ => r_extract hS rfl rfl) <| pv rfl (fun hS _ => r_extract hS rfl rfl) <| pv rfl (fun hS _ => r_assign hS rfl) <| pv rfl (fun hS _ => r_assign hS rfl) ?_
      refine p_nil rfl ?_; intro a w hS hM
      refine s_nil <| k_seq <| c_seq <| c_region ?_
      refine vg hS <| vv (r_assign · (show ev _ _ = some (U 0#64) from rfl)) ?_; clear hS; intro a hS
      refine s_nil <| k_seq <| c_seq <| c_region ?_
      refine vg hS <| vm rfl <| vm rfl <| vv (r_ext ext275 · (vs := [_, _, U 0#64]) rfl (run_add _ _ _ (by decide))) <| vm rfl <| vv (r_extract · rfl rfl) <| vv (r_extract · rfl rfl) <| va rfl <| va rfl ?_; clear hS; intro a hS
      refine s_nil <| k_seq <| c_seq <| c_region ?_
      refine vg hS <| vm rfl <| vm rfl <| vv (r_bv · rfl rfl gU (b_addU _ _ _)) <| va rfl ?_; clear hS; intro a hS
      refine s_nil <| k_seq <| c_seq <| c_region ?_
      refine vg hS <| vm rfl <| vm rfl <| vv (r_bv · rfl rfl gN (b_addN _ _ _ (by omega))) <| vm rfl <| vm rfl <| vv (r_bv · rfl rfl gN (b_addN _ _ _ (by omega))) <| vv (r_index0 · rfl rfl Tryz.underlying280 sz45 (by omega)) <| vv (r_load · hM rfl (j := 0) rfl Tryz.underlying45 rfl (cells_get (by omega))) <| vm rfl <| vv (r_ext ext275 · (vs := [_, _, U 0#64]) rfl (run_add _ _ _ (by decide))) ?_; clear hS; intro a hS
      refine vg hS <| vm rfl <| vv (r_extract · rfl rfl) <| vv (r_extract · rfl rfl) <| vv (r_index0 · rfl rfl Tryz.underlying280 sz45 (by omega)) ?_; clear hS; intro a hS
      refine s_storeU hS hM rfl rfl (j := 0) rfl sz45 (by omega) ?_; clear hS hM; intro a w hS hM
      refine vg hS <| va rfl ?_; clear hS; intro a hS
      refine s_nil <| k_seq <| c_region ?_
      refine vg hS <| vm rfl <| vm rfl <| vv (r_bv · rfl rfl gU (b_addU _ _ _)) <| va rfl ?_; clear hS; intro a hS
      refine s_nil <| k_in <| k_seq <| c_region ?_
      refine vg hS <| vv (r_bv · rfl (show ev _ _ = some (N 1) from rfl) gN (b_addN _ _ _ (by omega))) <| vm rfl ?_; clear hS; intro a hS
      refine s_nil <| k_then ?_
      refine ⟨(j + 1, _, _), (by show 4 - (j + 1) < 4 - j; omega), ⟨by show j + 1 ≤ 4; omega, (hk3.2.step (by omega)).resolve_right (by omega)⟩, hS.to _ ⟨rfl, rfl, rfl, rfl, rfl, rfl, rfl, rfl, trivial⟩, hM⟩
    · obtain rfl : j = 4 := by have := of_decide_eq_false hc; omega
      refine c_exit <| k_thenx <| k_thenx <| k_inx <| k_seq <| c_region ?_
      refine vg hS <| vm rfl <| vv (r_bv · rfl (show ev _ _ = some (N 4) from rfl) gN (b_addN _ _ _ (by omega))) <| vm rfl <| vv (r_index0 · rfl rfl Tryz.underlying280 sz45 (by omega)) ?_; clear hS; intro a hS
      refine s_storeU hS hM rfl rfl (j := 0) rfl sz45 (by omega) ?_; clear hS hM; intro a w hS hM
      refine s_nil <| k_in <| k_seq <| c_region ?_
      refine vg hS <| vv (r_bv · rfl (show ev _ _ = some (N 1) from rfl) gN (b_addN _ _ _ (by omega))) <| vm rfl ?_; clear hS; intro a hS
      refine s_nil <| k_then ?_
      refine ⟨(i + 1, _), (by show 4 - (i + 1) < 4 - i; omega), ⟨by show i + 1 ≤ 4; omega, hk3.2.out (by omega)⟩, hS.to _ ⟨rfl, rfl, rfl, rfl, rfl, trivial⟩, hM⟩
  · obtain rfl : i = 4 := (by have := of_decide_eq_false hc; omega); rw [hk0.2.all] at hM
    refine c_exit <| k_thenx <| k_thenx <| k_inx <| k_seq <| c_seq <| c_region ?_
    refine vg hS <| vv (r_loadAll · hM rfl (j := 0) rfl Tryz.underlying280 rfl sz280 cells_len) ?_; clear hS; intro a hS
    refine s_storeAll hS hM rfl rfl (j := 1) rfl sz280 cells_len cells_len cU_one ?_; clear hS hM; intro a w hS hM
    refine s_nil <| k_seq <| c_ret ?_
    exact k_res1 hS rfl (RV.row rfl (hM.have_ _ (mem_of_get (j := 1) rfl)) Tryz.underlying280 rfl (by rw [sz280]; exact congrArg some cells_len.symm)) ⟨rfl, hM.done ⟨hb5, hb4, hb3, hb2, trivial⟩⟩
set_option maxRecDepth 100000 in
theorem reduced_ok (n : Nat) (hn : n < pwS 8) (w0 : World) : Pure Tryz.prog 212 #[.agg (cU 8 (limb n)).toArray] w0 (.agg (cB 32 (byt (n % ordL))).toArray) := by
  refine ⟨by kernel_rfl, ?_⟩
  refine calls_sym Tryz.func212 rfl (by kernel_rfl) ?_
  intro a hS
  have hM : Mem w0 w0 [] := Mem.refl w0
  refine c_seq <| c_region ?_
  refine s_box hS hM (by decide) rfl rfl ?_; clear hS hM; intro a b1 w hb1 hS hM
  refine s_alloc hS hM (by decide) zero27 ?_; clear hS hM; intro a b2 w hb2 hS hM
  refine s_nil <| k_seq <| c_seq <| c_region ?_
  refine s_alloc hS hM (by decide) zero280 ?_; clear hS hM; intro a b3 w hb3 hS hM
  refine s_nil <| k_seq <| c_seq <| c_seq <| c_region ?_
  refine vg hS <| vv (r_assign · (show ev _ _ = some (N 511) from rfl)) ?_; clear hS; intro a hS
  refine s_nil <| k_seq <| c_block ?_
  refine c_loop (σ := Nat) (fun k a w => (k ≤ 512) ∧ Slots a 32 (env [(1, ptr b1 0), (2, ptr b2 0), (3, ptr b3 0), (4, .int .i64 ((k : Int) - 1))]) ∧ Mem w0 w ([⟨b3, 280, cU 8 (limb (red n k))⟩, ⟨b2, 27, cB 32 (fun _ => 0)⟩, ⟨b1, 280, cU 8 (limb n)⟩])) (fun k => k) (512) ⟨by omega, hS.to _ ⟨rfl, rfl, rfl, rfl, trivial⟩, (hM.congr (by show _ = [(⟨b3, 280, cU 8 (limb (red n 512))⟩ : Blk), _, _]; rw [show red n 512 = 0 from red_pw (k := 8) hn, limb_zero]; rfl))⟩ ?_
  clear hS hM; rintro k a w ⟨hk, hS, hM⟩
  refine c_seq <| c_seq <| c_region ?_
  refine vg hS <| vm rfl <| vv (r_bv · rfl (show ev _ _ = some (.int .i64 (0)) from rfl) gZ (b_geqZ _ _ _)) ?_; clear hS; intro a hS
  refine s_nil <| k_seq ?_
  refine c_cond hS rfl (fun hc => ?_) (fun hc => ?_)
  · obtain ⟨i, rfl⟩ : ∃ i, k = i + 1 := (by have := of_decide_eq_true hc; exact ⟨k - 1, by omega⟩); replace hS := hS.to [(1, ptr b1 0), (2, ptr b2 0), (3, ptr b3 0), (4, N i)] ⟨rfl, rfl, rfl, congrArg (fun z => some (Value.int .i64 z)) (by omega), trivial⟩
    refine c_skip <| k_seq <| c_seq <| c_block <| c_seq <| c_region ?_
    refine vg hS <| vv (r_loadAll · hM rfl (j := 0) rfl Tryz.underlying280 rfl sz280 cells_len) <| vv (r_loadAll · hM rfl (j := 0) rfl Tryz.underlying280 rfl sz280 cells_len) ?_; clear hS; intro a hS
    refine s_pure hS hM (by decide) rfl (and_ok _ _ _) ?_; clear hS hM; intro a w hS hM
    refine s_storeAll hS hM rfl rfl (j := 0) rfl sz280 cells_len cells_len cU_one ?_; clear hS hM; intro a w hS hM
    refine s_nil <| k_seq <| c_seq ?_
    refine c_plan 7 (fun w => Mem w0 w _) [(3, _), (1, _), (4, _), (2, _), (11, _), (12, _), (13, _)] (by kernel_rfl) (by kernel_rfl) hS ⟨rfl, rfl, rfl, rfl, rfl, rfl, rfl, trivial⟩ (hM.drawn _) ?_; clear hS hM
    refine pv rfl (fun hS _ => r_index0 hS rfl (show ev _ _ = some (.int .i64 ((0 : Nat) : Int)) from rfl) Tryz.underlying280 sz45 (by decide)) <| pv rfl (fun hS hM => r_load hS hM rfl (j := 0) rfl Tryz.underlying45 rfl (cells_get (by omega))) <| pv rfl (fun hS hM => r_loadAll hS hM rfl (j := 2) rfl Tryz.underlying280 rfl sz280 cells_len) <| pv rfl (fun hS _ => r_move hS rfl) ?_
    refine p_step rfl (fun a w hS hM => y_call (by kernel_rfl) hS rfl ((bit_ok _ _ (by omega) _).mem hM)) ?_
    refine pv rfl (fun hS _ => r_bv hS rfl rfl gU (b_orU _ _ _)) <| pv rfl (fun hS _ => r_index0 hS rfl (show ev _ _ = some (.int .i64 ((0 : Nat) : Int)) from rfl) Tryz.underlying280 sz45 (by decide)) ?_
    refine p_nil rfl ?_; intro a w hS hM
    refine s_storeU hS hM rfl rfl (j := 0) rfl sz45 (by omega) ?_; clear hS hM; intro a w hS hM
    replace hM := hM.congr (L' := [⟨b3, 280, cU 8 (limb (2 * red n (i + 1) + n / 2 ^ i % 2))⟩, ⟨b2, 27, cB 32 (fun _ => 0)⟩, ⟨b1, 280, cU 8 (limb n)⟩]) (by rw [← bit_lay]; rfl)
    obtain ⟨q, hq⟩ : ∃ q, q = 2 * red n (i + 1) + n / 2 ^ i % 2 := ⟨_, rfl⟩; rw [← hq] at hM
    refine s_nil <| k_seq <| c_seq ?_
    refine c_vplan 8 (AL w0 6 7 280 (cU 8 (fun _ => 0)) (cU 8 (limb (q + (M512 - ordL)))) [⟨b3, 280, cU 8 (limb q)⟩, ⟨b2, 27, cB 32 (fun _ => 0)⟩, ⟨b1, 280, cU 8 (limb n)⟩]) [(3, ptr b3 0), (1, ptr b1 0), (2, ptr b2 0), (4, N i)] (fun i V => match i with | 0 => V 0 = .agg (cU 8 (limb q)).toArray | 1 => V 1 = .agg (cU 8 (limb ordL)).toArray | 2 => V 2 = .tuple #[.agg (cU 8 (limb (q + (M512 - ordL)))).toArray, U (BitVec.ofNat 64 (borrowOf q ordL 8))] | 3 => V 3 = .tuple #[.agg (cU 8 (limb (q + (M512 - ordL)))).toArray, U (BitVec.ofNat 64 (borrowOf q ordL 8))] | 4 => V 4 = .agg (cU 8 (limb (q + (M512 - ordL)))).toArray | 5 => V 5 = U (BitVec.ofNat 64 (borrowOf q ordL 8)) | 6 => ∃ b, w0.heap.size ≤ b ∧ V 6 = ptr b 0 | _ => True) (by kernel_rfl) (by kernel_rfl) hS ⟨rfl, rfl, rfl, rfl, trivial⟩ (AL.start (hM.drawn _)) ?_ ?_
    · clear hS hM
      refine ⟨?_, ?_, ?_, ?_, ?_, ?_, ?_, ?_, trivial⟩
      · intro S V a w hp hs hi hR hS hM
        replace hS := hS.to [(3, ptr b3 0)] ⟨rfl, trivial⟩
        have hM0 := hM; replace hM := hM0.low
        exact vy_val rfl (r_loadAll hS hM rfl (j := 0) rfl Tryz.underlying280 rfl sz280 cells_len) ⟨rfl, hM0.keep rfl rfl⟩
      · intro S V a w hp hs hi hR hS hM
        replace hS := hS.to [] trivial
        have hM0 := hM; replace hM := hM0.low
        exact vy_pureA hS rfl (order_ok _) fun w' hm => ⟨rfl, (hM0.after hm).keep rfl rfl⟩
      · intro S V a w hp hs hi hR hS hM
        have h0 : V 0 = .agg (cU 8 (limb q)).toArray := hR 0 rfl
        have h1 : V 1 = .agg (cU 8 (limb ordL)).toArray := hR 1 rfl
        replace hS := hS.to [(22, .agg (cU 8 (limb q)).toArray), (23, .agg (cU 8 (limb ordL)).toArray)] ⟨congrArg some h0, congrArg some h1, trivial⟩
        have hM0 := hM; replace hM := hM0.low
        exact vy_pureA hS rfl (less_ok _ _ (lt_pw ordL_lt (by decide)) _) fun w' hm => ⟨rfl, (hM0.after hm).keep rfl rfl⟩
      · intro S V a w hp hs hi hR hS hM
        have h2 : V 2 = .tuple #[.agg (cU 8 (limb (q + (M512 - ordL)))).toArray, U (BitVec.ofNat 64 (borrowOf q ordL 8))] := hR 2 rfl
        replace hS := hS.to [(24, .tuple #[.agg (cU 8 (limb (q + (M512 - ordL)))).toArray, U (BitVec.ofNat 64 (borrowOf q ordL 8))])] ⟨congrArg some h2, trivial⟩
        have hM0 := hM; replace hM := hM0.low
        exact vy_val rfl (r_move hS rfl) ⟨rfl, hM0.keep rfl rfl⟩
      · intro S V a w hp hs hi hR hS hM
        have h3 : V 3 = .tuple #[.agg (cU 8 (limb (q + (M512 - ordL)))).toArray, U (BitVec.ofNat 64 (borrowOf q ordL 8))] := hR 3 rfl
        replace hS := hS.to [(21, .tuple #[.agg (cU 8 (limb (q + (M512 - ordL)))).toArray, U (BitVec.ofNat 64 (borrowOf q ordL 8))])] ⟨congrArg some h3, trivial⟩
        have hM0 := hM; replace hM := hM0.low
        exact vy_val rfl (r_extract hS rfl rfl) ⟨rfl, hM0.keep rfl rfl⟩
      · intro S V a w hp hs hi hR hS hM
        have h3 : V 3 = .tuple #[.agg (cU 8 (limb (q + (M512 - ordL)))).toArray, U (BitVec.ofNat 64 (borrowOf q ordL 8))] := hR 3 rfl
        replace hS := hS.to [(21, .tuple #[.agg (cU 8 (limb (q + (M512 - ordL)))).toArray, U (BitVec.ofNat 64 (borrowOf q ordL 8))])] ⟨congrArg some h3, trivial⟩
        have hM0 := hM; replace hM := hM0.low
        exact vy_val rfl (r_extract hS rfl rfl) ⟨rfl, hM0.keep rfl rfl⟩
      · intro S V a w hp hs hi hR hS hM
        exact vy_alloc zero280 hM.low fun b w' hb hM' => ⟨⟨b, hb, rfl⟩, AL.made (hs 7 rfl) rfl hb hM'⟩
      · intro S V a w hp hs hi hR hS hM
        have h4 : V 4 = .agg (cU 8 (limb (q + (M512 - ordL)))).toArray := hR 4 rfl
        obtain ⟨b, hb, h6⟩ : ∃ b, w0.heap.size ≤ b ∧ V 6 = ptr b 0 := hR 6 rfl
        replace hS := hS.to [(25, .agg (cU 8 (limb (q + (M512 - ordL)))).toArray), (5, ptr b 0)] ⟨congrArg some h4, congrArg some h6, trivial⟩
        have hM1 := hM.ahead (hp 6 rfl) hi; rw [h6] at hM1
        exact vy_storeAll hS hM1 rfl rfl (j := 0) rfl sz280 cells_len cells_len cU_one fun w' hM' => ⟨trivial, hM.wrote (hp 6 rfl) rfl (by rw [h6]; exact hM')⟩
    clear hS hM; intro V a w hR hS hM
    obtain ⟨b5, hb5, v6⟩ : ∃ b, w0.heap.size ≤ b ∧ V 6 = ptr b 0 := hR 6 (by decide)
    have v0 : V 0 = .agg (cU 8 (limb q)).toArray := hR 0 (by decide)
    have v1 : V 1 = .agg (cU 8 (limb ordL)).toArray := hR 1 (by decide)
    have v2 : V 2 = .tuple #[.agg (cU 8 (limb (q + (M512 - ordL)))).toArray, U (BitVec.ofNat 64 (borrowOf q ordL 8))] := hR 2 (by decide)
    have v3 : V 3 = .tuple #[.agg (cU 8 (limb (q + (M512 - ordL)))).toArray, U (BitVec.ofNat 64 (borrowOf q ordL 8))] := hR 3 (by decide)
    have v4 : V 4 = .agg (cU 8 (limb (q + (M512 - ordL)))).toArray := hR 4 (by decide)
    have v5 : V 5 = U (BitVec.ofNat 64 (borrowOf q ordL 8)) := hR 5 (by decide)
    replace hS := hS.to [(5, ptr b5 0), (22, .agg (cU 8 (limb q)).toArray), (23, .agg (cU 8 (limb ordL)).toArray), (24, .tuple #[.agg (cU 8 (limb (q + (M512 - ordL)))).toArray, U (BitVec.ofNat 64 (borrowOf q ordL 8))]), (21, .tuple #[.agg (cU 8 (limb (q + (M512 - ordL)))).toArray, U (BitVec.ofNat 64 (borrowOf q ordL 8))]), (25, .agg (cU 8 (limb (q + (M512 - ordL)))).toArray), (26, U (BitVec.ofNat 64 (borrowOf q ordL 8))), (3, ptr b3 0), (1, ptr b1 0), (2, ptr b2 0), (4, N i)] ⟨congrArg some v6, congrArg some v0, congrArg some v1, congrArg some v2, congrArg some v3, congrArg some v4, congrArg some v5, rfl, rfl, rfl, rfl, trivial⟩
    replace hM := (hM.stop rfl rfl).2; rw [v6] at hM; replace hM : Mem w0 w (⟨b5, 280, cU 8 (limb (q + (M512 - ordL)))⟩ :: [⟨b3, 280, cU 8 (limb q)⟩, ⟨b2, 27, cB 32 (fun _ => 0)⟩, ⟨b1, 280, cU 8 (limb n)⟩]) := hM
    clear hR v0 v1 v2 v3 v4 v5 v6
    refine vg hS <| va rfl ?_; clear hS; intro a hS
    refine s_nil <| k_seq <| c_seq <| c_region ?_
    refine vg hS <| vm rfl <| vv (r_bv · rfl (show ev _ _ = some (U 0#64) from rfl) gU (b_eqlU _ _ _)) ?_; clear hS; intro a hS
    refine s_nil <| k_seq ?_
    refine c_cond hS rfl (fun hc => ?_) (fun hc => ?_)
    · have hc' := of_decide_eq_true hc
      refine c_region ?_
      refine vg hS <| vv (r_loadAll · hM rfl (j := 0) rfl Tryz.underlying280 rfl sz280 cells_len) ?_; clear hS; intro a hS
      refine s_storeAll hS hM rfl rfl (j := 1) rfl sz280 cells_len cells_len cU_one ?_; clear hS hM; intro a w hS hM
      refine s_nil <| k_in <| k_seq <| c_region ?_
      refine vg hS <| vm rfl <| vv (r_bv · rfl (show ev _ _ = some (.int .i64 (1)) from rfl) gZ (b_subZ _ _ _ (by omega))) <| va rfl ?_; clear hS; intro a hS
      refine s_nil <| k_then ?_
      refine ⟨i, by omega, by omega, hS.to _ ⟨rfl, rfl, rfl, rfl, trivial⟩, ((hM.drop hb5).congr (by first | (rw [← red_yes hq hc']; rfl) | rw [← red_no hq hc']))⟩
    · have hc' := of_decide_eq_false hc
      refine c_skip <| k_in <| k_seq <| c_region ?_
      refine vg hS <| vm rfl <| vv (r_bv · rfl (show ev _ _ = some (.int .i64 (1)) from rfl) gZ (b_subZ _ _ _ (by omega))) <| va rfl ?_; clear hS; intro a hS
      refine s_nil <| k_then ?_
      refine ⟨i, by omega, by omega, hS.to _ ⟨rfl, rfl, rfl, rfl, trivial⟩, ((hM.drop hb5).congr (by first | (rw [← red_yes hq hc']; rfl) | rw [← red_no hq hc']))⟩
  · obtain rfl : k = 0 := (by have := of_decide_eq_false hc; omega); rw [red_zero] at hM
    refine c_exit <| k_thenx <| k_thenx <| k_inx <| k_seq <| c_seq <| c_region ?_
    refine vg hS <| vv (r_loadAll · hM rfl (j := 0) rfl Tryz.underlying280 rfl sz280 cells_len) ?_; clear hS; intro a hS
    refine s_pure hS hM (by decide) rfl (wbytes_ok _ _) ?_; clear hS hM; intro a w hS hM
    refine s_storeAll hS hM rfl rfl (j := 1) rfl sz27 cells_len cells_len cB_one ?_; clear hS hM; intro a w hS hM
    refine s_nil <| k_seq <| c_ret ?_
    exact k_res1 hS rfl (RV.row rfl (hM.have_ _ (mem_of_get (j := 1) rfl)) Tryz.underlying27 rfl (by rw [sz27]; exact congrArg some cells_len.symm)) ⟨rfl, hM.done ⟨hb3, hb2, hb1, trivial⟩⟩
set_option maxRecDepth 100000 in
theorem mulAdd_ok (f g h : Nat → BitVec 8) (w0 : World) : Pure Tryz.prog 136 #[.agg (cB 32 f).toArray, .agg (cB 32 g).toArray, .agg (cB 32 h).toArray] w0 (.agg (cB 32 (byt ((natB f 32 * natB g 32 + natB h 32) % ordL))).toArray) := by
  refine ⟨by kernel_rfl, ?_⟩
  refine calls_sym Tryz.func136 rfl (by kernel_rfl) ?_
  intro a hS
  have hM : Mem w0 w0 [] := Mem.refl w0
  refine c_seq <| c_region ?_
  refine s_box hS hM (by decide) rfl rfl ?_; clear hS hM; intro a b3 w hb3 hS hM
  refine s_box hS hM (by decide) rfl rfl ?_; clear hS hM; intro a b4 w hb4 hS hM
  refine s_box hS hM (by decide) rfl rfl ?_; clear hS hM; intro a b5 w hb5 hS hM
  refine s_alloc hS hM (by decide) zero27 ?_; clear hS hM; intro a b6 w hb6 hS hM
  refine s_nil <| k_seq <| c_seq ?_
  refine c_plan 9 (fun w => Mem w0 w _) [(3, _), (4, _), (5, _), (6, _)] (by kernel_rfl) (by kernel_rfl) hS ⟨rfl, rfl, rfl, rfl, trivial⟩ (hM.drawn _) ?_; clear hS hM
  refine pv rfl (fun hS _ => r_sliceA0 hS rfl Tryz.underlying27 sz5) ?_
  refine p_step rfl (fun a w hS hM => y_call (by kernel_rfl) hS rfl ((of_ok _ (rd_row hM (j := 3) rfl) (by decide)).mem hM)) ?_
  refine pv rfl (fun hS _ => r_sliceA0 hS rfl Tryz.underlying27 sz5) ?_
  refine p_step rfl (fun a w hS hM => y_call (by kernel_rfl) hS rfl ((of_ok _ (rd_row hM (j := 2) rfl) (by decide)).mem hM)) ?_
  refine p_step rfl (fun a w hS hM => y_call (by kernel_rfl) hS rfl ((times_ok _ _ _).mem hM)) ?_
  refine pv rfl (fun hS _ => r_sliceA0 hS rfl Tryz.underlying27 sz5) ?_
  refine p_step rfl (fun a w hS hM => y_call (by kernel_rfl) hS rfl ((of_ok _ (rd_row hM (j := 1) rfl) (by decide)).mem hM)) ?_
  refine p_step rfl (fun a w hS hM => y_call (by kernel_rfl) hS rfl ((and_ok _ _ _).mem hM)) ?_
  refine p_step rfl (fun a w hS hM => y_call (by kernel_rfl) hS rfl ((reduced_ok _ (mad_pw f g h) _).mem hM)) ?_
  refine p_nil rfl ?_; intro a w hS hM
  refine s_storeAll hS hM rfl rfl (j := 0) rfl sz27 cells_len cells_len cB_one ?_; clear hS hM; intro a w hS hM
  refine s_nil <| k_seq <| c_ret ?_
  exact k_res1 hS rfl (RV.row rfl (hM.have_ _ (mem_of_get (j := 0) rfl)) Tryz.underlying27 rfl (by rw [sz27]; exact congrArg some cells_len.symm)) ⟨(by rw [mod4, mod4]), hM.done ⟨hb6, hb5, hb4, hb3, trivial⟩⟩
set_option maxRecDepth 100000 in
theorem reduce_ok (f : Nat → BitVec 8) (w0 : World) : Pure Tryz.prog 134 #[.agg (cB 64 f).toArray] w0 (.agg (cB 32 (byt (natB f 64 % ordL))).toArray) := by
  refine ⟨by kernel_rfl, ?_⟩
  refine calls_sym Tryz.func134 rfl (by kernel_rfl) ?_
  intro a hS
  have hM : Mem w0 w0 [] := Mem.refl w0
  refine c_seq <| c_region ?_
  refine s_box hS hM (by decide) rfl rfl ?_; clear hS hM; intro a b1 w hb1 hS hM
  refine s_alloc hS hM (by decide) zero27 ?_; clear hS hM; intro a b2 w hb2 hS hM
  refine s_nil <| k_seq <| c_seq <| c_region ?_
  refine vg hS <| vv (r_sliceA0 · rfl Tryz.underlying46 sz5) ?_; clear hS; intro a hS
  refine s_pure hS hM (by decide) rfl (of_ok _ (rd_row hM (j := 1) rfl) (by decide)) ?_; clear hS hM; intro a w hS hM
  refine s_pure hS hM (by decide) rfl (reduced_ok _ (natB64_pw f) _) ?_; clear hS hM; intro a w hS hM
  refine s_storeAll hS hM rfl rfl (j := 0) rfl sz27 cells_len cells_len cB_one ?_; clear hS hM; intro a w hS hM
  refine s_nil <| k_seq <| c_ret ?_
  exact k_res1 hS rfl (RV.row rfl (hM.have_ _ (mem_of_get (j := 0) rfl)) Tryz.underlying27 rfl (by rw [sz27]; exact congrArg some cells_len.symm)) ⟨rfl, hM.done ⟨hb2, hb1, trivial⟩⟩
set_option maxRecDepth 100000 in
theorem canonical_ok (f : Nat → BitVec 8) (w0 : World) : Pure Tryz.prog 302 #[.agg (cB 32 f).toArray] w0 (.bool (decide (natB f 32 < ordL))) := by
  refine ⟨by kernel_rfl, ?_⟩
  refine calls_sym Tryz.func302 rfl (by kernel_rfl) ?_
  intro a hS
  have hM : Mem w0 w0 [] := Mem.refl w0
  refine c_seq <| c_region ?_
  refine s_box hS hM (by decide) rfl rfl ?_; clear hS hM; intro a b1 w hb1 hS hM
  refine vg hS <| va rfl ?_; clear hS; intro a hS
  refine s_nil <| k_seq <| c_seq <| c_region ?_
  refine vg hS <| vv (r_sliceA0 · rfl Tryz.underlying27 sz5) ?_; clear hS; intro a hS
  refine s_pure hS hM (by decide) rfl (of_ok _ (rd_row hM (j := 0) rfl) (by decide)) ?_; clear hS hM; intro a w hS hM
  refine s_pure hS hM (by decide) rfl (order_ok _) ?_; clear hS hM; intro a w hS hM
  refine s_pure hS hM (by decide) rfl (less_ok _ _ (lt_pw ordL_lt (by decide)) _) ?_; clear hS hM; intro a w hS hM
  refine vg hS <| vm rfl <| vv (r_extract · rfl rfl) <| vv (r_extract · rfl rfl) ?_; clear hS; intro a hS
  refine s_alloc hS hM (by decide) zero280 ?_; clear hS hM; intro a b3 w hb3 hS hM
  refine s_storeAll hS hM rfl rfl (j := 0) rfl sz280 cells_len cells_len cU_one ?_; clear hS hM; intro a w hS hM
  refine vg hS <| va rfl ?_; clear hS; intro a hS
  refine s_nil <| k_seq <| c_seq <| c_region ?_
  refine vg hS <| vm rfl <| vv (r_bv · rfl (show ev _ _ = some (U 1#64) from rfl) gU (b_eqlU _ _ _)) <| va rfl ?_; clear hS; intro a hS
  refine s_nil <| k_seq <| c_ret ?_
  exact k_res1 hS rfl (RV.tmp rfl) ⟨(congrArg (fun b => Ending.returned (.bool b)) (canon_eq f)), hM.done ⟨hb3, hb1, trivial⟩⟩
end Go.Proofs.YtgmieahcpkcabaaGreat
namespace Go.Proofs.YtgmieahcpkcabaaGreat
open Go Go.Sym
set_option maxRecDepth 100000 in
theorem Bit_ok (f : Nat → BitVec 8) (i : Int) (w0 : World) : Pure Tryz.prog 143 #[.agg (cB 32 f).toArray, .int .i64 i] w0 (N (bitZ f i)) := by
  refine ⟨by kernel_rfl, ?_⟩
  refine calls_sym Tryz.func143 rfl (by kernel_rfl) ?_
  intro a hS
  have hM : Mem w0 w0 [] := Mem.refl w0
  refine c_seq <| c_region ?_
  refine s_box hS hM (by decide) rfl rfl ?_; clear hS hM; intro a b2 w hb2 hS hM
  refine vg hS <| vv (r_assign · (show ev _ _ = some (N 0) from rfl)) ?_; clear hS; intro a hS
  refine s_nil <| k_seq <| c_seq <| c_seq <| c_region ?_
  refine vg hS <| vm rfl ?_; clear hS; intro a hS
  refine s_valb hS (by decide) rfl rfl (r_bv hS rfl (show ev _ _ = some (.int .i64 (0)) from rfl) gZ (b_lssZ _ _ _)) (fun hc => ?_) (fun hc => ?_)
  · clear hS; intro a hS; have h1 := of_decide_eq_true hc
    refine vg hS <| vm rfl ?_; clear hS; intro a hS
    refine s_skip hS (by decide) rfl rfl rfl rfl rfl ?_; clear hS; intro a hS
    refine s_skip hS (by decide) rfl rfl rfl rfl rfl ?_; clear hS; intro a hS
    refine vg hS <| vv (r_pick · rfl rfl) ?_; clear hS; intro a hS
    refine s_nil <| k_seq ?_
    refine c_true hS rfl rfl ?_
    refine c_seq <| c_region ?_
    refine vg hS <| vv (r_assign · (show ev _ _ = some (N 0) from rfl)) ?_; clear hS; intro a hS
    refine s_nil <| k_seq <| c_ret <| k_thenr ?_
    exact k_res1 hS rfl (RV.tmp rfl) ⟨(congrArg (fun q => Ending.returned (N q)) (by first | exact (bitZ_out (by omega)).symm | exact bitZ_in f p (by omega))), hM.done ⟨hb2, trivial⟩⟩
  · clear hS; intro a hS; have h1 := of_decide_eq_false hc
    refine vg hS <| vm rfl ?_; clear hS; intro a hS
    refine s_valg hS (by decide) rfl rfl rfl rfl rfl (r_move hS rfl) ?_; clear hS; intro a hS
    refine s_valgb hS (by decide) rfl rfl rfl rfl rfl (r_bv hS rfl (show ev _ _ = some (.int .i64 (256)) from rfl) gZ (b_geqZ _ _ _)) (fun hc => ?_) (fun hc => ?_)
    · clear hS; intro a hS; have h2 := of_decide_eq_true hc
      refine vg hS <| vv (r_pick · rfl rfl) ?_; clear hS; intro a hS
      refine s_nil <| k_seq ?_
      refine c_true hS rfl rfl ?_
      refine c_seq <| c_region ?_
      refine vg hS <| vv (r_assign · (show ev _ _ = some (N 0) from rfl)) ?_; clear hS; intro a hS
      refine s_nil <| k_seq <| c_ret <| k_thenr ?_
      exact k_res1 hS rfl (RV.tmp rfl) ⟨(congrArg (fun q => Ending.returned (N q)) (by first | exact (bitZ_out (by omega)).symm | exact bitZ_in f p (by omega))), hM.done ⟨hb2, trivial⟩⟩
    · clear hS; intro a hS; have h2 := of_decide_eq_false hc; obtain ⟨p, rfl⟩ : ∃ j : Nat, i = (j : Int) := ⟨i.toNat, by omega⟩
      refine vg hS <| vv (r_pick · rfl rfl) ?_; clear hS; intro a hS
      refine s_nil <| k_seq ?_
      refine c_false hS rfl rfl ?_
      refine c_skip <| k_seq <| c_seq <| c_region ?_
      refine vg hS <| vm rfl <| vv (r_bv · rfl (show ev _ _ = some (N 8) from rfl) gN (b_quoN _ _ _ (by omega) (by omega))) <| vv (r_index0 · rfl rfl Tryz.underlying27 sz5 (by omega)) <| vv (r_load · hM rfl (j := 0) rfl Tryz.underlying5 rfl (cells_get (by omega))) <| vm rfl <| vv (r_bv · rfl (show ev _ _ = some (N 8) from rfl) gN (b_remN _ _ _ (by omega))) <| vv (r_bv · rfl rfl gB (b_shrB _ _ _ _)) <| vv (r_bv · rfl (show ev _ _ = some (B 1#8) from rfl) gB (b_andB _ _ _)) <| vv (r_conv · rfl (by kernel_rfl) Tryz.underlying3 (cv_BN _)) <| va rfl ?_; clear hS; intro a hS
      refine s_nil <| k_seq <| c_ret ?_
      exact k_res1 hS rfl (RV.tmp rfl) ⟨(congrArg (fun q => Ending.returned (N q)) (by first | exact (bitZ_out (by omega)).symm | exact bitZ_in f p (by omega))), hM.done ⟨hb2, trivial⟩⟩
end Go.Proofs.YtgmieahcpkcabaaGreat
