import Derived.Test.YtgmieahcpkcabaaGreatBn9
import Derived.Test.YtgmieahcpkcabaaGreatBn4
import Derived.Test.YtgmieahcpkcabaaGreatBn8
namespace Go.Sym
open Go Go.RowKit
section
variable {w w' w0 : World} {q i b : Nat} {T : TypeId} {z s : List Value} {L : List Blk} {S : Nat → Bool} {V : Nat → Value} {v : Value}
end
end Go.Sym
namespace Go.Proofs.YtgmieahcpkcabaaGreat
open Go Go.Sym
attribute [local irreducible] feAdd feMul feSub limb51 natB feCarry val byt r1X outX okX
set_option maxRecDepth 100000 in
theorem exponent_ok (l h : BitVec 8) (w0 : World) : Pure Tryz.prog 222 #[B l, B h] w0 (.agg (cB 32 (expo l h)).toArray) := by
  refine ⟨by kernel_rfl, ?_⟩
  refine calls_sym Tryz.func222 rfl (by kernel_rfl) ?_
  intro a hS
  have hM : Mem w0 w0 [] := Mem.refl w0
  refine c_seq <| c_region ?_
  refine s_alloc hS hM (by decide) zero27 ?_; clear hS hM; intro a b4 w hb4 hS hM
  refine s_nil <| k_seq <| c_seq <| c_region ?_
  refine s_alloc hS hM (by decide) zero27 ?_; clear hS hM; intro a b5 w hb5 hS hM
  refine s_nil <| k_seq <| c_seq <| c_seq <| c_region ?_
  refine vg hS <| vv (r_move · (show ev _ _ = some (N 0) from rfl)) ?_; clear hS; intro a hS
  refine s_nil <| k_seq <| c_block ?_
  refine c_loop (σ := Nat) (fun k a w => (k ≤ 32) ∧ Slots a 18 (env [(0, B l), (1, B h), (4, ptr b4 0), (5, ptr b5 0), (7, N k)]) ∧ Mem w0 w ([⟨b5, 27, cB 32 (fil 0 (fun _ => 255#8) k)⟩, ⟨b4, 27, cB 32 (fun _ => 0)⟩])) (fun k => 32 - k) (0) ⟨by omega, hS.to _ ⟨rfl, rfl, rfl, rfl, rfl, trivial⟩, hM⟩ ?_
  clear hS hM; rintro k a w ⟨hk, hS, hM⟩
  refine c_seq <| c_region ?_
  refine vg hS <| vv (r_bv · rfl (show ev _ _ = some (N 32) from rfl) gN (b_lssN _ _ _)) ?_; clear hS; intro a hS
  refine s_nil <| k_seq <| c_seq ?_
  refine c_cond hS rfl (fun hc => ?_) (fun hc => ?_)
  · have hk1 := of_decide_eq_true hc
    refine c_skip <| k_seq <| c_seq <| c_block <| c_seq <| c_region ?_
    refine vg hS <| vm rfl <| va rfl ?_; clear hS; intro a hS
    refine s_nil <| k_seq <| c_region ?_
    refine vg hS <| vm rfl <| vv (r_index0 · rfl rfl Tryz.underlying27 sz5 (by omega)) ?_; clear hS; intro a hS
    refine s_storeB hS hM rfl (show ev _ _ = some (B 255#8) from rfl) (j := 0) rfl sz5 (by omega) ?_; clear hS hM; intro a w hS hM
    refine s_nil <| k_in <| k_seq <| c_region ?_
    refine vg hS <| vv (r_bv · rfl (show ev _ _ = some (N 1) from rfl) gN (b_addN _ _ _ (by omega))) <| vm rfl ?_; clear hS; intro a hS
    refine s_nil <| k_then ?_
    refine ⟨k + 1, by omega, by omega, hS.to _ ⟨rfl, rfl, rfl, rfl, rfl, trivial⟩, hM⟩
  · obtain rfl : k = 32 := (by have := of_decide_eq_false hc; omega); rw [cB_fil] at hM
    refine c_exit <| k_thenx <| k_thenx <| k_inx <| k_seq <| c_seq <| c_region ?_
    refine vg hS <| vm rfl <| vm rfl <| vv (r_index0 · rfl (show ev _ _ = some (.int .i64 ((0 : Nat) : Int)) from rfl) Tryz.underlying27 sz5 (by decide)) ?_; clear hS; intro a hS
    refine s_storeB hS hM rfl rfl (j := 0) rfl sz5 (by omega) ?_; clear hS hM; intro a w hS hM
    refine vg hS <| vv (r_index0 · rfl (show ev _ _ = some (.int .i64 ((31 : Nat) : Int)) from rfl) Tryz.underlying27 sz5 (by decide)) ?_; clear hS; intro a hS
    refine s_storeB hS hM rfl rfl (j := 0) rfl sz5 (by omega) ?_; clear hS hM; intro a w hS hM
    refine s_nil <| k_seq <| c_seq <| c_region ?_
    refine vg hS <| vv (r_loadAll · hM rfl (j := 0) rfl Tryz.underlying27 rfl sz27 cells_len) ?_; clear hS; intro a hS
    refine s_storeAll hS hM rfl rfl (j := 1) rfl sz27 cells_len cells_len cB_one ?_; clear hS hM; intro a w hS hM
    refine s_nil <| k_seq <| c_ret ?_
    exact k_res1 hS rfl (RV.row rfl (hM.have_ _ (mem_of_get (j := 1) rfl)) Tryz.underlying27 rfl (by rw [sz27]; exact congrArg some cells_len.symm)) ⟨rfl, hM.done ⟨hb5, hb4, trivial⟩⟩
set_option maxRecDepth 100000 in
theorem pow_ok (x : Nat → BitVec 64) (e : Nat → BitVec 8) (w0 : World) : Pure Tryz.prog 221 #[.agg (cU 5 x).toArray, .agg (cB 32 e).toArray] w0 (.agg (cU 5 (powG x e 256)).toArray) := by
  refine ⟨by kernel_rfl, ?_⟩
  refine calls_sym Tryz.func221 rfl (by kernel_rfl) ?_
  intro a hS
  have hM : Mem w0 w0 [] := Mem.refl w0
  refine c_seq <| c_region ?_
  refine s_box hS hM (by decide) rfl rfl ?_; clear hS hM; intro a b2 w hb2 hS hM
  refine s_box hS hM (by decide) rfl rfl ?_; clear hS hM; intro a b3 w hb3 hS hM
  refine s_alloc hS hM (by decide) zero95 ?_; clear hS hM; intro a b4 w hb4 hS hM
  refine s_nil <| k_seq <| c_seq <| c_region ?_
  refine s_pure hS hM (by decide) (vs := [U 1#64]) rfl (small_ok _ _) ?_; clear hS hM; intro a w hS hM
  refine s_alloc hS hM (by decide) zero95 ?_; clear hS hM; intro a b5 w hb5 hS hM
  refine s_storeAll hS hM rfl rfl (j := 0) rfl sz95 cells_len cells_len cU_one ?_; clear hS hM; intro a w hS hM
  refine s_nil <| k_seq <| c_seq <| c_seq <| c_region ?_
  refine vg hS <| vv (r_assign · (show ev _ _ = some (N 255) from rfl)) ?_; clear hS; intro a hS
  refine s_nil <| k_seq <| c_block ?_
  refine c_loop (σ := Nat) (fun j a w => (j ≤ 256) ∧ Slots a 27 (env [(2, ptr b2 0), (3, ptr b3 0), (4, ptr b4 0), (5, ptr b5 0), (6, .int .i64 (255 - (j : Int)))]) ∧ Mem w0 w ([⟨b5, 95, cU 5 (powG x e j)⟩, ⟨b4, 95, cU 5 (fun _ => 0)⟩, ⟨b3, 27, cB 32 e⟩, ⟨b2, 95, cU 5 x⟩])) (fun j => 256 - j) (0) ⟨by omega, hS.to _ ⟨rfl, rfl, rfl, rfl, rfl, trivial⟩, hM⟩ ?_
  clear hS hM; rintro j a w ⟨hk, hS, hM⟩
  refine c_seq <| c_seq <| c_region ?_
  refine vg hS <| vm rfl <| vv (r_bv · rfl (show ev _ _ = some (.int .i64 (0)) from rfl) gZ (b_geqZ _ _ _)) ?_; clear hS; intro a hS
  refine s_nil <| k_seq ?_
  refine c_cond hS rfl (fun hc => ?_) (fun hc => ?_)
  · have hk1 := of_decide_eq_true hc; have hk2 : j ≤ 255 := (by omega); rw [show (255 : Int) - (j : Int) = ((255 - j : Nat) : Int) by omega] at hS
    refine c_skip <| k_seq <| c_seq <| c_block <| c_seq <| c_region ?_
    refine vg hS <| vv (r_loadAll · hM rfl (j := 0) rfl Tryz.underlying95 rfl sz95 cells_len) ?_; clear hS; intro a hS
    refine s_pure hS hM (by decide) rfl (square_ok _ _) ?_; clear hS hM; intro a w hS hM
    refine s_storeAll hS hM rfl rfl (j := 0) rfl sz95 cells_len cells_len cU_one ?_; clear hS hM; intro a w hS hM
    refine s_nil <| k_seq <| c_seq <| c_region ?_
    refine vg hS <| vm rfl <| vv (r_bv · rfl (show ev _ _ = some (N 8) from rfl) gN (b_quoN _ _ _ (by omega) (by omega))) <| vv (r_index0 · rfl rfl Tryz.underlying27 sz5 (by omega)) <| vv (r_load · hM rfl (j := 2) rfl Tryz.underlying5 rfl (cells_get (by omega))) <| vm rfl <| vv (r_bv · rfl (show ev _ _ = some (N 8) from rfl) gN (b_remN _ _ _ (by omega))) <| vv (r_bv · rfl rfl gB (b_shrB _ _ _ _)) <| vv (r_bv · rfl (show ev _ _ = some (B 1#8) from rfl) gB (b_andB _ _ _)) <| vv (r_bv · rfl (show ev _ _ = some (B 1#8) from rfl) gB (b_eqlB _ _ _)) ?_; clear hS; intro a hS
    refine s_nil <| k_seq ?_
    refine c_cond hS rfl (fun hc => ?_) (fun hc => ?_)
    · have hk3 := of_decide_eq_true hc
      refine c_region ?_
      refine vg hS <| vv (r_loadAll · hM rfl (j := 0) rfl Tryz.underlying95 rfl sz95 cells_len) <| vv (r_loadAll · hM rfl (j := 3) rfl Tryz.underlying95 rfl sz95 cells_len) ?_; clear hS; intro a hS
      refine s_pure hS hM (by decide) rfl (mul_ok _ _ _) ?_; clear hS hM; intro a w hS hM
      refine s_storeAll hS hM rfl rfl (j := 0) rfl sz95 cells_len cells_len cU_one ?_; clear hS hM; intro a w hS hM
      refine s_nil <| k_in <| k_seq <| c_region ?_
      refine vg hS <| vm rfl <| vv (r_bv · rfl (show ev _ _ = some (.int .i64 (1)) from rfl) gZ (b_subZ _ _ _ (by omega))) <| va rfl ?_; clear hS; intro a hS
      refine s_nil <| k_then ?_
      refine ⟨j + 1, by omega, by omega, hS.to _ ⟨rfl, rfl, rfl, rfl, congrArg (fun q => some (Value.int .i64 q)) (by omega), trivial⟩, (by first | exact hM.congr (by rw [powG_one hk3]; rfl) | exact hM.congr (by rw [powG_none hk3]; rfl))⟩
    · have hk3 := of_decide_eq_false hc
      refine c_skip <| k_in <| k_seq <| c_region ?_
      refine vg hS <| vm rfl <| vv (r_bv · rfl (show ev _ _ = some (.int .i64 (1)) from rfl) gZ (b_subZ _ _ _ (by omega))) <| va rfl ?_; clear hS; intro a hS
      refine s_nil <| k_then ?_
      refine ⟨j + 1, by omega, by omega, hS.to _ ⟨rfl, rfl, rfl, rfl, congrArg (fun q => some (Value.int .i64 q)) (by omega), trivial⟩, (by first | exact hM.congr (by rw [powG_one hk3]; rfl) | exact hM.congr (by rw [powG_none hk3]; rfl))⟩
  · obtain rfl : j = 256 := by have := of_decide_eq_false hc; omega
    refine c_exit <| k_thenx <| k_thenx <| k_inx <| k_seq <| c_seq <| c_region ?_
    refine vg hS <| vv (r_loadAll · hM rfl (j := 0) rfl Tryz.underlying95 rfl sz95 cells_len) ?_; clear hS; intro a hS
    refine s_storeAll hS hM rfl rfl (j := 1) rfl sz95 cells_len cells_len cU_one ?_; clear hS hM; intro a w hS hM
    refine s_nil <| k_seq <| c_ret ?_
    exact k_res1 hS rfl (RV.row rfl (hM.have_ _ (mem_of_get (j := 1) rfl)) Tryz.underlying95 rfl (by rw [sz95]; exact congrArg some cells_len.symm)) ⟨rfl, hM.done ⟨hb5, hb4, hb3, hb2, trivial⟩⟩
set_option maxRecDepth 100000 in
theorem invert_ok (x : Nat → BitVec 64) (w0 : World) : Pure Tryz.prog 147 #[.agg (cU 5 x).toArray] w0 (.agg (cU 5 (invX x)).toArray) := by
  refine ⟨by kernel_rfl, ?_⟩
  refine calls_sym Tryz.func147 rfl (by kernel_rfl) ?_
  intro a hS
  have hM : Mem w0 w0 [] := Mem.refl w0
  refine c_seq <| c_region ?_
  refine s_box hS hM (by decide) rfl rfl ?_; clear hS hM; intro a b1 w hb1 hS hM
  refine s_alloc hS hM (by decide) zero95 ?_; clear hS hM; intro a b2 w hb2 hS hM
  refine s_nil <| k_seq <| c_seq ?_
  refine c_plan 3 (fun w => Mem w0 w _) [(1, _), (2, _)] (by kernel_rfl) (by kernel_rfl) hS ⟨rfl, rfl, trivial⟩ (hM.drawn _) ?_; clear hS hM
  refine pv rfl (fun hS hM => r_loadAll hS hM rfl (j := 1) rfl Tryz.underlying95 rfl sz95 cells_len) ?_
  refine p_step rfl (fun a w hS hM => y_call (by kernel_rfl) hS (vs := [B 235#8, B 127#8]) rfl ((exponent_ok _ _ _).mem hM)) ?_
  refine p_step rfl (fun a w hS hM => y_call (by kernel_rfl) hS rfl ((pow_ok _ _ _).mem hM)) ?_
  refine p_nil rfl ?_; intro a w hS hM
  refine s_storeAll hS hM rfl rfl (j := 0) rfl sz95 cells_len cells_len cU_one ?_; clear hS hM; intro a w hS hM
  refine s_nil <| k_seq <| c_ret ?_
  exact k_res1 hS rfl (RV.row rfl (hM.have_ _ (mem_of_get (j := 0) rfl)) Tryz.underlying95 rfl (by rw [sz95]; exact congrArg some cells_len.symm)) ⟨rfl, hM.done ⟨hb2, hb1, trivial⟩⟩
attribute [local irreducible] powG invX
set_option maxRecDepth 100000 in
theorem sqrt_ok (x : Nat → BitVec 64) (hx : Ok x) (w0 : World) : Pure Tryz.prog 278 #[.agg (cU 5 x).toArray] w0 (.tuple #[.agg (cU 5 (outX x)).toArray, .bool (okX x)]) := by
  refine ⟨by kernel_rfl, ?_⟩
  refine calls_sym Tryz.func278 rfl (by kernel_rfl) ?_
  intro a hS
  have hM : Mem w0 w0 [] := Mem.refl w0
  refine c_seq <| c_region ?_
  refine s_box hS hM (by decide) rfl rfl ?_; clear hS hM; intro a b1 w hb1 hS hM
  refine s_alloc hS hM (by decide) zero95 ?_; clear hS hM; intro a b2 w hb2 hS hM
  refine vg hS <| va rfl ?_; clear hS; intro a hS
  refine s_nil <| k_seq <| c_seq ?_
  refine c_vplan 4 (AL w0 3 1000 95 (cU 5 (fun _ => 0)) ((cU 5 (fun _ => 0))) [⟨b2, 95, cU 5 (fun _ => 0)⟩, ⟨b1, 95, cU 5 x⟩]) [(1, ptr b1 0), (2, ptr b2 0), (3, .bool false)] (fun i V => match i with | 0 => V 0 = .agg (cU 5 x).toArray | 1 => V 1 = .agg (cB 32 (expo 254#8 15#8)).toArray | 2 => V 2 = .agg (cU 5 (r0X x)).toArray | 3 => ∃ b, w0.heap.size ≤ b ∧ V 3 = ptr b 0 | _ => True) (by kernel_rfl) (by kernel_rfl) hS ⟨rfl, rfl, rfl, trivial⟩ (AL.start (hM.drawn _)) ?_ ?_
  · clear hS hM
    refine ⟨?_, ?_, ?_, ?_, trivial⟩
    · intro S V a w hp hs hi hR hS hM
      replace hS := hS.to [(1, ptr b1 0)] ⟨rfl, trivial⟩
      have hM0 := hM; replace hM := hM0.low
      exact vy_val rfl (r_loadAll hS hM rfl (j := 1) rfl Tryz.underlying95 rfl sz95 cells_len) ⟨rfl, hM0.keep rfl rfl⟩
    · intro S V a w hp hs hi hR hS hM
      replace hS := hS.to [] trivial
      have hM0 := hM; replace hM := hM0.low
      exact vy_pureA hS (vs := [B 254#8, B 15#8]) rfl (exponent_ok _ _ _) fun w' hm => ⟨rfl, (hM0.after hm).keep rfl rfl⟩
    · intro S V a w hp hs hi hR hS hM
      have h0 : V 0 = .agg (cU 5 x).toArray := hR 0 rfl
      have h1 : V 1 = .agg (cB 32 (expo 254#8 15#8)).toArray := hR 1 rfl
      replace hS := hS.to [(5, .agg (cU 5 x).toArray), (6, .agg (cB 32 (expo 254#8 15#8)).toArray)] ⟨congrArg some h0, congrArg some h1, trivial⟩
      have hM0 := hM; replace hM := hM0.low
      exact vy_pureA hS rfl (pow_ok _ _ _) fun w' hm => ⟨rfl, (hM0.after hm).keep rfl rfl⟩
    · intro S V a w hp hs hi hR hS hM
      exact vy_alloc zero95 hM.low fun b w' hb hM' => ⟨⟨b, hb, rfl⟩, AL.made0 hb hM'⟩
  clear hS hM; intro V a w hR hS hM
  obtain ⟨b4, hb4, v3⟩ : ∃ b, w0.heap.size ≤ b ∧ V 3 = ptr b 0 := hR 3 (by decide)
  have v0 : V 0 = .agg (cU 5 x).toArray := hR 0 (by decide)
  have v1 : V 1 = .agg (cB 32 (expo 254#8 15#8)).toArray := hR 1 (by decide)
  have v2 : V 2 = .agg (cU 5 (r0X x)).toArray := hR 2 (by decide)
  replace hS := hS.to [(4, ptr b4 0), (5, .agg (cU 5 x).toArray), (6, .agg (cB 32 (expo 254#8 15#8)).toArray), (7, .agg (cU 5 (r0X x)).toArray), (1, ptr b1 0), (2, ptr b2 0), (3, .bool false)] ⟨congrArg some v3, congrArg some v0, congrArg some v1, congrArg some v2, rfl, rfl, rfl, trivial⟩
  replace hM := (hM.stop0 rfl rfl).2; rw [v3] at hM; replace hM : Mem w0 w (⟨b4, 95, (cU 5 (fun _ => 0))⟩ :: [⟨b2, 95, cU 5 (fun _ => 0)⟩, ⟨b1, 95, cU 5 x⟩]) := hM
  clear hR v0 v1 v2 v3
  refine s_storeAll hS hM rfl rfl (j := 0) rfl sz95 cells_len cells_len cU_one ?_; clear hS hM; intro a w hS hM
  refine s_nil <| k_seq <| c_seq <| c_seq ?_
  refine c_plan 5 (fun w => Mem w0 w _) [(4, _), (1, _), (2, _), (3, _)] (by kernel_rfl) (by kernel_rfl) hS ⟨rfl, rfl, rfl, rfl, trivial⟩ (hM.drawn _) ?_; clear hS hM
  refine pv rfl (fun hS hM => r_loadAll hS hM rfl (j := 0) rfl Tryz.underlying95 rfl sz95 cells_len) ?_
  refine p_step rfl (fun a w hS hM => y_call (by kernel_rfl) hS rfl ((square_ok _ _).mem hM)) ?_
  refine pv rfl (fun hS hM => r_loadAll hS hM rfl (j := 2) rfl Tryz.underlying95 rfl sz95 cells_len) ?_
  refine p_step rfl (fun a w hS hM => y_call (by kernel_rfl) hS rfl ((equal_ok _ _ (by first | exact limb51_ok _ | exact Tw.ok (by repeat first | assumption | exact Tw.read _ | exact Tw.small _ | exact Tw.zero | apply Tw.add | apply Tw.mul | apply Tw.neg | apply Tw.sub | apply Tw.r1 | apply Tw.inv | apply Tw.out | apply Tw.pow | exact Tw.self (by assumption))) (by first | exact limb51_ok _ | exact Tw.ok (by repeat first | assumption | exact Tw.read _ | exact Tw.small _ | exact Tw.zero | apply Tw.add | apply Tw.mul | apply Tw.neg | apply Tw.sub | apply Tw.r1 | apply Tw.inv | apply Tw.out | apply Tw.pow | exact Tw.self (by assumption))) _).mem hM)) ?_
  refine pv rfl (fun hS _ => r_not hS rfl) ?_
  refine p_nil rfl ?_; intro a w hS hM
  refine s_nil <| k_seq ?_
  refine c_cond hS rfl (fun hc => ?_) (fun hc => ?_)
  · have h1 : ¬ val (feMul (r0X x) (r0X x)) % pP = val x % pP := by simpa using hc
    refine c_plan 5 (fun w => Mem w0 w _) [(4, _), (1, _), (2, _), (3, _)] (by kernel_rfl) (by kernel_rfl) hS ⟨rfl, rfl, rfl, rfl, trivial⟩ (hM.drawn _) ?_; clear hS hM
    refine pv rfl (fun hS hM => r_loadAll hS hM rfl (j := 0) rfl Tryz.underlying95 rfl sz95 cells_len) ?_
    refine p_step rfl (fun a w hS hM => y_call (by kernel_rfl) hS (vs := [U 2#64]) rfl ((small_ok _ _).mem hM)) ?_
    refine p_step rfl (fun a w hS hM => y_call (by kernel_rfl) hS (vs := [B 251#8, B 31#8]) rfl ((exponent_ok _ _ _).mem hM)) ?_
    refine p_step rfl (fun a w hS hM => y_call (by kernel_rfl) hS rfl ((pow_ok _ _ _).mem hM)) ?_
    refine p_step rfl (fun a w hS hM => y_call (by kernel_rfl) hS rfl ((mul_ok _ _ _).mem hM)) ?_
    refine p_nil rfl ?_; intro a w hS hM
    refine s_storeAll hS hM rfl rfl (j := 0) rfl sz95 cells_len cells_len cU_one ?_; clear hS hM; intro a w hS hM
    rw [← r1X_no h1] at hM
    refine s_nil <| k_seq <| c_seq <| c_seq ?_
    refine c_plan 5 (fun w => Mem w0 w _) [(4, _), (1, _), (2, _), (3, _)] (by kernel_rfl) (by kernel_rfl) hS ⟨rfl, rfl, rfl, rfl, trivial⟩ (hM.drawn _) ?_; clear hS hM
    refine pv rfl (fun hS hM => r_loadAll hS hM rfl (j := 0) rfl Tryz.underlying95 rfl sz95 cells_len) ?_
    refine p_step rfl (fun a w hS hM => y_call (by kernel_rfl) hS rfl ((square_ok _ _).mem hM)) ?_
    refine pv rfl (fun hS hM => r_loadAll hS hM rfl (j := 2) rfl Tryz.underlying95 rfl sz95 cells_len) ?_
    refine p_step rfl (fun a w hS hM => y_call (by kernel_rfl) hS rfl ((equal_ok _ _ (by first | exact limb51_ok _ | exact Tw.ok (by repeat first | assumption | exact Tw.read _ | exact Tw.small _ | exact Tw.zero | apply Tw.add | apply Tw.mul | apply Tw.neg | apply Tw.sub | apply Tw.r1 | apply Tw.inv | apply Tw.out | apply Tw.pow | exact Tw.self (by assumption))) (by first | exact limb51_ok _ | exact Tw.ok (by repeat first | assumption | exact Tw.read _ | exact Tw.small _ | exact Tw.zero | apply Tw.add | apply Tw.mul | apply Tw.neg | apply Tw.sub | apply Tw.r1 | apply Tw.inv | apply Tw.out | apply Tw.pow | exact Tw.self (by assumption))) _).mem hM)) ?_
    refine pv rfl (fun hS _ => r_not hS rfl) ?_
    refine p_nil rfl ?_; intro a w hS hM
    refine s_nil <| k_seq ?_
    refine c_cond hS rfl (fun hc => ?_) (fun hc => ?_)
    · have h2 : ¬ val (feMul (r1X x) (r1X x)) % pP = val x % pP := by simpa using hc
      refine c_seq <| c_region ?_
      refine vg hS <| vv (fun hS => r_build hS rfl (cs := cU 5 (fun _ => 0)) (fun _ => by kernel_rfl)) ?_; clear hS; intro a hS
      refine s_storeAll hS hM rfl rfl (j := 1) rfl sz95 cells_len cells_len cU_one ?_; clear hS hM; intro a w hS hM
      refine vg hS <| va rfl ?_; clear hS; intro a hS
      refine s_nil <| k_seq <| c_ret <| k_thenr ?_
      exact k_res2 hS rfl (RV.row rfl (hM.have_ _ (mem_of_get (j := 1) rfl)) Tryz.underlying95 rfl (by rw [sz95]; exact congrArg some cells_len.symm)) (RV.tmp rfl) ⟨(by first | rw [(outX_none h2).1, (outX_none h2).2] | rw [(outX_odd h2 h3).1, (outX_odd h2 h3).2] | rw [(outX_even h2 h3).1, (outX_even h2 h3).2]), hM.done ⟨hb4, hb2, hb1, trivial⟩⟩
    · have h2 : val (feMul (r1X x) (r1X x)) % pP = val x % pP := by simpa using hc
      refine c_skip <| k_seq <| c_seq <| c_seq <| c_region ?_
      refine vg hS <| vv (r_loadAll · hM rfl (j := 0) rfl Tryz.underlying95 rfl sz95 cells_len) ?_; clear hS; intro a hS
      refine s_pure hS hM (by decide) rfl (odd_ok _ (by first | exact limb51_ok _ | exact Tw.ok (by repeat first | assumption | exact Tw.read _ | exact Tw.small _ | exact Tw.zero | apply Tw.add | apply Tw.mul | apply Tw.neg | apply Tw.sub | apply Tw.r1 | apply Tw.inv | apply Tw.out | apply Tw.pow | exact Tw.self (by assumption))) _) ?_; clear hS hM; intro a w hS hM
      refine s_nil <| k_seq ?_
      refine c_cond hS rfl (fun hc => ?_) (fun hc => ?_)
      · have h3 : val (r1X x) % pP % 2 = 1 := by simpa using hc
        refine c_region ?_
        refine vg hS <| vv (r_loadAll · hM rfl (j := 0) rfl Tryz.underlying95 rfl sz95 cells_len) ?_; clear hS; intro a hS
        refine s_pure hS hM (by decide) rfl (neg_ok _ _) ?_; clear hS hM; intro a w hS hM
        refine s_storeAll hS hM rfl rfl (j := 0) rfl sz95 cells_len cells_len cU_one ?_; clear hS hM; intro a w hS hM
        refine s_nil <| k_seq <| c_seq <| c_region ?_
        refine vg hS <| vv (r_loadAll · hM rfl (j := 0) rfl Tryz.underlying95 rfl sz95 cells_len) ?_; clear hS; intro a hS
        refine s_storeAll hS hM rfl rfl (j := 1) rfl sz95 cells_len cells_len cU_one ?_; clear hS hM; intro a w hS hM
        refine vg hS <| va rfl ?_; clear hS; intro a hS
        refine s_nil <| k_seq <| c_ret ?_
        exact k_res2 hS rfl (RV.row rfl (hM.have_ _ (mem_of_get (j := 1) rfl)) Tryz.underlying95 rfl (by rw [sz95]; exact congrArg some cells_len.symm)) (RV.tmp rfl) ⟨(by first | rw [(outX_none h2).1, (outX_none h2).2] | rw [(outX_odd h2 h3).1, (outX_odd h2 h3).2] | rw [(outX_even h2 h3).1, (outX_even h2 h3).2]), hM.done ⟨hb4, hb2, hb1, trivial⟩⟩
      · have h3 : ¬ val (r1X x) % pP % 2 = 1 := by simpa using hc
        refine c_skip <| k_seq <| c_seq <| c_region ?_
        refine vg hS <| vv (r_loadAll · hM rfl (j := 0) rfl Tryz.underlying95 rfl sz95 cells_len) ?_; clear hS; intro a hS
        refine s_storeAll hS hM rfl rfl (j := 1) rfl sz95 cells_len cells_len cU_one ?_; clear hS hM; intro a w hS hM
        refine vg hS <| va rfl ?_; clear hS; intro a hS
        refine s_nil <| k_seq <| c_ret ?_
        exact k_res2 hS rfl (RV.row rfl (hM.have_ _ (mem_of_get (j := 1) rfl)) Tryz.underlying95 rfl (by rw [sz95]; exact congrArg some cells_len.symm)) (RV.tmp rfl) ⟨(by first | rw [(outX_none h2).1, (outX_none h2).2] | rw [(outX_odd h2 h3).1, (outX_odd h2 h3).2] | rw [(outX_even h2 h3).1, (outX_even h2 h3).2]), hM.done ⟨hb4, hb2, hb1, trivial⟩⟩
  · have h1 : val (feMul (r0X x) (r0X x)) % pP = val x % pP := (by simpa using hc); rw [← r1X_yes h1] at hM
    refine c_skip <| k_seq <| c_seq <| c_seq ?_
    refine c_plan 5 (fun w => Mem w0 w _) [(4, _), (1, _), (2, _), (3, _)] (by kernel_rfl) (by kernel_rfl) hS ⟨rfl, rfl, rfl, rfl, trivial⟩ (hM.drawn _) ?_; clear hS hM
    refine pv rfl (fun hS hM => r_loadAll hS hM rfl (j := 0) rfl Tryz.underlying95 rfl sz95 cells_len) ?_
    refine p_step rfl (fun a w hS hM => y_call (by kernel_rfl) hS rfl ((square_ok _ _).mem hM)) ?_
    refine pv rfl (fun hS hM => r_loadAll hS hM rfl (j := 2) rfl Tryz.underlying95 rfl sz95 cells_len) ?_
    refine p_step rfl (fun a w hS hM => y_call (by kernel_rfl) hS rfl ((equal_ok _ _ (by first | exact limb51_ok _ | exact Tw.ok (by repeat first | assumption | exact Tw.read _ | exact Tw.small _ | exact Tw.zero | apply Tw.add | apply Tw.mul | apply Tw.neg | apply Tw.sub | apply Tw.r1 | apply Tw.inv | apply Tw.out | apply Tw.pow | exact Tw.self (by assumption))) (by first | exact limb51_ok _ | exact Tw.ok (by repeat first | assumption | exact Tw.read _ | exact Tw.small _ | exact Tw.zero | apply Tw.add | apply Tw.mul | apply Tw.neg | apply Tw.sub | apply Tw.r1 | apply Tw.inv | apply Tw.out | apply Tw.pow | exact Tw.self (by assumption))) _).mem hM)) ?_
    refine pv rfl (fun hS _ => r_not hS rfl) ?_
    refine p_nil rfl ?_; intro a w hS hM
    refine s_nil <| k_seq ?_
    refine c_cond hS rfl (fun hc => ?_) (fun hc => ?_)
    · have h2 : ¬ val (feMul (r1X x) (r1X x)) % pP = val x % pP := by simpa using hc
      refine c_seq <| c_region ?_
      refine vg hS <| vv (fun hS => r_build hS rfl (cs := cU 5 (fun _ => 0)) (fun _ => by kernel_rfl)) ?_; clear hS; intro a hS
      refine s_storeAll hS hM rfl rfl (j := 1) rfl sz95 cells_len cells_len cU_one ?_; clear hS hM; intro a w hS hM
      refine vg hS <| va rfl ?_; clear hS; intro a hS
      refine s_nil <| k_seq <| c_ret <| k_thenr ?_
      exact k_res2 hS rfl (RV.row rfl (hM.have_ _ (mem_of_get (j := 1) rfl)) Tryz.underlying95 rfl (by rw [sz95]; exact congrArg some cells_len.symm)) (RV.tmp rfl) ⟨(by first | rw [(outX_none h2).1, (outX_none h2).2] | rw [(outX_odd h2 h3).1, (outX_odd h2 h3).2] | rw [(outX_even h2 h3).1, (outX_even h2 h3).2]), hM.done ⟨hb4, hb2, hb1, trivial⟩⟩
    · have h2 : val (feMul (r1X x) (r1X x)) % pP = val x % pP := by simpa using hc
      refine c_skip <| k_seq <| c_seq <| c_seq <| c_region ?_
      refine vg hS <| vv (r_loadAll · hM rfl (j := 0) rfl Tryz.underlying95 rfl sz95 cells_len) ?_; clear hS; intro a hS
      refine s_pure hS hM (by decide) rfl (odd_ok _ (by first | exact limb51_ok _ | exact Tw.ok (by repeat first | assumption | exact Tw.read _ | exact Tw.small _ | exact Tw.zero | apply Tw.add | apply Tw.mul | apply Tw.neg | apply Tw.sub | apply Tw.r1 | apply Tw.inv | apply Tw.out | apply Tw.pow | exact Tw.self (by assumption))) _) ?_; clear hS hM; intro a w hS hM
      refine s_nil <| k_seq ?_
      refine c_cond hS rfl (fun hc => ?_) (fun hc => ?_)
      · have h3 : val (r1X x) % pP % 2 = 1 := by simpa using hc
        refine c_region ?_
        refine vg hS <| vv (r_loadAll · hM rfl (j := 0) rfl Tryz.underlying95 rfl sz95 cells_len) ?_; clear hS; intro a hS
        refine s_pure hS hM (by decide) rfl (neg_ok _ _) ?_; clear hS hM; intro a w hS hM
        refine s_storeAll hS hM rfl rfl (j := 0) rfl sz95 cells_len cells_len cU_one ?_; clear hS hM; intro a w hS hM
        refine s_nil <| k_seq <| c_seq <| c_region ?_
        refine vg hS <| vv (r_loadAll · hM rfl (j := 0) rfl Tryz.underlying95 rfl sz95 cells_len) ?_; clear hS; intro a hS
        refine s_storeAll hS hM rfl rfl (j := 1) rfl sz95 cells_len cells_len cU_one ?_; clear hS hM; intro a w hS hM
        refine vg hS <| va rfl ?_; clear hS; intro a hS
        refine s_nil <| k_seq <| c_ret ?_
        exact k_res2 hS rfl (RV.row rfl (hM.have_ _ (mem_of_get (j := 1) rfl)) Tryz.underlying95 rfl (by rw [sz95]; exact congrArg some cells_len.symm)) (RV.tmp rfl) ⟨(by first | rw [(outX_none h2).1, (outX_none h2).2] | rw [(outX_odd h2 h3).1, (outX_odd h2 h3).2] | rw [(outX_even h2 h3).1, (outX_even h2 h3).2]), hM.done ⟨hb4, hb2, hb1, trivial⟩⟩
      · have h3 : ¬ val (r1X x) % pP % 2 = 1 := by simpa using hc
        refine c_skip <| k_seq <| c_seq <| c_region ?_
        refine vg hS <| vv (r_loadAll · hM rfl (j := 0) rfl Tryz.underlying95 rfl sz95 cells_len) ?_; clear hS; intro a hS
        refine s_storeAll hS hM rfl rfl (j := 1) rfl sz95 cells_len cells_len cU_one ?_; clear hS hM; intro a w hS hM
        refine vg hS <| va rfl ?_; clear hS; intro a hS
        refine s_nil <| k_seq <| c_ret ?_
        exact k_res2 hS rfl (RV.row rfl (hM.have_ _ (mem_of_get (j := 1) rfl)) Tryz.underlying95 rfl (by rw [sz95]; exact congrArg some cells_len.symm)) (RV.tmp rfl) ⟨(by first | rw [(outX_none h2).1, (outX_none h2).2] | rw [(outX_odd h2 h3).1, (outX_odd h2 h3).2] | rw [(outX_even h2 h3).1, (outX_even h2 h3).2]), hM.done ⟨hb4, hb2, hb1, trivial⟩⟩
set_option maxRecDepth 100000 in
theorem ratio_ok (u v : Nat → BitVec 64) (hu : Ok u) (hv : Ok v) (w0 : World) : Pure Tryz.prog 224 #[.agg (cU 5 u).toArray, .agg (cU 5 v).toArray] w0 (.tuple #[.agg (cU 5 (ratioX u v).1).toArray, .bool (ratioX u v).2]) := by
  refine ⟨by kernel_rfl, ?_⟩
  refine calls_sym Tryz.func224 rfl (by kernel_rfl) ?_
  intro a hS
  have hM : Mem w0 w0 [] := Mem.refl w0
  refine c_seq <| c_region ?_
  refine s_box hS hM (by decide) rfl rfl ?_; clear hS hM; intro a b2 w hb2 hS hM
  refine s_box hS hM (by decide) rfl rfl ?_; clear hS hM; intro a b3 w hb3 hS hM
  refine s_alloc hS hM (by decide) zero95 ?_; clear hS hM; intro a b4 w hb4 hS hM
  refine vg hS <| va rfl ?_; clear hS; intro a hS
  refine s_nil <| k_seq <| c_seq <| c_seq <| c_region ?_
  refine vg hS <| vv (r_loadAll · hM rfl (j := 1) rfl Tryz.underlying95 rfl sz95 cells_len) ?_; clear hS; intro a hS
  refine s_pure hS hM (by decide) rfl (iszero_ok _ (by first | exact limb51_ok _ | exact Tw.ok (by repeat first | assumption | exact Tw.read _ | exact Tw.small _ | exact Tw.zero | apply Tw.add | apply Tw.mul | apply Tw.neg | apply Tw.sub | apply Tw.r1 | apply Tw.inv | apply Tw.out | apply Tw.pow | exact Tw.self (by assumption))) _) ?_; clear hS hM; intro a w hS hM
  refine s_nil <| k_seq ?_
  refine c_cond hS rfl (fun hc => ?_) (fun hc => ?_)
  · have h1 : val v % pP = 0 := by simpa using hc
    refine c_seq <| c_region ?_
    refine vg hS <| vv (fun hS => r_build hS rfl (cs := cU 5 (fun _ => 0)) (fun _ => by kernel_rfl)) <| vv (r_loadAll · hM rfl (j := 2) rfl Tryz.underlying95 rfl sz95 cells_len) ?_; clear hS; intro a hS
    refine s_pure hS hM (by decide) rfl (iszero_ok _ (by first | exact limb51_ok _ | exact Tw.ok (by repeat first | assumption | exact Tw.read _ | exact Tw.small _ | exact Tw.zero | apply Tw.add | apply Tw.mul | apply Tw.neg | apply Tw.sub | apply Tw.r1 | apply Tw.inv | apply Tw.out | apply Tw.pow | exact Tw.self (by assumption))) _) ?_; clear hS hM; intro a w hS hM
    refine s_storeAll hS hM rfl rfl (j := 0) rfl sz95 cells_len cells_len cU_one ?_; clear hS hM; intro a w hS hM
    refine vg hS <| va rfl ?_; clear hS; intro a hS
    refine s_nil <| k_seq <| c_ret <| k_thenr ?_
    exact k_res2 hS rfl (RV.row rfl (hM.have_ _ (mem_of_get (j := 0) rfl)) Tryz.underlying95 rfl (by rw [sz95]; exact congrArg some cells_len.symm)) (RV.tmp rfl) ⟨(by first | rw [ratioX_yes h1] | (rw [ratioX_no h1]; rfl)), hM.done ⟨hb4, hb3, hb2, trivial⟩⟩
  · have h1 : ¬ val v % pP = 0 := by simpa using hc
    refine c_skip <| k_seq <| c_seq ?_
    refine c_plan 7 (fun w => Mem w0 w _) [(2, _), (3, _), (4, _), (5, _)] (by kernel_rfl) (by kernel_rfl) hS ⟨rfl, rfl, rfl, rfl, trivial⟩ (hM.drawn _) ?_; clear hS hM
    refine pv rfl (fun hS hM => r_loadAll hS hM rfl (j := 2) rfl Tryz.underlying95 rfl sz95 cells_len) <| pv rfl (fun hS hM => r_loadAll hS hM rfl (j := 1) rfl Tryz.underlying95 rfl sz95 cells_len) ?_
    refine p_step rfl (fun a w hS hM => y_call (by kernel_rfl) hS rfl ((invert_ok _ _).mem hM)) ?_
    refine p_step rfl (fun a w hS hM => y_call (by kernel_rfl) hS rfl ((mul_ok _ _ _).mem hM)) ?_
    refine p_step rfl (fun a w hS hM => y_call (by kernel_rfl) hS rfl ((sqrt_ok _ (by first | exact limb51_ok _ | exact Tw.ok (by repeat first | assumption | exact Tw.read _ | exact Tw.small _ | exact Tw.zero | apply Tw.add | apply Tw.mul | apply Tw.neg | apply Tw.sub | apply Tw.r1 | apply Tw.inv | apply Tw.out | apply Tw.pow | exact Tw.self (by assumption))) _).mem hM)) ?_
    refine pv rfl (fun hS _ => r_extract hS rfl rfl) <| pv rfl (fun hS _ => r_extract hS rfl rfl) ?_
    refine p_nil rfl ?_; intro a w hS hM
    refine s_storeAll hS hM rfl rfl (j := 0) rfl sz95 cells_len cells_len cU_one ?_; clear hS hM; intro a w hS hM
    refine vg hS <| va rfl ?_; clear hS; intro a hS
    refine s_nil <| k_seq <| c_ret ?_
    exact k_res2 hS rfl (RV.row rfl (hM.have_ _ (mem_of_get (j := 0) rfl)) Tryz.underlying95 rfl (by rw [sz95]; exact congrArg some cells_len.symm)) (RV.tmp rfl) ⟨(by first | rw [ratioX_yes h1] | (rw [ratioX_no h1]; rfl)), hM.done ⟨hb4, hb3, hb2, trivial⟩⟩
end Go.Proofs.YtgmieahcpkcabaaGreat
namespace Go.Sym
open Go
def ordL : Nat := 7237005577332262213973186563042994240857116359379907606001950938285454250989
def pwS (k : Nat) : Nat := 2 ^ (64 * k)
theorem lt_pw {n k m : Nat} (h : n < 2 ^ k) (hk : k ≤ 64 * m) : n < pwS m := Nat.lt_of_lt_of_le h (Nat.pow_le_pow_right (by decide) hk)
theorem diff_limb' (a b n k : Nat) (hk : k < n) (hb : b < pwS n) (c : BitVec 64) (hc : c.toNat = borrowOf a b k) :
    limb a k - limb b k - c = limb (a + (pwS n - b)) k ∧ (bout (limb a k) (limb b k) c).toNat = borrowOf a b (k + 1) := diff_limb a b n k hk hb c hc
theorem borrow_lt {a b k : Nat} (ha : a < pwS k) (hb : b < pwS k) : borrowOf a b k = if a < b then 1 else 0 := by
  unfold pwS at ha hb
  unfold borrowOf
  rw [Nat.mod_eq_of_lt ha, Nat.mod_eq_of_lt hb]
theorem limb_pw (n k i : Nat) (h : i < k) : limb (n + pwS k) i = limb n i := by
  unfold pwS
  rw [← limb_mod _ k i h, Nat.add_mod_right, limb_mod _ k i h]
def M512 : Nat := pwS 8
def mixL (s a k : Nat) : Nat → BitVec 64 := fun i => if i < k then limb s i else limb a i
theorem mixL_zero (s a : Nat) : mixL s a 0 = limb a := by funext i; exact if_neg (Nat.not_lt_zero i)
theorem mixL_self (s a k : Nat) : mixL s a k k = limb a k := if_neg (Nat.lt_irrefl k)
theorem mixL_upd (s a k : Nat) : upd (mixL s a k) k (limb s k) = mixL s a (k + 1) := by
  funext i
  unfold upd mixL
  by_cases h : i = k
  · subst h; rw [if_pos rfl, if_pos (by omega)]
  · rw [if_neg h]
    by_cases h2 : i < k
    · rw [if_pos h2, if_pos (by omega)]
    · rw [if_neg h2, if_neg (by omega)]
theorem cU_mixL (s a k : Nat) : cU k (mixL s a k) = cU k (limb s) := cU_congr fun _ hi => if_pos hi
theorem carry_bv (a b k : Nat) : (BitVec.ofNat 64 (carryOf a b k)).toNat = carryOf a b k := by rw [BitVec.toNat_ofNat]; have := carryOf_le a b k; omega
theorem borrowOf_le (a b k : Nat) : borrowOf a b k ≤ 1 := by unfold borrowOf; split <;> omega
theorem borrow_bv (a b k : Nat) : (BitVec.ofNat 64 (borrowOf a b k)).toNat = borrowOf a b k := by rw [BitVec.toNat_ofNat]; have := borrowOf_le a b k; omega
theorem sum_step (a b k : Nat) : upd (mixL (a + b) a k) k (mixL (a + b) a k k + limb b k + BitVec.ofNat 64 (carryOf a b k)) = mixL (a + b) a (k + 1) := by
  rw [mixL_self, (sum_limb a b k _ (carry_bv a b k)).1, mixL_upd]
theorem sum_carry (a b k : Nat) : cout (mixL (a + b) a k k) (limb b k) (BitVec.ofNat 64 (carryOf a b k)) = BitVec.ofNat 64 (carryOf a b (k + 1)) := by
  rw [mixL_self]
  apply BitVec.eq_of_toNat_eq
  rw [(sum_limb a b k _ (carry_bv a b k)).2, carry_bv]
theorem diff_step (a b k : Nat) (hk : k < 8) (hb : b < M512) : upd (mixL (a + (M512 - b)) a k) k (mixL (a + (M512 - b)) a k k - limb b k - BitVec.ofNat 64 (borrowOf a b k)) = mixL (a + (M512 - b)) a (k + 1) := by
  have h := (diff_limb' a b 8 k hk hb _ (borrow_bv a b k)).1
  rw [mixL_self, h]
  exact mixL_upd _ a k
theorem diff_borrow (a b k : Nat) (hk : k < 8) (hb : b < M512) : bout (mixL (a + (M512 - b)) a k k) (limb b k) (BitVec.ofNat 64 (borrowOf a b k)) = BitVec.ofNat 64 (borrowOf a b (k + 1)) := by
  rw [mixL_self]
  apply BitVec.eq_of_toNat_eq
  rw [(diff_limb' a b 8 k hk hb _ (borrow_bv a b k)).2, borrow_bv]
theorem ordL_pos : 0 < ordL := by decide
theorem ordL_lt : ordL < 2 ^ 253 := by decide
def red (n i : Nat) : Nat := n / 2 ^ i % ordL
theorem red_lt (n i : Nat) : red n i < ordL := Nat.mod_lt _ ordL_pos
theorem red_step (n i : Nat) : red n i = (2 * red n (i + 1) + n / 2 ^ i % 2) % ordL := by
  unfold red
  have h1 : n / 2 ^ i = 2 * (n / 2 ^ (i + 1)) + n / 2 ^ i % 2 := by
    rw [Nat.pow_succ, ← Nat.div_div_eq_div_mul]; omega
  conv => lhs; rw [h1]
  rw [Nat.add_mod, Nat.mul_mod, Nat.add_mod (2 * _) _ ordL, Nat.mul_mod 2 (n / 2 ^ (i + 1) % ordL), Nat.mod_mod]
theorem red_top (n k : Nat) (h : n < 2 ^ k) : red n k = 0 := by unfold red; rw [Nat.div_eq_of_lt h]; rfl
theorem red_pw {n k : Nat} (h : n < pwS k) : red n (64 * k) = 0 := red_top n _ h
theorem red_zero (n : Nat) : red n 0 = n % ordL := by unfold red; rw [Nat.pow_zero, Nat.div_one]
theorem red_by (n i : Nat) : red n i = if borrowOf (2 * red n (i + 1) + n / 2 ^ i % 2) ordL 8 = 0 then 2 * red n (i + 1) + n / 2 ^ i % 2 - ordL else 2 * red n (i + 1) + n / 2 ^ i % 2 := by
  rw [red_step]
  have h1 := red_lt n (i + 1)
  have h2 := ordL_lt
  generalize red n (i + 1) = r at *
  have h3 : n / 2 ^ i % 2 < 2 := Nat.mod_lt _ (by decide)
  generalize n / 2 ^ i % 2 = b at *
  have h4 : (2 : Nat) ^ 253 = 14474011154664524427946373126085988481658748083205070504932198000989141204992 := by decide +kernel
  have h5 : 2 * r + b < pwS 8 := lt_pw (k := 254) (by rw [Nat.pow_succ]; omega) (by decide)
  have h6 : ordL < pwS 8 := lt_pw h2 (by decide)
  rw [borrow_lt h5 h6]
  clear h5 h6
  by_cases h : 2 * r + b < ordL
  · rw [if_pos h, if_neg (by decide), Nat.mod_eq_of_lt h]
  · rw [if_neg h, if_pos rfl, Nat.mod_eq_sub_mod (by omega), Nat.mod_eq_of_lt (by omega)]
theorem limb_sub (n : Nat) (h : ordL ≤ n) (i : Nat) (hi : i < 8) : limb (n + (M512 - ordL)) i = limb (n - ordL) i := by
  have h2 : ordL < pwS 8 := lt_pw ordL_lt (by decide)
  have h3 : n + (M512 - ordL) = (n - ordL) + pwS 8 := by
    unfold M512
    generalize pwS 8 = m at h2 ⊢
    omega
  rw [h3, limb_pw _ 8 i hi]
theorem limb_bit_or (n : Nat) (b : BitVec 64) (hb : b.toNat < 2) : upd (limb (n + n)) 0 (limb (n + n) 0 ||| b) = limb (2 * n + b.toNat) := by
  have h := limb_or (n + n) 0 0
  funext j
  unfold upd
  apply BitVec.eq_of_toNat_eq
  by_cases hj : j = 0
  · subst hj
    rw [if_pos rfl, BitVec.toNat_or, limb_toNat, limb_toNat]
    simp only [Nat.mul_zero, Nat.pow_zero, Nat.div_one]
    have h1 : (n + n) % 2 ^ 64 = 2 * (n % 2 ^ 63) := by omega
    have h2 : (n + n) % 2 ^ 64 ||| b.toNat = (n + n) % 2 ^ 64 + b.toNat := by
      rw [h1]
      exact (Nat.two_pow_add_eq_or_of_lt (i := 1) (b := b.toNat) hb (n % 2 ^ 63)).symm
    rw [h2]
    omega
  · rw [if_neg hj, limb_toNat, limb_toNat]
    have e : 64 * j = 1 + (64 * j - 1) := by omega
    rw [e, Nat.pow_add, ← Nat.div_div_eq_div_mul, ← Nat.div_div_eq_div_mul]
    have h1 : (n + n) / 2 ^ 1 = n := by omega
    have h2 : (2 * n + b.toNat) / 2 ^ 1 = n := by omega
    rw [h1, h2]
theorem natU_upd (f : Nat → BitVec 64) (p : Nat) (v : BitVec 64) : ∀ k, natU (upd f p v) k + (if p < k then (f p).toNat * 2 ^ (64 * p) else 0) = natU f k + (if p < k then v.toNat * 2 ^ (64 * p) else 0) := by
  intro k
  induction k with
  | zero => simp [natU, sumD]
  | succ k ih =>
    rw [natU_succ, natU_succ]
    by_cases h : p < k
    · rw [if_pos h, if_pos h] at ih
      rw [if_pos (by omega), if_pos (by omega)]
      have : upd f p v k = f k := by unfold upd; rw [if_neg (by omega)]
      rw [this]; omega
    · rw [if_neg h, if_neg h] at ih
      by_cases h2 : p = k
      · subst h2
        rw [if_pos (by omega), if_pos (by omega)]
        have : upd f p v p = v := by unfold upd; rw [if_pos rfl]
        rw [this]; omega
      · rw [if_neg (by omega), if_neg (by omega)]
        have : upd f p v k = f k := by unfold upd; rw [if_neg (fun e => h2 e.symm)]
        rw [this]; omega
def macLo (x y c o : BitVec 64) : BitVec 64 := o + (x * y + c + 0#64) + 0#64
def macHi (x y c o : BitVec 64) : BitVec 64 := mulHi x y + cout (x * y) c 0#64 + cout o (x * y + c + 0#64) 0#64
theorem mac_fin (b lo hi m c o k1 k2 s1 s2 : Nat) (h1 : hi * b + lo = m) (d1 : b * k1 + s1 = lo + c) (d2 : b * k2 + s2 = o + s1) : (hi + k1 + k2) * b + s2 = m + c + o := by
  rw [Nat.add_mul, Nat.add_mul, Nat.mul_comm k1, Nat.mul_comm k2]
  omega
theorem mac_nat (lo hi m c o : Nat) (h1 : hi * 18446744073709551616 + lo = m) (hb : m ≤ 340282366920938463426481119284349108225) (h2 : lo < 18446744073709551616) (h3 : c < 18446744073709551616) (h4 : o < 18446744073709551616) :
    (((hi + (lo + c + 0) / 18446744073709551616 % 18446744073709551616) % 18446744073709551616 + (o + (((lo + c) % 18446744073709551616 + 0) % 18446744073709551616) + 0) / 18446744073709551616 % 18446744073709551616) % 18446744073709551616) * 18446744073709551616 +
      ((o + ((lo + c) % 18446744073709551616 + 0) % 18446744073709551616) % 18446744073709551616 + 0) % 18446744073709551616 = m + c + o := by
  simp only [Nat.add_zero, Nat.mod_mod]
  have d1 := Nat.div_add_mod (lo + c) 18446744073709551616
  have m1 := Nat.mod_lt (lo + c) (show 0 < 18446744073709551616 by decide)
  generalize (lo + c) / 18446744073709551616 = k1 at d1 ⊢
  generalize (lo + c) % 18446744073709551616 = s1 at d1 m1 ⊢
  have d2 := Nat.div_add_mod (o + s1) 18446744073709551616
  have m2 := Nat.mod_lt (o + s1) (show 0 < 18446744073709551616 by decide)
  generalize (o + s1) / 18446744073709551616 = k2 at d2 ⊢
  generalize (o + s1) % 18446744073709551616 = s2 at d2 m2 ⊢
  have b1 : k1 ≤ 1 := by omega
  have b2 : k2 ≤ 1 := by omega
  have b3 : hi + k1 + k2 < 18446744073709551616 := by omega
  rw [Nat.mod_eq_of_lt (a := k1) (by omega), Nat.mod_eq_of_lt (a := k2) (by omega), Nat.mod_eq_of_lt (a := hi + k1) (by omega), Nat.mod_eq_of_lt b3]
  exact mac_fin _ _ _ _ _ _ _ _ _ _ h1 d1 d2
theorem mac_spec (x y c o : BitVec 64) : (macHi x y c o).toNat * 18446744073709551616 + (macLo x y c o).toNat = x.toNat * y.toNat + c.toNat + o.toNat := by
  have hx := x.isLt
  have hy := y.isLt
  have hb : x.toNat * y.toNat ≤ 340282366920938463426481119284349108225 := Nat.mul_le_mul (show x.toNat ≤ 18446744073709551615 by omega) (show y.toNat ≤ 18446744073709551615 by omega)
  have key := mac_nat _ _ _ _ _ (mul_split x y) hb (x * y).isLt c.isLt o.isLt
  have add0 : ∀ u v : BitVec 64, (u + v).toNat = (u.toNat + v.toNat) % 18446744073709551616 := fun u v => BitVec.toNat_add u v
  have of0 : ∀ q : Nat, (BitVec.ofNat 64 q).toNat = q % 18446744073709551616 := fun q => BitVec.toNat_ofNat q 64
  unfold macHi macLo cout
  simp only [add0, of0]
  exact key
def TimIn (n k a b i j : Nat) (g : Nat → BitVec 64) (c : BitVec 64) : Prop :=
  natU g k + c.toNat * 2 ^ (64 * (i + j)) = (a % 2 ^ (64 * i)) * (b % 2 ^ (64 * n)) + (limb a i).toNat * (b % 2 ^ (64 * j)) * 2 ^ (64 * i) ∧ (∀ p, i + n ≤ p → g p = 0)
def TimOut (n k a b i : Nat) (g : Nat → BitVec 64) : Prop := natU g k = (a % 2 ^ (64 * i)) * (b % 2 ^ (64 * n)) ∧ (∀ p, i + n ≤ p → g p = 0)
theorem natU_zero (k : Nat) : natU (fun _ => 0) k = 0 := by
  induction k with
  | zero => rfl
  | succ k ih => rw [natU_succ, ih]; simp
theorem TimOut.start (n k a b : Nat) : TimOut n k a b 0 (fun _ => 0) := ⟨by rw [natU_zero]; simp [Nat.mod_one], fun _ _ => rfl⟩
theorem TimOut.inner {n k a b i : Nat} {g : Nat → BitVec 64} (h : TimOut n k a b i g) : TimIn n k a b i 0 g 0#64 := ⟨by rw [h.1]; simp [Nat.mod_one], h.2⟩
theorem tim_nat (G G' lo hi c o x y Q P B W C : Nat) (h1 : G' + o * (Q * P) = G + lo * (Q * P)) (h2 : hi * W + lo = x * y + c + o) (h3 : G + c * (Q * P) = C + x * B * Q) :
    G' + hi * (W * (Q * P)) = C + x * (B + P * y) * Q := by
  have h4 : (hi * W + lo) * (Q * P) = (x * y + c + o) * (Q * P) := by rw [h2]
  rw [Nat.add_mul, Nat.add_mul, Nat.add_mul] at h4
  have e4 : hi * (W * (Q * P)) = hi * W * (Q * P) := (Nat.mul_assoc ..).symm
  have e5 : x * (B + P * y) * Q = x * B * Q + x * y * (Q * P) := by
    rw [Nat.mul_add, Nat.add_mul]
    congr 1
    ac_rfl
  rw [e4, e5]
  omega
theorem TimIn.step {n k a b i j : Nat} {g : Nat → BitVec 64} {c : BitVec 64} (hj : i + j < k) (h : TimIn n k a b i j g c) :
    TimIn n k a b i (j + 1) (upd g (i + j) (macLo (limb a i) (limb b j) c (g (i + j)))) (macHi (limb a i) (limb b j) c (g (i + j))) ∨ n ≤ j := by
  by_cases hjn : j < n
  · refine .inl ⟨?_, fun p hp => by unfold upd; rw [if_neg (by omega)]; exact h.2 p (by omega)⟩
    have h1 := natU_upd g (i + j) (macLo (limb a i) (limb b j) c (g (i + j))) k
    rw [if_pos hj, if_pos hj] at h1
    have h2 := mac_spec (limb a i) (limb b j) c (g (i + j))
    have h3 := h.1
    have e1 : 2 ^ (64 * (i + (j + 1))) = 2 ^ 64 * 2 ^ (64 * (i + j)) := by
      rw [show 64 * (i + (j + 1)) = 64 + 64 * (i + j) by omega, Nat.pow_add]
    have e2 : b % 2 ^ (64 * (j + 1)) = b % 2 ^ (64 * j) + 2 ^ (64 * j) * (limb b j).toNat := by rw [pow_succ64, Nat.mod_mul, limb_toNat]
    have e3 : 2 ^ (64 * (i + j)) = 2 ^ (64 * i) * 2 ^ (64 * j) := by rw [Nat.mul_add, Nat.pow_add]
    rw [e3] at h1 h3
    rw [e1, e2, e3]
    exact tim_nat _ _ _ _ _ _ _ _ _ _ _ _ _ h1 h2 h3
  · exact .inr (by omega)
theorem tim_out (G G' c Q A x B T : Nat) (h1 : G' + 0 * T = G + c * T) (h3 : G + c * T = A * B + x * B * Q) : G' = A * B + Q * x * B := by
  have e : Q * x * B = x * B * Q := by ac_rfl
  rw [e]; omega
theorem TimIn.out {n k a b i : Nat} {g : Nat → BitVec 64} {c : BitVec 64} (hi : i + n < k) (h : TimIn n k a b i n g c) : TimOut n k a b (i + 1) (upd g (i + n) c) := by
  refine ⟨?_, fun p hp => by unfold upd; rw [if_neg (by omega)]; exact h.2 p (by omega)⟩
  have h1 := natU_upd g (i + n) c k
  rw [if_pos hi, if_pos hi, h.2 _ (Nat.le_refl _)] at h1
  have h3 := h.1
  have e2 : a % 2 ^ (64 * (i + 1)) = a % 2 ^ (64 * i) + 2 ^ (64 * i) * (limb a i).toNat := by rw [pow_succ64, Nat.mod_mul, limb_toNat]
  rw [e2, Nat.add_mul]
  rw [show (0 : BitVec 64).toNat = 0 from rfl] at h1
  exact tim_out _ _ _ _ _ _ _ _ h1 h3
theorem TimOut.all {n k a b : Nat} {g : Nat → BitVec 64} (h : TimOut n k a b n g) : cU k g = cU k (limb ((a % 2 ^ (64 * n)) * (b % 2 ^ (64 * n)))) := by rw [cU_limb g k, h.1]
theorem step_lt (n i : Nat) : 2 * red n (i + 1) + n / 2 ^ i % 2 < pwS 8 := by
  have h1 := red_lt n (i + 1)
  have h2 := ordL_lt
  have h3 : n / 2 ^ i % 2 < 2 := Nat.mod_lt _ (by decide)
  exact lt_pw (k := 254) (by rw [Nat.pow_succ]; omega) (by decide)
theorem ord_pw : ordL < pwS 8 := lt_pw ordL_lt (by decide)
theorem bor_zero {a b : Nat} (h : BitVec.ofNat 64 (borrowOf a b 8) = 0#64) : borrowOf a b 8 = 0 := by
  have := congrArg BitVec.toNat h
  rw [borrow_bv] at this
  exact this
theorem red_yes {n i q : Nat} (hq : q = 2 * red n (i + 1) + n / 2 ^ i % 2) (h : BitVec.ofNat 64 (borrowOf q ordL 8) = 0#64) : cU 8 (limb (q + (M512 - ordL))) = cU 8 (limb (red n i)) := by
  have h0 := bor_zero h
  have h1 := red_by n i
  rw [← hq, if_pos h0] at h1
  have hle : ordL ≤ q := by
    have h2 : q < pwS 8 := hq ▸ step_lt n i
    rw [borrow_lt h2 ord_pw] at h0
    by_cases h3 : q < ordL
    · rw [if_pos h3] at h0; omega
    · omega
  rw [h1]
  exact cU_congr fun j hj => limb_sub q hle j hj
theorem red_no {n i q : Nat} (hq : q = 2 * red n (i + 1) + n / 2 ^ i % 2) (h : ¬ BitVec.ofNat 64 (borrowOf q ordL 8) = 0#64) : cU 8 (limb q) = cU 8 (limb (red n i)) := by
  have h1 := red_by n i
  rw [← hq, if_neg (fun e => h (by rw [e]))] at h1
  rw [h1]
theorem bit_lay {n i r : Nat} : upd (limb (r + r)) 0 (limb (r + r) 0 ||| (limb n (i / 64) >>> (i % 64) &&& 1#64)) = limb (2 * r + n / 2 ^ i % 2) := by
  have hb := limb_bit n i
  rw [limb_bit_or r _ (by rw [hb]; exact Nat.mod_lt _ (by decide)), hb]
theorem cB_lt (f : Nat → BitVec 8) : natB f 32 < 2 ^ 256 := natB_lt f 32
theorem pwS_add (j k : Nat) : pwS (j + k) = pwS j * pwS k := by unfold pwS; rw [Nat.mul_add, Nat.pow_add]
theorem pw8 : pwS 8 = pwS 4 * pwS 4 := pwS_add 4 4
theorem natB_pw (f : Nat → BitVec 8) (k : Nat) : natB f (8 * k) < pwS k := by
  have := natB_lt f (8 * k)
  rw [← Nat.mul_assoc] at this
  exact this
theorem two_le_pw4 : 2 ≤ pwS 4 := by unfold pwS; decide +kernel
theorem add_lt_sq {a b m : Nat} (ha : a < m) (hb : b < m) (hm : 2 ≤ m) : a + b < m * m := by
  have := Nat.mul_le_mul_right m hm
  omega
theorem mad_lt_sq {a b c m : Nat} (ha : a < m) (hb : b < m) (hc : c < m) : a * b + c < m * m := by
  obtain ⟨n, rfl⟩ : ∃ n, m = n + 1 := ⟨m - 1, by omega⟩
  have h1 : a * b ≤ n * n := Nat.mul_le_mul (by omega) (by omega)
  rw [Nat.mul_succ, Nat.succ_mul]
  omega
theorem sum_pw (f g : Nat → BitVec 8) : natB f 32 + natB g 32 < pwS 8 := by
  rw [pw8]
  exact add_lt_sq (natB_pw f 4) (natB_pw g 4) two_le_pw4
theorem mad_pw (f g h : Nat → BitVec 8) : (natB f 32 % 2 ^ (64 * 4)) * (natB g 32 % 2 ^ (64 * 4)) + natB h 32 < pwS 8 := by
  rw [pw8]
  exact mad_lt_sq (Nat.mod_lt _ (Nat.two_pow_pos _)) (Nat.mod_lt _ (Nat.two_pow_pos _)) (natB_pw h 4)
theorem mod4 (f : Nat → BitVec 8) : natB f 32 % 2 ^ (64 * 4) = natB f 32 := Nat.mod_eq_of_lt (cB_lt f)
theorem natB64_pw (f : Nat → BitVec 8) : natB f 64 < pwS 8 := natB_pw f 8
theorem canon_eq (f : Nat → BitVec 8) : decide (BitVec.ofNat 64 (borrowOf (natB f 32) ordL 8) = 1#64) = decide (natB f 32 < ordL) := by
  have h : natB f 32 < pwS 8 := Nat.lt_of_le_of_lt (Nat.le_add_right _ _) (sum_pw f f)
  rw [borrow_lt h ord_pw]
  by_cases h2 : natB f 32 < ordL
  · rw [if_pos h2]; simp [h2]
  · rw [if_neg h2]; simp [h2]
end Go.Sym
namespace Go.Sym
open Go
theorem byte_bit (f : Nat → BitVec 8) (p : Nat) (h : p < 256) : (f (p / 8) >>> (p % 8) &&& 1#8).toNat = natB f 32 / 2 ^ p % 2 := by
  have h1 := byt_natB f 32 (p / 8) (by omega)
  rw [BitVec.toNat_and, BitVec.toNat_ushiftRight, ← h1, byt_toNat, Nat.shiftRight_eq_div_pow]
  generalize natB f 32 = n
  have e : 2 ^ p = 2 ^ (8 * (p / 8)) * 2 ^ (p % 8) := by rw [← Nat.pow_add]; congr 1; omega
  rw [e, ← Nat.div_div_eq_div_mul]
  generalize n / 2 ^ (8 * (p / 8)) = m
  have e2 : (2 : Nat) ^ 8 = 2 ^ (p % 8) * (2 * 2 ^ (7 - p % 8)) := by rw [← Nat.pow_succ', ← Nat.pow_add]; congr 1; omega
  rw [e2, Nat.mod_mul_right_div_self]
  have h1 : ∀ q : Nat, q &&& (1#8).toNat = q % 2 := fun q => Nat.and_two_pow_sub_one_eq_mod q 1
  rw [h1, Nat.mod_mul_right_mod]
theorem bitZ_in (f : Nat → BitVec 8) (p : Nat) (h : p < 256) : (f (p / 8) >>> (p % 8) &&& 1#8).toNat = bitZ f (p : Int) := by
  rw [byte_bit f p h]
  unfold bitZ
  rw [if_pos (by omega)]
  rfl
end Go.Sym
