/- The walks through package powers and the definition's powers. Printed by a program of mine (walk.py). -/
import Derived.Test.YtjnhgeoojnnfoaaFe12
import Derived.Test.YtjnhgeoojnnfoaaPow
import Derived.Test.YtjnhgeoojnnfoaaSymStore
namespace Go.Proofs.Ytjnhgeoojnnfoaa
open Go Go.Sym
attribute [local irreducible] feAdd feMul feSub limb51 natB feCarry val dig byt r1X outX okX



set_option maxRecDepth 100000 in
theorem exponent_ok (l h : BitVec 8) (w0 : World) : Pure Try.prog 50 #[B l, B h] w0 (.agg (cB 32 (expo l h)).toArray) := by
  refine ⟨by kernel_rfl, ?_⟩
  refine calls_sym Try.func50 rfl (by kernel_rfl) ?_
  intro a hS
  have hM : Mem w0 w0 [] := Mem.refl w0
  refine c_seq ?_
  refine c_region ?_
  refine s_alloc hS hM (by decide) zero22 ?_; clear hS hM; intro a b4 w hb4 hS hM
  refine s_nil ?_
  refine k_seq ?_
  refine c_seq ?_
  refine c_region ?_
  refine s_alloc hS hM (by decide) zero22 ?_; clear hS hM; intro a b5 w hb5 hS hM
  refine s_nil ?_
  refine k_seq ?_
  refine c_seq ?_
  refine c_seq ?_
  refine c_region ?_
  refine s_val hS (by decide) rfl rfl (r_move hS (show ev _ _ = some (N 0) from rfl)) ?_; clear hS; intro a hS
  refine s_nil ?_
  refine k_seq ?_
  refine c_block ?_
  refine c_loop (σ := Nat) (fun k a w => (k ≤ 32) ∧ Slots a 18 (env [(0, B l), (1, B h), (4, ptr b4 0), (5, ptr b5 0), (7, N k)]) ∧ Mem w0 w ([⟨b5, 22, cB 32 (fil 0 (fun _ => 255#8) k)⟩, ⟨b4, 22, cB 32 (fun _ => 0)⟩])) (fun k => 32 - k) (0) ⟨by omega, hS.to _ ⟨rfl, rfl, rfl, rfl, rfl, trivial⟩, hM⟩ ?_
  clear hS hM; rintro k a w ⟨hk, hS, hM⟩
  refine c_seq ?_
  refine c_region ?_
  refine s_val hS (by decide) rfl rfl (r_bv hS rfl (show ev _ _ = some (N 32) from rfl) gN (b_lssN _ _ _)) ?_; clear hS; intro a hS
  refine s_nil ?_
  refine k_seq ?_
  refine c_seq ?_
  refine c_cond hS rfl (fun hc => ?_) (fun hc => ?_)
  · have hk1 := of_decide_eq_true hc
    refine c_skip ?_
    refine k_seq ?_
    refine c_seq ?_
    refine c_block ?_
    refine c_seq ?_
    refine c_region ?_
    refine s_val hS (by decide) rfl rfl (r_move hS rfl) ?_; clear hS; intro a hS
    refine s_val hS (by decide) rfl rfl (r_assign hS rfl) ?_; clear hS; intro a hS
    refine s_nil ?_
    refine k_seq ?_
    refine c_region ?_
    refine s_val hS (by decide) rfl rfl (r_move hS rfl) ?_; clear hS; intro a hS
    refine s_val hS (by decide) rfl rfl (r_index0 hS rfl rfl Try.underlying22 sz5 (by omega)) ?_; clear hS; intro a hS
    refine s_storeB hS hM rfl (show ev _ _ = some (B 255#8) from rfl) (j := 0) rfl sz5 (by omega) ?_; clear hS hM; intro a w hS hM
    refine s_nil ?_
    refine k_in ?_
    refine k_seq ?_
    refine c_region ?_
    refine s_val hS (by decide) rfl rfl (r_bv hS rfl (show ev _ _ = some (N 1) from rfl) gN (b_addN _ _ _ (by omega))) ?_; clear hS; intro a hS
    refine s_val hS (by decide) rfl rfl (r_move hS rfl) ?_; clear hS; intro a hS
    refine s_nil ?_
    refine k_then ?_
    refine ⟨k + 1, by omega, by omega, hS.to _ ⟨rfl, rfl, rfl, rfl, rfl, trivial⟩, hM⟩
  · obtain rfl : k = 32 := (by have := of_decide_eq_false hc; omega); rw [cB_fil] at hM
    refine c_exit ?_
    refine k_thenx ?_
    refine k_thenx ?_
    refine k_inx ?_
    refine k_seq ?_
    refine c_seq ?_
    refine c_region ?_
    refine s_val hS (by decide) rfl rfl (r_move hS rfl) ?_; clear hS; intro a hS
    refine s_val hS (by decide) rfl rfl (r_move hS rfl) ?_; clear hS; intro a hS
    refine s_val hS (by decide) rfl rfl (r_index0 hS rfl (show ev _ _ = some (.int .i64 ((0 : Nat) : Int)) from rfl) Try.underlying22 sz5 (by decide)) ?_; clear hS; intro a hS
    refine s_storeB hS hM rfl rfl (j := 0) rfl sz5 (by omega) ?_; clear hS hM; intro a w hS hM
    refine s_val hS (by decide) rfl rfl (r_index0 hS rfl (show ev _ _ = some (.int .i64 ((31 : Nat) : Int)) from rfl) Try.underlying22 sz5 (by decide)) ?_; clear hS; intro a hS
    refine s_storeB hS hM rfl rfl (j := 0) rfl sz5 (by omega) ?_; clear hS hM; intro a w hS hM
    refine s_nil ?_
    refine k_seq ?_
    refine c_seq ?_
    refine c_region ?_
    refine s_val hS (by decide) rfl rfl (r_loadAll hS hM rfl (j := 0) rfl Try.underlying22 rfl sz22 cells_len) ?_; clear hS; intro a hS
    refine s_storeAll hS hM rfl rfl (j := 1) rfl sz22 cells_len cells_len cB_one ?_; clear hS hM; intro a w hS hM
    refine s_nil ?_
    refine k_seq ?_
    refine c_ret ?_
    exact k_res1 hS rfl (RV.row rfl (hM.have_ _ (mem_of_get (j := 1) rfl)) Try.underlying22 rfl (by rw [sz22]; exact congrArg some cells_len.symm)) ⟨rfl, hM.done ⟨hb5, hb4, trivial⟩⟩

set_option maxRecDepth 100000 in
theorem pow_ok (x : Nat → BitVec 64) (e : Nat → BitVec 8) (w0 : World) : Pure Try.prog 37 #[.agg (cU 5 x).toArray, .agg (cB 32 e).toArray] w0 (.agg (cU 5 (powG x e 256)).toArray) := by
  refine ⟨by kernel_rfl, ?_⟩
  refine calls_sym Try.func37 rfl (by kernel_rfl) ?_
  intro a hS
  have hM : Mem w0 w0 [] := Mem.refl w0
  refine c_seq ?_
  refine c_region ?_
  refine s_box hS hM (by decide) rfl rfl ?_; clear hS hM; intro a b2 w hb2 hS hM
  refine s_box hS hM (by decide) rfl rfl ?_; clear hS hM; intro a b3 w hb3 hS hM
  refine s_alloc hS hM (by decide) zero27 ?_; clear hS hM; intro a b4 w hb4 hS hM
  refine s_nil ?_
  refine k_seq ?_
  refine c_seq ?_
  refine c_region ?_
  refine s_pure hS hM (by decide) (vs := [U 1#64]) rfl (small_ok _ _) ?_; clear hS hM; intro a w hS hM
  refine s_alloc hS hM (by decide) zero27 ?_; clear hS hM; intro a b5 w hb5 hS hM
  refine s_storeAll hS hM rfl rfl (j := 0) rfl sz27 cells_len cells_len cU_one ?_; clear hS hM; intro a w hS hM
  refine s_nil ?_
  refine k_seq ?_
  refine c_seq ?_
  refine c_seq ?_
  refine c_region ?_
  refine s_val hS (by decide) rfl rfl (r_assign hS (show ev _ _ = some (N 255) from rfl)) ?_; clear hS; intro a hS
  refine s_nil ?_
  refine k_seq ?_
  refine c_block ?_
  refine c_loop (σ := Nat) (fun j a w => (j ≤ 256) ∧ Slots a 27 (env [(2, ptr b2 0), (3, ptr b3 0), (4, ptr b4 0), (5, ptr b5 0), (6, .int .i64 (255 - (j : Int)))]) ∧ Mem w0 w ([⟨b5, 27, cU 5 (powG x e j)⟩, ⟨b4, 27, cU 5 (fun _ => 0)⟩, ⟨b3, 22, cB 32 e⟩, ⟨b2, 27, cU 5 x⟩])) (fun j => 256 - j) (0) ⟨by omega, hS.to _ ⟨rfl, rfl, rfl, rfl, rfl, trivial⟩, hM⟩ ?_
  clear hS hM; rintro j a w ⟨hk, hS, hM⟩
  refine c_seq ?_
  refine c_seq ?_
  refine c_region ?_
  refine s_val hS (by decide) rfl rfl (r_move hS rfl) ?_; clear hS; intro a hS
  refine s_val hS (by decide) rfl rfl (r_bv hS rfl (show ev _ _ = some (.int .i64 (0)) from rfl) gZ (b_geqZ _ _ _)) ?_; clear hS; intro a hS
  refine s_nil ?_
  refine k_seq ?_
  refine c_cond hS rfl (fun hc => ?_) (fun hc => ?_)
  · have hk1 := of_decide_eq_true hc; have hk2 : j ≤ 255 := (by omega); rw [show (255 : Int) - (j : Int) = ((255 - j : Nat) : Int) by omega] at hS
    refine c_skip ?_
    refine k_seq ?_
    refine c_seq ?_
    refine c_block ?_
    refine c_seq ?_
    refine c_region ?_
    refine s_val hS (by decide) rfl rfl (r_loadAll hS hM rfl (j := 0) rfl Try.underlying27 rfl sz27 cells_len) ?_; clear hS; intro a hS
    refine s_pure hS hM (by decide) rfl (square_ok _ _) ?_; clear hS hM; intro a w hS hM
    refine s_storeAll hS hM rfl rfl (j := 0) rfl sz27 cells_len cells_len cU_one ?_; clear hS hM; intro a w hS hM
    refine s_nil ?_
    refine k_seq ?_
    refine c_seq ?_
    refine c_region ?_
    refine s_val hS (by decide) rfl rfl (r_move hS rfl) ?_; clear hS; intro a hS
    refine s_val hS (by decide) rfl rfl (r_bv hS rfl (show ev _ _ = some (N 8) from rfl) gN (b_quoN _ _ _ (by omega) (by omega))) ?_; clear hS; intro a hS
    refine s_val hS (by decide) rfl rfl (r_index0 hS rfl rfl Try.underlying22 sz5 (by omega)) ?_; clear hS; intro a hS
    refine s_val hS (by decide) rfl rfl (r_load hS hM rfl (j := 2) rfl Try.underlying5 rfl (cells_get (by omega))) ?_; clear hS; intro a hS
    refine s_val hS (by decide) rfl rfl (r_move hS rfl) ?_; clear hS; intro a hS
    refine s_val hS (by decide) rfl rfl (r_bv hS rfl (show ev _ _ = some (N 8) from rfl) gN (b_remN _ _ _ (by omega))) ?_; clear hS; intro a hS
    refine s_val hS (by decide) rfl rfl (r_bv hS rfl rfl gB (b_shrB _ _ _ _)) ?_; clear hS; intro a hS
    refine s_val hS (by decide) rfl rfl (r_bv hS rfl (show ev _ _ = some (B 1#8) from rfl) gB (b_andB _ _ _)) ?_; clear hS; intro a hS
    refine s_val hS (by decide) rfl rfl (r_bv hS rfl (show ev _ _ = some (B 1#8) from rfl) gB (b_eqlB _ _ _)) ?_; clear hS; intro a hS
    refine s_nil ?_
    refine k_seq ?_
    refine c_cond hS rfl (fun hc => ?_) (fun hc => ?_)
    · have hk3 := of_decide_eq_true hc
      refine c_region ?_
      refine s_val hS (by decide) rfl rfl (r_loadAll hS hM rfl (j := 0) rfl Try.underlying27 rfl sz27 cells_len) ?_; clear hS; intro a hS
      refine s_val hS (by decide) rfl rfl (r_loadAll hS hM rfl (j := 3) rfl Try.underlying27 rfl sz27 cells_len) ?_; clear hS; intro a hS
      refine s_pure hS hM (by decide) rfl (mul_ok _ _ _) ?_; clear hS hM; intro a w hS hM
      refine s_storeAll hS hM rfl rfl (j := 0) rfl sz27 cells_len cells_len cU_one ?_; clear hS hM; intro a w hS hM
      refine s_nil ?_
      refine k_in ?_
      refine k_seq ?_
      refine c_region ?_
      refine s_val hS (by decide) rfl rfl (r_move hS rfl) ?_; clear hS; intro a hS
      refine s_val hS (by decide) rfl rfl (r_bv hS rfl (show ev _ _ = some (.int .i64 (1)) from rfl) gZ (b_subZ _ _ _ (by omega))) ?_; clear hS; intro a hS
      refine s_val hS (by decide) rfl rfl (r_assign hS rfl) ?_; clear hS; intro a hS
      refine s_nil ?_
      refine k_then ?_
      refine ⟨j + 1, by omega, by omega, hS.to _ ⟨rfl, rfl, rfl, rfl, congrArg (fun q => some (Value.int .i64 q)) (by omega), trivial⟩, (by first | exact hM.congr (by rw [powG_one hk3]; rfl) | exact hM.congr (by rw [powG_none hk3]; rfl))⟩
    · have hk3 := of_decide_eq_false hc
      refine c_skip ?_
      refine k_in ?_
      refine k_seq ?_
      refine c_region ?_
      refine s_val hS (by decide) rfl rfl (r_move hS rfl) ?_; clear hS; intro a hS
      refine s_val hS (by decide) rfl rfl (r_bv hS rfl (show ev _ _ = some (.int .i64 (1)) from rfl) gZ (b_subZ _ _ _ (by omega))) ?_; clear hS; intro a hS
      refine s_val hS (by decide) rfl rfl (r_assign hS rfl) ?_; clear hS; intro a hS
      refine s_nil ?_
      refine k_then ?_
      refine ⟨j + 1, by omega, by omega, hS.to _ ⟨rfl, rfl, rfl, rfl, congrArg (fun q => some (Value.int .i64 q)) (by omega), trivial⟩, (by first | exact hM.congr (by rw [powG_one hk3]; rfl) | exact hM.congr (by rw [powG_none hk3]; rfl))⟩
  · obtain rfl : j = 256 := by have := of_decide_eq_false hc; omega
    refine c_exit ?_
    refine k_thenx ?_
    refine k_thenx ?_
    refine k_inx ?_
    refine k_seq ?_
    refine c_seq ?_
    refine c_region ?_
    refine s_val hS (by decide) rfl rfl (r_loadAll hS hM rfl (j := 0) rfl Try.underlying27 rfl sz27 cells_len) ?_; clear hS; intro a hS
    refine s_storeAll hS hM rfl rfl (j := 1) rfl sz27 cells_len cells_len cU_one ?_; clear hS hM; intro a w hS hM
    refine s_nil ?_
    refine k_seq ?_
    refine c_ret ?_
    exact k_res1 hS rfl (RV.row rfl (hM.have_ _ (mem_of_get (j := 1) rfl)) Try.underlying27 rfl (by rw [sz27]; exact congrArg some cells_len.symm)) ⟨rfl, hM.done ⟨hb5, hb4, hb3, hb2, trivial⟩⟩

set_option maxRecDepth 100000 in
theorem invert_ok (x : Nat → BitVec 64) (w0 : World) : Pure Try.prog 38 #[.agg (cU 5 x).toArray] w0 (.agg (cU 5 (invX x)).toArray) := by
  refine ⟨by kernel_rfl, ?_⟩
  refine calls_sym Try.func38 rfl (by kernel_rfl) ?_
  intro a hS
  have hM : Mem w0 w0 [] := Mem.refl w0
  refine c_seq ?_
  refine c_region ?_
  refine s_box hS hM (by decide) rfl rfl ?_; clear hS hM; intro a b1 w hb1 hS hM
  refine s_alloc hS hM (by decide) zero27 ?_; clear hS hM; intro a b2 w hb2 hS hM
  refine s_nil ?_
  refine k_seq ?_
  refine c_seq ?_
  refine c_plan 3 (fun w => Mem w0 w _) [(1, _), (2, _)] (by kernel_rfl) (by kernel_rfl) hS ⟨rfl, rfl, trivial⟩ (hM.drawn _) ?_; clear hS hM
  refine p_step rfl (fun a w hS hM => y_val rfl (r_loadAll hS hM rfl (j := 1) rfl Try.underlying27 rfl sz27 cells_len)) ?_
  refine p_step rfl (fun a w hS hM => y_call (by kernel_rfl) hS (vs := [B 235#8, B 127#8]) rfl ((exponent_ok _ _ _).mem hM)) ?_
  refine p_step rfl (fun a w hS hM => y_call (by kernel_rfl) hS rfl ((pow_ok _ _ _).mem hM)) ?_
  refine p_nil rfl ?_; intro a w hS hM
  refine s_storeAll hS hM rfl rfl (j := 0) rfl sz27 cells_len cells_len cU_one ?_; clear hS hM; intro a w hS hM
  refine s_nil ?_
  refine k_seq ?_
  refine c_ret ?_
  exact k_res1 hS rfl (RV.row rfl (hM.have_ _ (mem_of_get (j := 0) rfl)) Try.underlying27 rfl (by rw [sz27]; exact congrArg some cells_len.symm)) ⟨rfl, hM.done ⟨hb2, hb1, trivial⟩⟩

attribute [local irreducible] powG invX

set_option maxRecDepth 100000 in
theorem sqrt_ok (x : Nat → BitVec 64) (hx : Ok x) (w0 : World) : Pure Try.prog 39 #[.agg (cU 5 x).toArray] w0 (.tuple #[.agg (cU 5 (outX x)).toArray, .bool (okX x)]) := by
  refine ⟨by kernel_rfl, ?_⟩
  refine calls_sym Try.func39 rfl (by kernel_rfl) ?_
  intro a hS
  have hM : Mem w0 w0 [] := Mem.refl w0
  refine c_seq ?_
  refine c_region ?_
  refine s_box hS hM (by decide) rfl rfl ?_; clear hS hM; intro a b1 w hb1 hS hM
  refine s_alloc hS hM (by decide) zero27 ?_; clear hS hM; intro a b2 w hb2 hS hM
  refine s_val hS (by decide) rfl rfl (r_assign hS rfl) ?_; clear hS; intro a hS
  refine s_nil ?_
  refine k_seq ?_
  refine c_seq ?_
  refine c_vplan 4 (AL w0 3 1000 27 (cU 5 (fun _ => 0)) ((cU 5 (fun _ => 0))) [⟨b2, 27, cU 5 (fun _ => 0)⟩, ⟨b1, 27, cU 5 x⟩]) [(1, ptr b1 0), (2, ptr b2 0), (3, .bool false)] (fun i V => match i with | 0 => V 0 = .agg (cU 5 x).toArray | 1 => V 1 = .agg (cB 32 (expo 254#8 15#8)).toArray | 2 => V 2 = .agg (cU 5 (r0X x)).toArray | 3 => ∃ b, w0.heap.size ≤ b ∧ V 3 = ptr b 0 | _ => True) (by kernel_rfl) (by kernel_rfl) hS ⟨rfl, rfl, rfl, trivial⟩ (AL.start (hM.drawn _)) ?_ ?_
  · clear hS hM
    refine ⟨?_, ?_, ?_, ?_, trivial⟩
    · intro S V a w hp hs hi hR hS hM
      replace hS := hS.to [(1, ptr b1 0)] ⟨rfl, trivial⟩
      have hM0 := hM; replace hM := hM0.low
      exact vy_val rfl (r_loadAll hS hM rfl (j := 1) rfl Try.underlying27 rfl sz27 cells_len) ⟨rfl, hM0.keep rfl rfl⟩
    · intro S V a w hp hs hi hR hS hM
      replace hS := hS.to [] trivial
      have hM0 := hM; replace hM := hM0.low
      exact vy_pureA hS (vs := [B 254#8, B 15#8]) rfl (exponent_ok _ _ _) fun w' hm => ⟨rfl, (hM0.after hm).keep rfl rfl⟩
    · intro S V a w hp hs hi hR hS hM
      have h0 : V 0 = .agg (cU 5 x).toArray := hR 0 rfl
      have h1 : V 1 = .agg (cB 32 (expo 254#8 15#8)).toArray := hR 1 rfl
      replace hS := hS.to [(5, .agg (cU 5 x).toArray), (6, .agg (cB 32 (expo 254#8 15#8)).toArray)] ⟨congrArg some h0, congrArg some h1, trivial⟩
      have hM0 := hM; replace hM := hM0.low
      exact vy_pureA hS rfl (pow_ok _ _ _) fun w' hm => ⟨rfl, (hM0.after hm).keep rfl rfl⟩
    · intro S V a w hp hs hi hR hS hM
      exact vy_alloc zero27 hM.low fun b w' hb hM' => ⟨⟨b, hb, rfl⟩, AL.made0 hb hM'⟩
  clear hS hM; intro V a w hR hS hM
  obtain ⟨b4, hb4, v3⟩ : ∃ b, w0.heap.size ≤ b ∧ V 3 = ptr b 0 := hR 3 (by decide)
  have v0 : V 0 = .agg (cU 5 x).toArray := hR 0 (by decide)
  have v1 : V 1 = .agg (cB 32 (expo 254#8 15#8)).toArray := hR 1 (by decide)
  have v2 : V 2 = .agg (cU 5 (r0X x)).toArray := hR 2 (by decide)
  replace hS := hS.to [(4, ptr b4 0), (5, .agg (cU 5 x).toArray), (6, .agg (cB 32 (expo 254#8 15#8)).toArray), (7, .agg (cU 5 (r0X x)).toArray), (1, ptr b1 0), (2, ptr b2 0), (3, .bool false)] ⟨congrArg some v3, congrArg some v0, congrArg some v1, congrArg some v2, rfl, rfl, rfl, trivial⟩
  replace hM := (hM.stop0 rfl rfl).2; rw [v3] at hM; replace hM : Mem w0 w (⟨b4, 27, (cU 5 (fun _ => 0))⟩ :: [⟨b2, 27, cU 5 (fun _ => 0)⟩, ⟨b1, 27, cU 5 x⟩]) := hM
  clear hR v0 v1 v2 v3
  refine s_storeAll hS hM rfl rfl (j := 0) rfl sz27 cells_len cells_len cU_one ?_; clear hS hM; intro a w hS hM
  refine s_nil ?_
  refine k_seq ?_
  refine c_seq ?_
  refine c_seq ?_
  refine c_plan 5 (fun w => Mem w0 w _) [(4, _), (1, _), (2, _), (3, _)] (by kernel_rfl) (by kernel_rfl) hS ⟨rfl, rfl, rfl, rfl, trivial⟩ (hM.drawn _) ?_; clear hS hM
  refine p_step rfl (fun a w hS hM => y_val rfl (r_loadAll hS hM rfl (j := 0) rfl Try.underlying27 rfl sz27 cells_len)) ?_
  refine p_step rfl (fun a w hS hM => y_call (by kernel_rfl) hS rfl ((square_ok _ _).mem hM)) ?_
  refine p_step rfl (fun a w hS hM => y_val rfl (r_loadAll hS hM rfl (j := 2) rfl Try.underlying27 rfl sz27 cells_len)) ?_
  refine p_step rfl (fun a w hS hM => y_call (by kernel_rfl) hS rfl ((equal_ok _ _ (by first | exact limb51_ok _ | exact Tw.ok (by repeat first | assumption | exact Tw.read _ | exact Tw.small _ | exact Tw.zero | apply Tw.add | apply Tw.mul | apply Tw.neg | apply Tw.sub | apply Tw.r1 | apply Tw.inv | apply Tw.out | apply Tw.pow | exact Tw.self (by assumption))) (by first | exact limb51_ok _ | exact Tw.ok (by repeat first | assumption | exact Tw.read _ | exact Tw.small _ | exact Tw.zero | apply Tw.add | apply Tw.mul | apply Tw.neg | apply Tw.sub | apply Tw.r1 | apply Tw.inv | apply Tw.out | apply Tw.pow | exact Tw.self (by assumption))) _).mem hM)) ?_
  refine p_step rfl (fun a w hS hM => y_val rfl (r_not hS rfl)) ?_
  refine p_nil rfl ?_; intro a w hS hM
  refine s_nil ?_
  refine k_seq ?_
  refine c_cond hS rfl (fun hc => ?_) (fun hc => ?_)
  · have h1 : ¬ val (feMul (r0X x) (r0X x)) % pP = val x % pP := by simpa using hc
    refine c_plan 5 (fun w => Mem w0 w _) [(4, _), (1, _), (2, _), (3, _)] (by kernel_rfl) (by kernel_rfl) hS ⟨rfl, rfl, rfl, rfl, trivial⟩ (hM.drawn _) ?_; clear hS hM
    refine p_step rfl (fun a w hS hM => y_val rfl (r_loadAll hS hM rfl (j := 0) rfl Try.underlying27 rfl sz27 cells_len)) ?_
    refine p_step rfl (fun a w hS hM => y_call (by kernel_rfl) hS (vs := [U 2#64]) rfl ((small_ok _ _).mem hM)) ?_
    refine p_step rfl (fun a w hS hM => y_call (by kernel_rfl) hS (vs := [B 251#8, B 31#8]) rfl ((exponent_ok _ _ _).mem hM)) ?_
    refine p_step rfl (fun a w hS hM => y_call (by kernel_rfl) hS rfl ((pow_ok _ _ _).mem hM)) ?_
    refine p_step rfl (fun a w hS hM => y_call (by kernel_rfl) hS rfl ((mul_ok _ _ _).mem hM)) ?_
    refine p_nil rfl ?_; intro a w hS hM
    refine s_storeAll hS hM rfl rfl (j := 0) rfl sz27 cells_len cells_len cU_one ?_; clear hS hM; intro a w hS hM
    rw [← r1X_no h1] at hM
    refine s_nil ?_
    refine k_seq ?_
    refine c_seq ?_
    refine c_seq ?_
    refine c_plan 5 (fun w => Mem w0 w _) [(4, _), (1, _), (2, _), (3, _)] (by kernel_rfl) (by kernel_rfl) hS ⟨rfl, rfl, rfl, rfl, trivial⟩ (hM.drawn _) ?_; clear hS hM
    refine p_step rfl (fun a w hS hM => y_val rfl (r_loadAll hS hM rfl (j := 0) rfl Try.underlying27 rfl sz27 cells_len)) ?_
    refine p_step rfl (fun a w hS hM => y_call (by kernel_rfl) hS rfl ((square_ok _ _).mem hM)) ?_
    refine p_step rfl (fun a w hS hM => y_val rfl (r_loadAll hS hM rfl (j := 2) rfl Try.underlying27 rfl sz27 cells_len)) ?_
    refine p_step rfl (fun a w hS hM => y_call (by kernel_rfl) hS rfl ((equal_ok _ _ (by first | exact limb51_ok _ | exact Tw.ok (by repeat first | assumption | exact Tw.read _ | exact Tw.small _ | exact Tw.zero | apply Tw.add | apply Tw.mul | apply Tw.neg | apply Tw.sub | apply Tw.r1 | apply Tw.inv | apply Tw.out | apply Tw.pow | exact Tw.self (by assumption))) (by first | exact limb51_ok _ | exact Tw.ok (by repeat first | assumption | exact Tw.read _ | exact Tw.small _ | exact Tw.zero | apply Tw.add | apply Tw.mul | apply Tw.neg | apply Tw.sub | apply Tw.r1 | apply Tw.inv | apply Tw.out | apply Tw.pow | exact Tw.self (by assumption))) _).mem hM)) ?_
    refine p_step rfl (fun a w hS hM => y_val rfl (r_not hS rfl)) ?_
    refine p_nil rfl ?_; intro a w hS hM
    refine s_nil ?_
    refine k_seq ?_
    refine c_cond hS rfl (fun hc => ?_) (fun hc => ?_)
    · have h2 : ¬ val (feMul (r1X x) (r1X x)) % pP = val x % pP := by simpa using hc
      refine c_seq ?_
      refine c_region ?_
      refine s_val hS (by decide) rfl rfl (r_build hS rfl (cs := cU 5 (fun _ => 0)) (fun _ => by kernel_rfl)) ?_; clear hS; intro a hS
      refine s_storeAll hS hM rfl rfl (j := 1) rfl sz27 cells_len cells_len cU_one ?_; clear hS hM; intro a w hS hM
      refine s_val hS (by decide) rfl rfl (r_assign hS rfl) ?_; clear hS; intro a hS
      refine s_nil ?_
      refine k_seq ?_
      refine c_ret ?_
      refine k_thenr ?_
      exact k_res2 hS rfl (RV.row rfl (hM.have_ _ (mem_of_get (j := 1) rfl)) Try.underlying27 rfl (by rw [sz27]; exact congrArg some cells_len.symm)) (RV.tmp rfl) ⟨(by first | rw [(outX_none h2).1, (outX_none h2).2] | rw [(outX_odd h2 h3).1, (outX_odd h2 h3).2] | rw [(outX_even h2 h3).1, (outX_even h2 h3).2]), hM.done ⟨hb4, hb2, hb1, trivial⟩⟩
    · have h2 : val (feMul (r1X x) (r1X x)) % pP = val x % pP := by simpa using hc
      refine c_skip ?_
      refine k_seq ?_
      refine c_seq ?_
      refine c_seq ?_
      refine c_region ?_
      refine s_val hS (by decide) rfl rfl (r_loadAll hS hM rfl (j := 0) rfl Try.underlying27 rfl sz27 cells_len) ?_; clear hS; intro a hS
      refine s_pure hS hM (by decide) rfl (odd_ok _ (by first | exact limb51_ok _ | exact Tw.ok (by repeat first | assumption | exact Tw.read _ | exact Tw.small _ | exact Tw.zero | apply Tw.add | apply Tw.mul | apply Tw.neg | apply Tw.sub | apply Tw.r1 | apply Tw.inv | apply Tw.out | apply Tw.pow | exact Tw.self (by assumption))) _) ?_; clear hS hM; intro a w hS hM
      refine s_nil ?_
      refine k_seq ?_
      refine c_cond hS rfl (fun hc => ?_) (fun hc => ?_)
      · have h3 : val (r1X x) % pP % 2 = 1 := by simpa using hc
        refine c_region ?_
        refine s_val hS (by decide) rfl rfl (r_loadAll hS hM rfl (j := 0) rfl Try.underlying27 rfl sz27 cells_len) ?_; clear hS; intro a hS
        refine s_pure hS hM (by decide) rfl (neg_ok _ _) ?_; clear hS hM; intro a w hS hM
        refine s_storeAll hS hM rfl rfl (j := 0) rfl sz27 cells_len cells_len cU_one ?_; clear hS hM; intro a w hS hM
        refine s_nil ?_
        refine k_seq ?_
        refine c_seq ?_
        refine c_region ?_
        refine s_val hS (by decide) rfl rfl (r_loadAll hS hM rfl (j := 0) rfl Try.underlying27 rfl sz27 cells_len) ?_; clear hS; intro a hS
        refine s_storeAll hS hM rfl rfl (j := 1) rfl sz27 cells_len cells_len cU_one ?_; clear hS hM; intro a w hS hM
        refine s_val hS (by decide) rfl rfl (r_assign hS rfl) ?_; clear hS; intro a hS
        refine s_nil ?_
        refine k_seq ?_
        refine c_ret ?_
        exact k_res2 hS rfl (RV.row rfl (hM.have_ _ (mem_of_get (j := 1) rfl)) Try.underlying27 rfl (by rw [sz27]; exact congrArg some cells_len.symm)) (RV.tmp rfl) ⟨(by first | rw [(outX_none h2).1, (outX_none h2).2] | rw [(outX_odd h2 h3).1, (outX_odd h2 h3).2] | rw [(outX_even h2 h3).1, (outX_even h2 h3).2]), hM.done ⟨hb4, hb2, hb1, trivial⟩⟩
      · have h3 : ¬ val (r1X x) % pP % 2 = 1 := by simpa using hc
        refine c_skip ?_
        refine k_seq ?_
        refine c_seq ?_
        refine c_region ?_
        refine s_val hS (by decide) rfl rfl (r_loadAll hS hM rfl (j := 0) rfl Try.underlying27 rfl sz27 cells_len) ?_; clear hS; intro a hS
        refine s_storeAll hS hM rfl rfl (j := 1) rfl sz27 cells_len cells_len cU_one ?_; clear hS hM; intro a w hS hM
        refine s_val hS (by decide) rfl rfl (r_assign hS rfl) ?_; clear hS; intro a hS
        refine s_nil ?_
        refine k_seq ?_
        refine c_ret ?_
        exact k_res2 hS rfl (RV.row rfl (hM.have_ _ (mem_of_get (j := 1) rfl)) Try.underlying27 rfl (by rw [sz27]; exact congrArg some cells_len.symm)) (RV.tmp rfl) ⟨(by first | rw [(outX_none h2).1, (outX_none h2).2] | rw [(outX_odd h2 h3).1, (outX_odd h2 h3).2] | rw [(outX_even h2 h3).1, (outX_even h2 h3).2]), hM.done ⟨hb4, hb2, hb1, trivial⟩⟩
  · have h1 : val (feMul (r0X x) (r0X x)) % pP = val x % pP := (by simpa using hc); rw [← r1X_yes h1] at hM
    refine c_skip ?_
    refine k_seq ?_
    refine c_seq ?_
    refine c_seq ?_
    refine c_plan 5 (fun w => Mem w0 w _) [(4, _), (1, _), (2, _), (3, _)] (by kernel_rfl) (by kernel_rfl) hS ⟨rfl, rfl, rfl, rfl, trivial⟩ (hM.drawn _) ?_; clear hS hM
    refine p_step rfl (fun a w hS hM => y_val rfl (r_loadAll hS hM rfl (j := 0) rfl Try.underlying27 rfl sz27 cells_len)) ?_
    refine p_step rfl (fun a w hS hM => y_call (by kernel_rfl) hS rfl ((square_ok _ _).mem hM)) ?_
    refine p_step rfl (fun a w hS hM => y_val rfl (r_loadAll hS hM rfl (j := 2) rfl Try.underlying27 rfl sz27 cells_len)) ?_
    refine p_step rfl (fun a w hS hM => y_call (by kernel_rfl) hS rfl ((equal_ok _ _ (by first | exact limb51_ok _ | exact Tw.ok (by repeat first | assumption | exact Tw.read _ | exact Tw.small _ | exact Tw.zero | apply Tw.add | apply Tw.mul | apply Tw.neg | apply Tw.sub | apply Tw.r1 | apply Tw.inv | apply Tw.out | apply Tw.pow | exact Tw.self (by assumption))) (by first | exact limb51_ok _ | exact Tw.ok (by repeat first | assumption | exact Tw.read _ | exact Tw.small _ | exact Tw.zero | apply Tw.add | apply Tw.mul | apply Tw.neg | apply Tw.sub | apply Tw.r1 | apply Tw.inv | apply Tw.out | apply Tw.pow | exact Tw.self (by assumption))) _).mem hM)) ?_
    refine p_step rfl (fun a w hS hM => y_val rfl (r_not hS rfl)) ?_
    refine p_nil rfl ?_; intro a w hS hM
    refine s_nil ?_
    refine k_seq ?_
    refine c_cond hS rfl (fun hc => ?_) (fun hc => ?_)
    · have h2 : ¬ val (feMul (r1X x) (r1X x)) % pP = val x % pP := by simpa using hc
      refine c_seq ?_
      refine c_region ?_
      refine s_val hS (by decide) rfl rfl (r_build hS rfl (cs := cU 5 (fun _ => 0)) (fun _ => by kernel_rfl)) ?_; clear hS; intro a hS
      refine s_storeAll hS hM rfl rfl (j := 1) rfl sz27 cells_len cells_len cU_one ?_; clear hS hM; intro a w hS hM
      refine s_val hS (by decide) rfl rfl (r_assign hS rfl) ?_; clear hS; intro a hS
      refine s_nil ?_
      refine k_seq ?_
      refine c_ret ?_
      refine k_thenr ?_
      exact k_res2 hS rfl (RV.row rfl (hM.have_ _ (mem_of_get (j := 1) rfl)) Try.underlying27 rfl (by rw [sz27]; exact congrArg some cells_len.symm)) (RV.tmp rfl) ⟨(by first | rw [(outX_none h2).1, (outX_none h2).2] | rw [(outX_odd h2 h3).1, (outX_odd h2 h3).2] | rw [(outX_even h2 h3).1, (outX_even h2 h3).2]), hM.done ⟨hb4, hb2, hb1, trivial⟩⟩
    · have h2 : val (feMul (r1X x) (r1X x)) % pP = val x % pP := by simpa using hc
      refine c_skip ?_
      refine k_seq ?_
      refine c_seq ?_
      refine c_seq ?_
      refine c_region ?_
      refine s_val hS (by decide) rfl rfl (r_loadAll hS hM rfl (j := 0) rfl Try.underlying27 rfl sz27 cells_len) ?_; clear hS; intro a hS
      refine s_pure hS hM (by decide) rfl (odd_ok _ (by first | exact limb51_ok _ | exact Tw.ok (by repeat first | assumption | exact Tw.read _ | exact Tw.small _ | exact Tw.zero | apply Tw.add | apply Tw.mul | apply Tw.neg | apply Tw.sub | apply Tw.r1 | apply Tw.inv | apply Tw.out | apply Tw.pow | exact Tw.self (by assumption))) _) ?_; clear hS hM; intro a w hS hM
      refine s_nil ?_
      refine k_seq ?_
      refine c_cond hS rfl (fun hc => ?_) (fun hc => ?_)
      · have h3 : val (r1X x) % pP % 2 = 1 := by simpa using hc
        refine c_region ?_
        refine s_val hS (by decide) rfl rfl (r_loadAll hS hM rfl (j := 0) rfl Try.underlying27 rfl sz27 cells_len) ?_; clear hS; intro a hS
        refine s_pure hS hM (by decide) rfl (neg_ok _ _) ?_; clear hS hM; intro a w hS hM
        refine s_storeAll hS hM rfl rfl (j := 0) rfl sz27 cells_len cells_len cU_one ?_; clear hS hM; intro a w hS hM
        refine s_nil ?_
        refine k_seq ?_
        refine c_seq ?_
        refine c_region ?_
        refine s_val hS (by decide) rfl rfl (r_loadAll hS hM rfl (j := 0) rfl Try.underlying27 rfl sz27 cells_len) ?_; clear hS; intro a hS
        refine s_storeAll hS hM rfl rfl (j := 1) rfl sz27 cells_len cells_len cU_one ?_; clear hS hM; intro a w hS hM
        refine s_val hS (by decide) rfl rfl (r_assign hS rfl) ?_; clear hS; intro a hS
        refine s_nil ?_
        refine k_seq ?_
        refine c_ret ?_
        exact k_res2 hS rfl (RV.row rfl (hM.have_ _ (mem_of_get (j := 1) rfl)) Try.underlying27 rfl (by rw [sz27]; exact congrArg some cells_len.symm)) (RV.tmp rfl) ⟨(by first | rw [(outX_none h2).1, (outX_none h2).2] | rw [(outX_odd h2 h3).1, (outX_odd h2 h3).2] | rw [(outX_even h2 h3).1, (outX_even h2 h3).2]), hM.done ⟨hb4, hb2, hb1, trivial⟩⟩
      · have h3 : ¬ val (r1X x) % pP % 2 = 1 := by simpa using hc
        refine c_skip ?_
        refine k_seq ?_
        refine c_seq ?_
        refine c_region ?_
        refine s_val hS (by decide) rfl rfl (r_loadAll hS hM rfl (j := 0) rfl Try.underlying27 rfl sz27 cells_len) ?_; clear hS; intro a hS
        refine s_storeAll hS hM rfl rfl (j := 1) rfl sz27 cells_len cells_len cU_one ?_; clear hS hM; intro a w hS hM
        refine s_val hS (by decide) rfl rfl (r_assign hS rfl) ?_; clear hS; intro a hS
        refine s_nil ?_
        refine k_seq ?_
        refine c_ret ?_
        exact k_res2 hS rfl (RV.row rfl (hM.have_ _ (mem_of_get (j := 1) rfl)) Try.underlying27 rfl (by rw [sz27]; exact congrArg some cells_len.symm)) (RV.tmp rfl) ⟨(by first | rw [(outX_none h2).1, (outX_none h2).2] | rw [(outX_odd h2 h3).1, (outX_odd h2 h3).2] | rw [(outX_even h2 h3).1, (outX_even h2 h3).2]), hM.done ⟨hb4, hb2, hb1, trivial⟩⟩

set_option maxRecDepth 100000 in
theorem ratio_ok (u v : Nat → BitVec 64) (hu : Ok u) (hv : Ok v) (w0 : World) : Pure Try.prog 41 #[.agg (cU 5 u).toArray, .agg (cU 5 v).toArray] w0 (.tuple #[.agg (cU 5 (ratioX u v).1).toArray, .bool (ratioX u v).2]) := by
  refine ⟨by kernel_rfl, ?_⟩
  refine calls_sym Try.func41 rfl (by kernel_rfl) ?_
  intro a hS
  have hM : Mem w0 w0 [] := Mem.refl w0
  refine c_seq ?_
  refine c_region ?_
  refine s_box hS hM (by decide) rfl rfl ?_; clear hS hM; intro a b2 w hb2 hS hM
  refine s_box hS hM (by decide) rfl rfl ?_; clear hS hM; intro a b3 w hb3 hS hM
  refine s_alloc hS hM (by decide) zero27 ?_; clear hS hM; intro a b4 w hb4 hS hM
  refine s_val hS (by decide) rfl rfl (r_assign hS rfl) ?_; clear hS; intro a hS
  refine s_nil ?_
  refine k_seq ?_
  refine c_seq ?_
  refine c_seq ?_
  refine c_region ?_
  refine s_val hS (by decide) rfl rfl (r_loadAll hS hM rfl (j := 1) rfl Try.underlying27 rfl sz27 cells_len) ?_; clear hS; intro a hS
  refine s_pure hS hM (by decide) rfl (iszero_ok _ (by first | exact limb51_ok _ | exact Tw.ok (by repeat first | assumption | exact Tw.read _ | exact Tw.small _ | exact Tw.zero | apply Tw.add | apply Tw.mul | apply Tw.neg | apply Tw.sub | apply Tw.r1 | apply Tw.inv | apply Tw.out | apply Tw.pow | exact Tw.self (by assumption))) _) ?_; clear hS hM; intro a w hS hM
  refine s_nil ?_
  refine k_seq ?_
  refine c_cond hS rfl (fun hc => ?_) (fun hc => ?_)
  · have h1 : val v % pP = 0 := by simpa using hc
    refine c_seq ?_
    refine c_region ?_
    refine s_val hS (by decide) rfl rfl (r_build hS rfl (cs := cU 5 (fun _ => 0)) (fun _ => by kernel_rfl)) ?_; clear hS; intro a hS
    refine s_val hS (by decide) rfl rfl (r_loadAll hS hM rfl (j := 2) rfl Try.underlying27 rfl sz27 cells_len) ?_; clear hS; intro a hS
    refine s_pure hS hM (by decide) rfl (iszero_ok _ (by first | exact limb51_ok _ | exact Tw.ok (by repeat first | assumption | exact Tw.read _ | exact Tw.small _ | exact Tw.zero | apply Tw.add | apply Tw.mul | apply Tw.neg | apply Tw.sub | apply Tw.r1 | apply Tw.inv | apply Tw.out | apply Tw.pow | exact Tw.self (by assumption))) _) ?_; clear hS hM; intro a w hS hM
    refine s_storeAll hS hM rfl rfl (j := 0) rfl sz27 cells_len cells_len cU_one ?_; clear hS hM; intro a w hS hM
    refine s_val hS (by decide) rfl rfl (r_assign hS rfl) ?_; clear hS; intro a hS
    refine s_nil ?_
    refine k_seq ?_
    refine c_ret ?_
    refine k_thenr ?_
    exact k_res2 hS rfl (RV.row rfl (hM.have_ _ (mem_of_get (j := 0) rfl)) Try.underlying27 rfl (by rw [sz27]; exact congrArg some cells_len.symm)) (RV.tmp rfl) ⟨(by first | rw [ratioX_yes h1] | (rw [ratioX_no h1]; rfl)), hM.done ⟨hb4, hb3, hb2, trivial⟩⟩
  · have h1 : ¬ val v % pP = 0 := by simpa using hc
    refine c_skip ?_
    refine k_seq ?_
    refine c_seq ?_
    refine c_plan 7 (fun w => Mem w0 w _) [(2, _), (3, _), (4, _), (5, _)] (by kernel_rfl) (by kernel_rfl) hS ⟨rfl, rfl, rfl, rfl, trivial⟩ (hM.drawn _) ?_; clear hS hM
    refine p_step rfl (fun a w hS hM => y_val rfl (r_loadAll hS hM rfl (j := 2) rfl Try.underlying27 rfl sz27 cells_len)) ?_
    refine p_step rfl (fun a w hS hM => y_val rfl (r_loadAll hS hM rfl (j := 1) rfl Try.underlying27 rfl sz27 cells_len)) ?_
    refine p_step rfl (fun a w hS hM => y_call (by kernel_rfl) hS rfl ((invert_ok _ _).mem hM)) ?_
    refine p_step rfl (fun a w hS hM => y_call (by kernel_rfl) hS rfl ((mul_ok _ _ _).mem hM)) ?_
    refine p_step rfl (fun a w hS hM => y_call (by kernel_rfl) hS rfl ((sqrt_ok _ (by first | exact limb51_ok _ | exact Tw.ok (by repeat first | assumption | exact Tw.read _ | exact Tw.small _ | exact Tw.zero | apply Tw.add | apply Tw.mul | apply Tw.neg | apply Tw.sub | apply Tw.r1 | apply Tw.inv | apply Tw.out | apply Tw.pow | exact Tw.self (by assumption))) _).mem hM)) ?_
    refine p_step rfl (fun a w hS hM => y_val rfl (r_extract hS rfl rfl)) ?_
    refine p_step rfl (fun a w hS hM => y_val rfl (r_extract hS rfl rfl)) ?_
    refine p_nil rfl ?_; intro a w hS hM
    refine s_storeAll hS hM rfl rfl (j := 0) rfl sz27 cells_len cells_len cU_one ?_; clear hS hM; intro a w hS hM
    refine s_val hS (by decide) rfl rfl (r_assign hS rfl) ?_; clear hS; intro a hS
    refine s_nil ?_
    refine k_seq ?_
    refine c_ret ?_
    exact k_res2 hS rfl (RV.row rfl (hM.have_ _ (mem_of_get (j := 0) rfl)) Try.underlying27 rfl (by rw [sz27]; exact congrArg some cells_len.symm)) (RV.tmp rfl) ⟨(by first | rw [ratioX_yes h1] | (rw [ratioX_no h1]; rfl)), hM.done ⟨hb4, hb3, hb2, trivial⟩⟩

set_option maxRecDepth 100000 in
theorem rBit_ok (f : Nat → BitVec 8) (i : Int) (w0 : World) : Pure Try.prog 52 #[.agg (cB 32 f).toArray, .int .i64 i] w0 (N (bitZ f i)) := by
  refine ⟨by kernel_rfl, ?_⟩
  refine calls_sym Try.func52 rfl (by kernel_rfl) ?_
  intro a hS
  have hM : Mem w0 w0 [] := Mem.refl w0
  refine c_seq ?_
  refine c_region ?_
  refine s_box hS hM (by decide) rfl rfl ?_; clear hS hM; intro a b2 w hb2 hS hM
  refine s_val hS (by decide) rfl rfl (r_assign hS (show ev _ _ = some (N 0) from rfl)) ?_; clear hS; intro a hS
  refine s_nil ?_
  refine k_seq ?_
  refine c_seq ?_
  refine c_seq ?_
  refine c_region ?_
  refine s_val hS (by decide) rfl rfl (r_move hS rfl) ?_; clear hS; intro a hS
  refine s_valb hS (by decide) rfl rfl (r_bv hS rfl (show ev _ _ = some (.int .i64 (0)) from rfl) gZ (b_lssZ _ _ _)) (fun hc => ?_) (fun hc => ?_)
  · clear hS; intro a hS; have h1 := of_decide_eq_true hc
    refine s_val hS (by decide) rfl rfl (r_move hS rfl) ?_; clear hS; intro a hS
    refine s_skip hS (by decide) rfl rfl rfl rfl rfl ?_; clear hS; intro a hS
    refine s_skip hS (by decide) rfl rfl rfl rfl rfl ?_; clear hS; intro a hS
    refine s_val hS (by decide) rfl rfl (r_pick hS rfl rfl) ?_; clear hS; intro a hS
    refine s_nil ?_
    refine k_seq ?_
    refine c_true hS rfl rfl ?_
    refine c_seq ?_
    refine c_region ?_
    refine s_val hS (by decide) rfl rfl (r_assign hS (show ev _ _ = some (N 0) from rfl)) ?_; clear hS; intro a hS
    refine s_nil ?_
    refine k_seq ?_
    refine c_ret ?_
    refine k_thenr ?_
    exact k_res1 hS rfl (RV.tmp rfl) ⟨(congrArg (fun q => Ending.returned (N q)) (by first | exact (bitZ_out (by omega)).symm | (rw [ofNat_toNat_lt (by omega)]; exact rbit_in f p (by omega)))), hM.done ⟨hb2, trivial⟩⟩
  · clear hS; intro a hS; have h1 := of_decide_eq_false hc
    refine s_val hS (by decide) rfl rfl (r_move hS rfl) ?_; clear hS; intro a hS
    refine s_valg hS (by decide) rfl rfl rfl rfl rfl (r_move hS rfl) ?_; clear hS; intro a hS
    refine s_valgb hS (by decide) rfl rfl rfl rfl rfl (r_bv hS rfl (show ev _ _ = some (.int .i64 (255)) from rfl) gZ (b_gtrZ _ _ _)) (fun hc => ?_) (fun hc => ?_)
    · clear hS; intro a hS; have h2 := of_decide_eq_true hc
      refine s_val hS (by decide) rfl rfl (r_pick hS rfl rfl) ?_; clear hS; intro a hS
      refine s_nil ?_
      refine k_seq ?_
      refine c_true hS rfl rfl ?_
      refine c_seq ?_
      refine c_region ?_
      refine s_val hS (by decide) rfl rfl (r_assign hS (show ev _ _ = some (N 0) from rfl)) ?_; clear hS; intro a hS
      refine s_nil ?_
      refine k_seq ?_
      refine c_ret ?_
      refine k_thenr ?_
      exact k_res1 hS rfl (RV.tmp rfl) ⟨(congrArg (fun q => Ending.returned (N q)) (by first | exact (bitZ_out (by omega)).symm | (rw [ofNat_toNat_lt (by omega)]; exact rbit_in f p (by omega)))), hM.done ⟨hb2, trivial⟩⟩
    · clear hS; intro a hS; have h2 := of_decide_eq_false hc; obtain ⟨p, rfl⟩ : ∃ j : Nat, i = (j : Int) := ⟨i.toNat, by omega⟩
      refine s_val hS (by decide) rfl rfl (r_pick hS rfl rfl) ?_; clear hS; intro a hS
      refine s_nil ?_
      refine k_seq ?_
      refine c_false hS rfl rfl ?_
      refine c_skip ?_
      refine k_seq ?_
      refine c_seq ?_
      refine c_region ?_
      refine s_val hS (by decide) rfl rfl (r_move hS rfl) ?_; clear hS; intro a hS
      refine s_val hS (by decide) rfl rfl (r_bv hS rfl (show ev _ _ = some (N 8) from rfl) gN (b_quoN _ _ _ (by omega) (by omega))) ?_; clear hS; intro a hS
      refine s_val hS (by decide) rfl rfl (r_index0 hS rfl rfl Try.underlying22 sz5 (by omega)) ?_; clear hS; intro a hS
      refine s_val hS (by decide) rfl rfl (r_load hS hM rfl (j := 0) rfl Try.underlying5 rfl (cells_get (by omega))) ?_; clear hS; intro a hS
      refine s_val hS (by decide) rfl rfl (r_move hS rfl) ?_; clear hS; intro a hS
      refine s_val hS (by decide) rfl rfl (r_bv hS rfl (show ev _ _ = some (N 8) from rfl) gN (b_remN _ _ _ (by omega))) ?_; clear hS; intro a hS
      refine s_val hS (by decide) rfl rfl (r_conv hS rfl (by kernel_rfl) Try.underlying50 (cv_NU _)) ?_; clear hS; intro a hS
      refine s_val hS (by decide) rfl rfl (r_bv hS rfl rfl gB (b_shrB _ _ _ (BitVec.toNat _))) ?_; clear hS; intro a hS
      refine s_val hS (by decide) rfl rfl (r_conv hS rfl (by kernel_rfl) Try.underlying3 (cv_BN _)) ?_; clear hS; intro a hS
      refine s_val hS (by decide) rfl rfl (r_bv hS rfl (show ev _ _ = some (N 1) from rfl) gN (b_andN1 _ _ (by have := (f (p / 8) >>> (BitVec.ofNat 64 (p % 8)).toNat).isLt; omega))) ?_; clear hS; intro a hS
      refine s_val hS (by decide) rfl rfl (r_assign hS rfl) ?_; clear hS; intro a hS
      refine s_nil ?_
      refine k_seq ?_
      refine c_ret ?_
      exact k_res1 hS rfl (RV.tmp rfl) ⟨(congrArg (fun q => Ending.returned (N q)) (by first | exact (bitZ_out (by omega)).symm | (rw [ofNat_toNat_lt (by omega)]; exact rbit_in f p (by omega)))), hM.done ⟨hb2, trivial⟩⟩

set_option maxRecDepth 100000 in
theorem ones_ok (u h : Nat) (hu : u ≤ 237) (hh : h < 1000) (w0 : World) : Pure Try.prog 51 #[N u, N h] w0 (.agg (cB 32 (byt ((pP - u) / 2 ^ h))).toArray) := by
  refine ⟨by kernel_rfl, ?_⟩
  refine calls_sym Try.func51 rfl (by kernel_rfl) ?_
  intro a hS
  have hM : Mem w0 w0 [] := Mem.refl w0
  refine c_seq ?_
  refine c_region ?_
  refine s_alloc hS hM (by decide) zero22 ?_; clear hS hM; intro a b4 w hb4 hS hM
  refine s_nil ?_
  refine k_seq ?_
  refine c_seq ?_
  refine c_region ?_
  refine s_val hS (by decide) rfl rfl (r_build hS rfl (cs := cB 32 (fun _ => 0)) (fun _ => by kernel_rfl)) ?_; clear hS; intro a hS
  refine s_alloc hS hM (by decide) zero22 ?_; clear hS hM; intro a b5 w hb5 hS hM
  refine s_storeAll hS hM rfl rfl (j := 0) rfl sz22 cells_len cells_len cB_one ?_; clear hS hM; intro a w hS hM
  refine s_nil ?_
  refine k_seq ?_
  refine c_seq ?_
  refine c_seq ?_
  refine c_region ?_
  refine s_val hS (by decide) rfl rfl (r_assign hS (show ev _ _ = some (N 0) from rfl)) ?_; clear hS; intro a hS
  refine s_nil ?_
  refine k_seq ?_
  refine c_block ?_
  refine c_loop (σ := Nat) (fun k a w => (k ≤ 32) ∧ Slots a 48 (env [(0, N u), (1, N h), (4, ptr b4 0), (5, ptr b5 0), (6, N k)]) ∧ Mem w0 w ([⟨b5, 22, cB 32 (fil 0 (fun _ => 255#8) k)⟩, ⟨b4, 22, cB 32 (fun _ => 0)⟩])) (fun k => 32 - k) (0) ⟨by omega, hS.to _ ⟨rfl, rfl, rfl, rfl, rfl, trivial⟩, hM⟩ ?_
  clear hS hM; rintro k a w ⟨hk, hS, hM⟩
  refine c_seq ?_
  refine c_seq ?_
  refine c_region ?_
  refine s_val hS (by decide) rfl rfl (r_move hS rfl) ?_; clear hS; intro a hS
  refine s_val hS (by decide) rfl rfl (r_bv hS rfl (show ev _ _ = some (N 32) from rfl) gN (b_lssN _ _ _)) ?_; clear hS; intro a hS
  refine s_nil ?_
  refine k_seq ?_
  refine c_cond hS rfl (fun hc => ?_) (fun hc => ?_)
  · have hk1 := of_decide_eq_true hc
    refine c_skip ?_
    refine k_seq ?_
    refine c_seq ?_
    refine c_block ?_
    refine c_region ?_
    refine s_val hS (by decide) rfl rfl (r_move hS rfl) ?_; clear hS; intro a hS
    refine s_val hS (by decide) rfl rfl (r_index0 hS rfl rfl Try.underlying22 sz5 (by omega)) ?_; clear hS; intro a hS
    refine s_storeB hS hM rfl (show ev _ _ = some (B 255#8) from rfl) (j := 0) rfl sz5 (by omega) ?_; clear hS hM; intro a w hS hM
    refine s_nil ?_
    refine k_in ?_
    refine k_seq ?_
    refine c_region ?_
    refine s_val hS (by decide) rfl rfl (r_move hS rfl) ?_; clear hS; intro a hS
    refine s_val hS (by decide) rfl rfl (r_bv hS rfl (show ev _ _ = some (N 1) from rfl) gN (b_addN _ _ _ (by omega))) ?_; clear hS; intro a hS
    refine s_val hS (by decide) rfl rfl (r_assign hS rfl) ?_; clear hS; intro a hS
    refine s_nil ?_
    refine k_then ?_
    refine ⟨k + 1, by omega, by omega, hS.to _ ⟨rfl, rfl, rfl, rfl, rfl, trivial⟩, hM⟩
  · obtain rfl : k = 32 := by have := of_decide_eq_false hc; omega
    refine c_exit ?_
    refine k_thenx ?_
    refine k_thenx ?_
    refine k_inx ?_
    refine k_seq ?_
    refine c_seq ?_
    refine c_region ?_
    refine s_val hS (by decide) rfl rfl (r_index0 hS rfl (show ev _ _ = some (.int .i64 ((31 : Nat) : Int)) from rfl) Try.underlying22 sz5 (by decide)) ?_; clear hS; intro a hS
    refine s_storeB hS hM rfl (show ev _ _ = some (B 127#8) from rfl) (j := 0) rfl sz5 (by omega) ?_; clear hS hM; intro a w hS hM
    refine s_nil ?_
    refine k_seq ?_
    refine c_seq ?_
    refine c_region ?_
    refine s_val hS (by decide) rfl rfl (r_move hS rfl) ?_; clear hS; intro a hS
    refine s_val hS (by decide) rfl rfl (r_bv hS (show ev _ _ = some (N 237) from rfl) rfl gN (b_subN _ _ _ (by omega) (by omega))) ?_; clear hS; intro a hS
    refine s_val hS (by decide) rfl rfl (r_conv hS rfl (by kernel_rfl) Try.underlying5 (cv_NB _)) ?_; clear hS; intro a hS
    refine s_val hS (by decide) rfl rfl (r_index0 hS rfl (show ev _ _ = some (.int .i64 ((0 : Nat) : Int)) from rfl) Try.underlying22 sz5 (by decide)) ?_; clear hS; intro a hS
    refine s_storeB hS hM rfl rfl (j := 0) rfl sz5 (by omega) ?_; clear hS hM; intro a w hS hM
    rw [ones_start hu] at hM
    refine s_nil ?_
    refine k_seq ?_
    refine c_seq ?_
    refine c_seq ?_
    refine c_region ?_
    refine s_val hS (by decide) rfl rfl (r_assign hS (show ev _ _ = some (N 0) from rfl)) ?_; clear hS; intro a hS
    refine s_nil ?_
    refine k_seq ?_
    refine c_block ?_
    refine c_loop (σ := Nat) (fun k a w => (k ≤ h) ∧ Slots a 48 (env [(1, N h), (4, ptr b4 0), (5, ptr b5 0), (7, N k)]) ∧ Mem w0 w ([⟨b5, 22, cB 32 (byt ((pP - u) / 2 ^ k))⟩, ⟨b4, 22, cB 32 (fun _ => 0)⟩])) (fun k => h - k) (0) ⟨by omega, hS.to _ ⟨rfl, rfl, rfl, rfl, trivial⟩, (by rw [Nat.pow_zero, Nat.div_one]; exact hM)⟩ ?_
    clear hS hM; rintro k a w ⟨hk, hS, hM⟩
    refine c_seq ?_
    refine c_seq ?_
    refine c_region ?_
    refine s_val hS (by decide) rfl rfl (r_move hS rfl) ?_; clear hS; intro a hS
    refine s_val hS (by decide) rfl rfl (r_move hS rfl) ?_; clear hS; intro a hS
    refine s_val hS (by decide) rfl rfl (r_bv hS rfl rfl gN (b_lssN _ _ _)) ?_; clear hS; intro a hS
    refine s_nil ?_
    refine k_seq ?_
    refine c_cond hS rfl (fun hc => ?_) (fun hc => ?_)
    · have hk1 := of_decide_eq_true hc
      refine c_skip ?_
      refine k_seq ?_
      refine c_seq ?_
      refine c_block ?_
      refine c_seq ?_
      refine c_region ?_
      refine s_val hS (by decide) rfl rfl (r_assign hS (show ev _ _ = some (N 0) from rfl)) ?_; clear hS; intro a hS
      refine s_nil ?_
      refine k_seq ?_
      refine c_block ?_
      refine c_loop (σ := Nat) (fun j a w => (j ≤ 32) ∧ Slots a 48 (env [(1, N h), (4, ptr b4 0), (5, ptr b5 0), (7, N k), (8, N j)]) ∧ Mem w0 w ([⟨b5, 22, cB 32 (mixH ((pP - u) / 2 ^ k) j)⟩, ⟨b4, 22, cB 32 (fun _ => 0)⟩])) (fun j => 32 - j) (0) ⟨by omega, hS.to _ ⟨rfl, rfl, rfl, rfl, rfl, trivial⟩, (by rw [mixH_zero]; exact hM)⟩ ?_
      clear hS hM; rintro j a w ⟨hk, hS, hM⟩
      have hj := hk
      refine c_seq ?_
      refine c_seq ?_
      refine c_region ?_
      refine s_val hS (by decide) rfl rfl (r_move hS rfl) ?_; clear hS; intro a hS
      refine s_val hS (by decide) rfl rfl (r_bv hS rfl (show ev _ _ = some (N 32) from rfl) gN (b_lssN _ _ _)) ?_; clear hS; intro a hS
      refine s_nil ?_
      refine k_seq ?_
      refine c_cond hS rfl (fun hc => ?_) (fun hc => ?_)
      · have hk1 := of_decide_eq_true hc
        refine c_skip ?_
        refine k_seq ?_
        refine c_seq ?_
        refine c_block ?_
        refine c_seq ?_
        refine c_region ?_
        refine s_val hS (by decide) rfl rfl (r_assign hS (show ev _ _ = some (B 0#8) from rfl)) ?_; clear hS; intro a hS
        refine s_nil ?_
        refine k_seq ?_
        refine c_seq ?_
        refine c_seq ?_
        refine c_region ?_
        refine s_val hS (by decide) rfl rfl (r_move hS rfl) ?_; clear hS; intro a hS
        refine s_val hS (by decide) rfl rfl (r_bv hS rfl (show ev _ _ = some (N 31) from rfl) gN (b_lssN _ _ _)) ?_; clear hS; intro a hS
        refine s_nil ?_
        refine k_seq ?_
        refine c_cond hS rfl (fun hc => ?_) (fun hc => ?_)
        · have hk3 := of_decide_eq_true hc
          refine c_region ?_
          refine s_val hS (by decide) rfl rfl (r_move hS rfl) ?_; clear hS; intro a hS
          refine s_val hS (by decide) rfl rfl (r_bv hS rfl (show ev _ _ = some (N 1) from rfl) gN (b_addN _ _ _ (by omega))) ?_; clear hS; intro a hS
          refine s_val hS (by decide) rfl rfl (r_index0 hS rfl rfl Try.underlying22 sz5 (by omega)) ?_; clear hS; intro a hS
          refine s_val hS (by decide) rfl rfl (r_load hS hM rfl (j := 0) rfl Try.underlying5 rfl (cells_get (by omega))) ?_; clear hS; intro a hS
          refine s_val hS (by decide) rfl rfl (r_bv hS rfl (show ev _ _ = some (B 1#8) from rfl) gB (b_andB _ _ _)) ?_; clear hS; intro a hS
          refine s_val hS (by decide) rfl rfl (r_bv hS rfl (show ev _ _ = some (.int .u64 ((7 : Nat) : Int)) from rfl) gB (b_shlB _ _ _ 7)) ?_; clear hS; intro a hS
          refine s_val hS (by decide) rfl rfl (r_assign hS rfl) ?_; clear hS; intro a hS
          refine s_nil ?_
          refine k_seq ?_
          refine c_region ?_
          refine s_val hS (by decide) rfl rfl (r_move hS rfl) ?_; clear hS; intro a hS
          refine s_val hS (by decide) rfl rfl (r_move hS rfl) ?_; clear hS; intro a hS
          refine s_val hS (by decide) rfl rfl (r_index0 hS rfl rfl Try.underlying22 sz5 (by omega)) ?_; clear hS; intro a hS
          refine s_val hS (by decide) rfl rfl (r_load hS hM rfl (j := 0) rfl Try.underlying5 rfl (cells_get (by omega))) ?_; clear hS; intro a hS
          refine s_val hS (by decide) rfl rfl (r_bv hS rfl (show ev _ _ = some (.int .u64 ((1 : Nat) : Int)) from rfl) gB (b_shrB _ _ _ 1)) ?_; clear hS; intro a hS
          refine s_val hS (by decide) rfl rfl (r_move hS rfl) ?_; clear hS; intro a hS
          refine s_val hS (by decide) rfl rfl (r_bv hS rfl rfl gB (b_orB _ _ _)) ?_; clear hS; intro a hS
          refine s_val hS (by decide) rfl rfl (r_index0 hS rfl rfl Try.underlying22 sz5 (by omega)) ?_; clear hS; intro a hS
          refine s_storeB hS hM rfl rfl (j := 0) rfl sz5 (by omega) ?_; clear hS hM; intro a w hS hM
          refine s_nil ?_
          refine k_in ?_
          refine k_seq ?_
          refine c_region ?_
          refine s_val hS (by decide) rfl rfl (r_move hS rfl) ?_; clear hS; intro a hS
          refine s_val hS (by decide) rfl rfl (r_bv hS rfl (show ev _ _ = some (N 1) from rfl) gN (b_addN _ _ _ (by omega))) ?_; clear hS; intro a hS
          refine s_val hS (by decide) rfl rfl (r_assign hS rfl) ?_; clear hS; intro a hS
          refine s_nil ?_
          refine k_then ?_
          refine ⟨j + 1, by omega, by omega, hS.to _ ⟨rfl, rfl, rfl, rfl, rfl, trivial⟩, (by first | exact hM.congr (by rw [mixH_at, mixH_next, half_byt, mixH_step]; rfl) | exact hM.congr (by subst hk3; rw [mixH_at, half_last (ones_lt _ _), mixH_step]; rfl))⟩
        · have hk3 : j = 31 := by have := of_decide_eq_false hc; omega
          refine c_skip ?_
          refine k_seq ?_
          refine c_region ?_
          refine s_val hS (by decide) rfl rfl (r_move hS rfl) ?_; clear hS; intro a hS
          refine s_val hS (by decide) rfl rfl (r_move hS rfl) ?_; clear hS; intro a hS
          refine s_val hS (by decide) rfl rfl (r_index0 hS rfl rfl Try.underlying22 sz5 (by omega)) ?_; clear hS; intro a hS
          refine s_val hS (by decide) rfl rfl (r_load hS hM rfl (j := 0) rfl Try.underlying5 rfl (cells_get (by omega))) ?_; clear hS; intro a hS
          refine s_val hS (by decide) rfl rfl (r_bv hS rfl (show ev _ _ = some (.int .u64 ((1 : Nat) : Int)) from rfl) gB (b_shrB _ _ _ 1)) ?_; clear hS; intro a hS
          refine s_val hS (by decide) rfl rfl (r_move hS rfl) ?_; clear hS; intro a hS
          refine s_val hS (by decide) rfl rfl (r_bv hS rfl rfl gB (b_orB _ _ _)) ?_; clear hS; intro a hS
          refine s_val hS (by decide) rfl rfl (r_index0 hS rfl rfl Try.underlying22 sz5 (by omega)) ?_; clear hS; intro a hS
          refine s_storeB hS hM rfl rfl (j := 0) rfl sz5 (by omega) ?_; clear hS hM; intro a w hS hM
          refine s_nil ?_
          refine k_in ?_
          refine k_seq ?_
          refine c_region ?_
          refine s_val hS (by decide) rfl rfl (r_move hS rfl) ?_; clear hS; intro a hS
          refine s_val hS (by decide) rfl rfl (r_bv hS rfl (show ev _ _ = some (N 1) from rfl) gN (b_addN _ _ _ (by omega))) ?_; clear hS; intro a hS
          refine s_val hS (by decide) rfl rfl (r_assign hS rfl) ?_; clear hS; intro a hS
          refine s_nil ?_
          refine k_then ?_
          refine ⟨j + 1, by omega, by omega, hS.to _ ⟨rfl, rfl, rfl, rfl, rfl, trivial⟩, (by first | exact hM.congr (by rw [mixH_at, mixH_next, half_byt, mixH_step]; rfl) | exact hM.congr (by subst hk3; rw [mixH_at, half_last (ones_lt _ _), mixH_step]; rfl))⟩
      · obtain rfl : j = 32 := (by have := of_decide_eq_false hc; omega); rw [cB_mixH, ones_next] at hM
        refine c_exit ?_
        refine k_thenx ?_
        refine k_thenx ?_
        refine k_inx ?_
        refine k_in ?_
        refine k_seq ?_
        refine c_region ?_
        refine s_val hS (by decide) rfl rfl (r_move hS rfl) ?_; clear hS; intro a hS
        refine s_val hS (by decide) rfl rfl (r_bv hS rfl (show ev _ _ = some (N 1) from rfl) gN (b_addN _ _ _ (by omega))) ?_; clear hS; intro a hS
        refine s_val hS (by decide) rfl rfl (r_assign hS rfl) ?_; clear hS; intro a hS
        refine s_nil ?_
        refine k_then ?_
        refine ⟨k + 1, by omega, by omega, hS.to _ ⟨rfl, rfl, rfl, rfl, trivial⟩, hM⟩
    · obtain rfl : k = h := by have := of_decide_eq_false hc; omega
      refine c_exit ?_
      refine k_thenx ?_
      refine k_thenx ?_
      refine k_inx ?_
      refine k_seq ?_
      refine c_seq ?_
      refine c_region ?_
      refine s_val hS (by decide) rfl rfl (r_loadAll hS hM rfl (j := 0) rfl Try.underlying22 rfl sz22 cells_len) ?_; clear hS; intro a hS
      refine s_storeAll hS hM rfl rfl (j := 1) rfl sz22 cells_len cells_len cB_one ?_; clear hS hM; intro a w hS hM
      refine s_nil ?_
      refine k_seq ?_
      refine c_ret ?_
      exact k_res1 hS rfl (RV.row rfl (hM.have_ _ (mem_of_get (j := 1) rfl)) Try.underlying22 rfl (by rw [sz22]; exact congrArg some cells_len.symm)) ⟨rfl, hM.done ⟨hb5, hb4, trivial⟩⟩

set_option maxRecDepth 100000 in
theorem rpow_ok (n : Nat) (e : Nat → BitVec 8) (hn : n < pP) (w0 : World) : Pure Try.prog 43 #[.agg (cI 16 (dig n)).toArray, .agg (cB 32 e).toArray] w0 (.agg (cI 16 (dig (pw n (natB e 32)))).toArray) := by
  refine ⟨by kernel_rfl, ?_⟩
  refine calls_sym Try.func43 rfl (by kernel_rfl) ?_
  intro a hS
  have hM : Mem w0 w0 [] := Mem.refl w0
  refine c_seq ?_
  refine c_region ?_
  refine s_box hS hM (by decide) rfl rfl ?_; clear hS hM; intro a b2 w hb2 hS hM
  refine s_box hS hM (by decide) rfl rfl ?_; clear hS hM; intro a b3 w hb3 hS hM
  refine s_alloc hS hM (by decide) zero37 ?_; clear hS hM; intro a b4 w hb4 hS hM
  refine s_nil ?_
  refine k_seq ?_
  refine c_seq ?_
  refine c_region ?_
  refine s_pure hS hM (by decide) (vs := [U 1#64]) rfl (rsmall_ok _ _) ?_; clear hS hM; intro a w hS hM
  refine s_alloc hS hM (by decide) zero37 ?_; clear hS hM; intro a b5 w hb5 hS hM
  refine s_storeAll hS hM rfl rfl (j := 0) rfl sz37 cells_len cells_len cI_one ?_; clear hS hM; intro a w hS hM
  refine s_nil ?_
  refine k_seq ?_
  refine c_seq ?_
  refine c_seq ?_
  refine c_region ?_
  refine s_val hS (by decide) rfl rfl (r_assign hS (show ev _ _ = some (N 255) from rfl)) ?_; clear hS; intro a hS
  refine s_nil ?_
  refine k_seq ?_
  refine c_block ?_
  refine c_loop (σ := Nat) (fun j a w => (j ≤ 256) ∧ Slots a 23 (env [(2, ptr b2 0), (3, ptr b3 0), (4, ptr b4 0), (5, ptr b5 0), (6, .int .i64 (255 - (j : Int)))]) ∧ Mem w0 w ([⟨b5, 37, cI 16 (dig (np n (natB e 32) j))⟩, ⟨b4, 37, cI 16 (fun _ => 0)⟩, ⟨b3, 22, cB 32 e⟩, ⟨b2, 37, cI 16 (dig n)⟩])) (fun j => 256 - j) (0) ⟨by omega, hS.to _ ⟨rfl, rfl, rfl, rfl, rfl, trivial⟩, (by rw [np_zero (natB_lt e 32)]; exact hM)⟩ ?_
  clear hS hM; rintro j a w ⟨hk, hS, hM⟩
  refine c_seq ?_
  refine c_seq ?_
  refine c_region ?_
  refine s_val hS (by decide) rfl rfl (r_move hS rfl) ?_; clear hS; intro a hS
  refine s_val hS (by decide) rfl rfl (r_bv hS rfl (show ev _ _ = some (.int .i64 (0)) from rfl) gZ (b_geqZ _ _ _)) ?_; clear hS; intro a hS
  refine s_nil ?_
  refine k_seq ?_
  refine c_cond hS rfl (fun hc => ?_) (fun hc => ?_)
  · have hk1 := of_decide_eq_true hc; have hk2 : j ≤ 255 := (by omega); rw [show (255 : Int) - (j : Int) = ((255 - j : Nat) : Int) by omega] at hS
    refine c_skip ?_
    refine k_seq ?_
    refine c_seq ?_
    refine c_block ?_
    refine c_seq ?_
    refine c_region ?_
    refine s_val hS (by decide) rfl rfl (r_loadAll hS hM rfl (j := 0) rfl Try.underlying37 rfl sz37 cells_len) ?_; clear hS; intro a hS
    refine s_val hS (by decide) rfl rfl (r_loadAll hS hM rfl (j := 0) rfl Try.underlying37 rfl sz37 cells_len) ?_; clear hS; intro a hS
    refine s_pure hS hM (by decide) rfl (rmul_ok _ _ (by first | exact Nat.mod_lt _ pP_pos | exact pw_lt _ _ | exact np_lt _ _ _ | exact small_lt _ | exact r1N_lt _ | exact outN_lt _ | exact invN_lt _ | exact Tw.lt (by assumption) | assumption) (by first | exact Nat.mod_lt _ pP_pos | exact pw_lt _ _ | exact np_lt _ _ _ | exact small_lt _ | exact r1N_lt _ | exact outN_lt _ | exact invN_lt _ | exact Tw.lt (by assumption) | assumption) _) ?_; clear hS hM; intro a w hS hM
    refine s_storeAll hS hM rfl rfl (j := 0) rfl sz37 cells_len cells_len cI_one ?_; clear hS hM; intro a w hS hM
    refine s_nil ?_
    refine k_seq ?_
    refine c_seq ?_
    refine c_region ?_
    refine s_val hS (by decide) rfl rfl (r_loadAll hS hM rfl (j := 2) rfl Try.underlying22 rfl sz22 cells_len) ?_; clear hS; intro a hS
    refine s_val hS (by decide) rfl rfl (r_move hS rfl) ?_; clear hS; intro a hS
    refine s_pure hS hM (by decide) rfl (rBit_ok _ _ _) ?_; clear hS hM; intro a w hS hM
    refine s_val hS (by decide) rfl rfl (r_bv hS rfl (show ev _ _ = some (N 1) from rfl) gN (b_eqlN _ _ _)) ?_; clear hS; intro a hS
    refine s_nil ?_
    refine k_seq ?_
    refine c_cond hS rfl (fun hc => ?_) (fun hc => ?_)
    · have hk3 := of_decide_eq_true hc; rw [bitZ_at _ _ (by omega)] at hk3
      refine c_region ?_
      refine s_val hS (by decide) rfl rfl (r_loadAll hS hM rfl (j := 0) rfl Try.underlying37 rfl sz37 cells_len) ?_; clear hS; intro a hS
      refine s_val hS (by decide) rfl rfl (r_loadAll hS hM rfl (j := 3) rfl Try.underlying37 rfl sz37 cells_len) ?_; clear hS; intro a hS
      refine s_pure hS hM (by decide) rfl (rmul_ok _ _ (by first | exact Nat.mod_lt _ pP_pos | exact pw_lt _ _ | exact np_lt _ _ _ | exact small_lt _ | exact r1N_lt _ | exact outN_lt _ | exact invN_lt _ | exact Tw.lt (by assumption) | assumption) (by first | exact Nat.mod_lt _ pP_pos | exact pw_lt _ _ | exact np_lt _ _ _ | exact small_lt _ | exact r1N_lt _ | exact outN_lt _ | exact invN_lt _ | exact Tw.lt (by assumption) | assumption) _) ?_; clear hS hM; intro a w hS hM
      refine s_storeAll hS hM rfl rfl (j := 0) rfl sz37 cells_len cells_len cI_one ?_; clear hS hM; intro a w hS hM
      refine s_nil ?_
      refine k_in ?_
      refine k_seq ?_
      refine c_region ?_
      refine s_val hS (by decide) rfl rfl (r_move hS rfl) ?_; clear hS; intro a hS
      refine s_val hS (by decide) rfl rfl (r_bv hS rfl (show ev _ _ = some (.int .i64 (1)) from rfl) gZ (b_subZ _ _ _ (by omega))) ?_; clear hS; intro a hS
      refine s_val hS (by decide) rfl rfl (r_assign hS rfl) ?_; clear hS; intro a hS
      refine s_nil ?_
      refine k_then ?_
      refine ⟨j + 1, by omega, by omega, hS.to _ ⟨rfl, rfl, rfl, rfl, congrArg (fun q => some (Value.int .i64 q)) (by omega), trivial⟩, (by first | exact hM.congr (by rw [np_one hk2 hk3]; rfl) | exact hM.congr (by rw [np_none hk2 hk3]; rfl))⟩
    · have hk3 := of_decide_eq_false hc; rw [bitZ_at _ _ (by omega)] at hk3
      refine c_skip ?_
      refine k_in ?_
      refine k_seq ?_
      refine c_region ?_
      refine s_val hS (by decide) rfl rfl (r_move hS rfl) ?_; clear hS; intro a hS
      refine s_val hS (by decide) rfl rfl (r_bv hS rfl (show ev _ _ = some (.int .i64 (1)) from rfl) gZ (b_subZ _ _ _ (by omega))) ?_; clear hS; intro a hS
      refine s_val hS (by decide) rfl rfl (r_assign hS rfl) ?_; clear hS; intro a hS
      refine s_nil ?_
      refine k_then ?_
      refine ⟨j + 1, by omega, by omega, hS.to _ ⟨rfl, rfl, rfl, rfl, congrArg (fun q => some (Value.int .i64 q)) (by omega), trivial⟩, (by first | exact hM.congr (by rw [np_one hk2 hk3]; rfl) | exact hM.congr (by rw [np_none hk2 hk3]; rfl))⟩
  · obtain rfl : j = 256 := (by have := of_decide_eq_false hc; omega); rw [pw_all] at hM
    refine c_exit ?_
    refine k_thenx ?_
    refine k_thenx ?_
    refine k_inx ?_
    refine k_seq ?_
    refine c_seq ?_
    refine c_region ?_
    refine s_val hS (by decide) rfl rfl (r_loadAll hS hM rfl (j := 0) rfl Try.underlying37 rfl sz37 cells_len) ?_; clear hS; intro a hS
    refine s_storeAll hS hM rfl rfl (j := 1) rfl sz37 cells_len cells_len cI_one ?_; clear hS hM; intro a w hS hM
    refine s_nil ?_
    refine k_seq ?_
    refine c_ret ?_
    exact k_res1 hS rfl (RV.row rfl (hM.have_ _ (mem_of_get (j := 1) rfl)) Try.underlying37 rfl (by rw [sz37]; exact congrArg some cells_len.symm)) ⟨rfl, hM.done ⟨hb5, hb4, hb3, hb2, trivial⟩⟩

set_option maxRecDepth 100000 in
theorem rinvert_ok (n : Nat) (hn : n < pP) (w0 : World) : Pure Try.prog 44 #[.agg (cI 16 (dig n)).toArray] w0 (.agg (cI 16 (dig (invN n))).toArray) := by
  refine ⟨by kernel_rfl, ?_⟩
  refine calls_sym Try.func44 rfl (by kernel_rfl) ?_
  intro a hS
  have hM : Mem w0 w0 [] := Mem.refl w0
  refine c_seq ?_
  refine c_region ?_
  refine s_box hS hM (by decide) rfl rfl ?_; clear hS hM; intro a b1 w hb1 hS hM
  refine s_alloc hS hM (by decide) zero37 ?_; clear hS hM; intro a b2 w hb2 hS hM
  refine s_nil ?_
  refine k_seq ?_
  refine c_seq ?_
  refine c_plan 3 (fun w => Mem w0 w _) [(1, _), (2, _)] (by kernel_rfl) (by kernel_rfl) hS ⟨rfl, rfl, trivial⟩ (hM.drawn _) ?_; clear hS hM
  refine p_step rfl (fun a w hS hM => y_val rfl (r_loadAll hS hM rfl (j := 1) rfl Try.underlying37 rfl sz37 cells_len)) ?_
  refine p_step rfl (fun a w hS hM => y_call (by kernel_rfl) hS (vs := [N 2, N 0]) rfl ((ones_ok _ _ (by decide) (by decide) _).mem hM)) ?_
  refine p_step rfl (fun a w hS hM => y_call (by kernel_rfl) hS rfl ((rpow_ok _ _ (by first | exact Nat.mod_lt _ pP_pos | exact pw_lt _ _ | exact np_lt _ _ _ | exact small_lt _ | exact r1N_lt _ | exact outN_lt _ | exact invN_lt _ | exact Tw.lt (by assumption) | assumption) _).mem hM)) ?_
  refine p_nil rfl ?_; intro a w hS hM
  refine s_storeAll hS hM rfl rfl (j := 0) rfl sz37 cells_len cells_len cI_one ?_; clear hS hM; intro a w hS hM
  rw [ones_I'] at hM
  refine s_nil ?_
  refine k_seq ?_
  refine c_ret ?_
  exact k_res1 hS rfl (RV.row rfl (hM.have_ _ (mem_of_get (j := 0) rfl)) Try.underlying37 rfl (by rw [sz37]; exact congrArg some cells_len.symm)) ⟨rfl, hM.done ⟨hb2, hb1, trivial⟩⟩

set_option maxRecDepth 100000 in
theorem rsqrt_ok (n : Nat) (hn : n < pP) (w0 : World) : Pure Try.prog 40 #[.agg (cI 16 (dig n)).toArray] w0 (.tuple #[.agg (cI 16 (dig (outN n))).toArray, .bool (okN n)]) := by
  refine ⟨by kernel_rfl, ?_⟩
  refine calls_sym Try.func40 rfl (by kernel_rfl) ?_
  intro a hS
  have hM : Mem w0 w0 [] := Mem.refl w0
  refine c_seq ?_
  refine c_region ?_
  refine s_box hS hM (by decide) rfl rfl ?_; clear hS hM; intro a b1 w hb1 hS hM
  refine s_alloc hS hM (by decide) zero37 ?_; clear hS hM; intro a b2 w hb2 hS hM
  refine s_val hS (by decide) rfl rfl (r_assign hS rfl) ?_; clear hS; intro a hS
  refine s_nil ?_
  refine k_seq ?_
  refine c_seq ?_
  refine c_region ?_
  refine s_pure hS hM (by decide) (vs := [N 1, N 3]) rfl (ones_ok _ _ (by decide) (by decide) _) ?_; clear hS hM; intro a w hS hM
  refine s_alloc hS hM (by decide) zero22 ?_; clear hS hM; intro a b4 w hb4 hS hM
  refine s_storeAll hS hM rfl rfl (j := 0) rfl sz22 cells_len cells_len cB_one ?_; clear hS hM; intro a w hS hM
  refine s_nil ?_
  refine k_seq ?_
  refine c_seq ?_
  refine c_region ?_
  refine s_val hS (by decide) rfl rfl (r_index0 hS rfl (show ev _ _ = some (.int .i64 ((0 : Nat) : Int)) from rfl) Try.underlying22 sz5 (by decide)) ?_; clear hS; intro a hS
  refine s_val hS (by decide) rfl rfl (r_load hS hM rfl (j := 0) rfl Try.underlying5 rfl (cells_get (by omega))) ?_; clear hS; intro a hS
  refine s_val hS (by decide) rfl rfl (r_bv hS rfl (show ev _ _ = some (B 1#8) from rfl) gB (b_addB _ _ _)) ?_; clear hS; intro a hS
  refine s_val hS (by decide) rfl rfl (r_index0 hS rfl (show ev _ _ = some (.int .i64 ((0 : Nat) : Int)) from rfl) Try.underlying22 sz5 (by decide)) ?_; clear hS; intro a hS
  refine s_storeB hS hM rfl rfl (j := 0) rfl sz5 (by omega) ?_; clear hS hM; intro a w hS hM
  refine s_nil ?_
  refine k_seq ?_
  refine c_seq ?_
  refine c_region ?_
  refine s_val hS (by decide) rfl rfl (r_loadAll hS hM rfl (j := 2) rfl Try.underlying37 rfl sz37 cells_len) ?_; clear hS; intro a hS
  refine s_val hS (by decide) rfl rfl (r_loadAll hS hM rfl (j := 0) rfl Try.underlying22 rfl sz22 cells_len) ?_; clear hS; intro a hS
  refine s_pure hS hM (by decide) rfl (rpow_ok _ _ (by first | exact Nat.mod_lt _ pP_pos | exact pw_lt _ _ | exact np_lt _ _ _ | exact small_lt _ | exact r1N_lt _ | exact outN_lt _ | exact invN_lt _ | exact Tw.lt (by assumption) | assumption) _) ?_; clear hS hM; intro a w hS hM
  refine s_alloc hS hM (by decide) zero37 ?_; clear hS hM; intro a b5 w hb5 hS hM
  refine s_storeAll hS hM rfl rfl (j := 0) rfl sz37 cells_len cells_len cI_one ?_; clear hS hM; intro a w hS hM
  rw [ones_S'] at hM
  refine s_nil ?_
  refine k_seq ?_
  refine c_seq ?_
  refine c_seq ?_
  refine c_plan 5 (fun w => Mem w0 w _) [(5, _), (1, _), (2, _), (3, _)] (by kernel_rfl) (by kernel_rfl) hS ⟨rfl, rfl, rfl, rfl, trivial⟩ (hM.drawn _) ?_; clear hS hM
  refine p_step rfl (fun a w hS hM => y_val rfl (r_loadAll hS hM rfl (j := 0) rfl Try.underlying37 rfl sz37 cells_len)) ?_
  refine p_step rfl (fun a w hS hM => y_val rfl (r_loadAll hS hM rfl (j := 0) rfl Try.underlying37 rfl sz37 cells_len)) ?_
  refine p_step rfl (fun a w hS hM => y_call (by kernel_rfl) hS rfl ((rmul_ok _ _ (by first | exact Nat.mod_lt _ pP_pos | exact pw_lt _ _ | exact np_lt _ _ _ | exact small_lt _ | exact r1N_lt _ | exact outN_lt _ | exact invN_lt _ | exact Tw.lt (by assumption) | assumption) (by first | exact Nat.mod_lt _ pP_pos | exact pw_lt _ _ | exact np_lt _ _ _ | exact small_lt _ | exact r1N_lt _ | exact outN_lt _ | exact invN_lt _ | exact Tw.lt (by assumption) | assumption) _).mem hM)) ?_
  refine p_step rfl (fun a w hS hM => y_val rfl (r_loadAll hS hM rfl (j := 3) rfl Try.underlying37 rfl sz37 cells_len)) ?_
  refine p_step rfl (fun a w hS hM => y_val rfl (r_neqI hS rfl rfl (by kernel_rfl) Try.underlying37 Try.underlying2 sz2)) ?_
  refine p_nil rfl ?_; intro a w hS hM
  refine s_nil ?_
  refine k_seq ?_
  refine c_cond hS rfl (fun hc => ?_) (fun hc => ?_)
  · have h1 : ¬ r0N n * r0N n % pP = n := by rw [dig_eqR (Nat.mod_lt _ pP_pos) hn] at hc; simpa using hc
    refine c_plan 5 (fun w => Mem w0 w _) [(5, _), (1, _), (2, _), (3, _)] (by kernel_rfl) (by kernel_rfl) hS ⟨rfl, rfl, rfl, rfl, trivial⟩ (hM.drawn _) ?_; clear hS hM
    refine p_step rfl (fun a w hS hM => y_val rfl (r_loadAll hS hM rfl (j := 0) rfl Try.underlying37 rfl sz37 cells_len)) ?_
    refine p_step rfl (fun a w hS hM => y_call (by kernel_rfl) hS (vs := [U 2#64]) rfl ((rsmall_ok _ _).mem hM)) ?_
    refine p_step rfl (fun a w hS hM => y_call (by kernel_rfl) hS (vs := [N 1, N 2]) rfl ((ones_ok _ _ (by decide) (by decide) _).mem hM)) ?_
    refine p_step rfl (fun a w hS hM => y_call (by kernel_rfl) hS rfl ((rpow_ok _ _ (by first | exact Nat.mod_lt _ pP_pos | exact pw_lt _ _ | exact np_lt _ _ _ | exact small_lt _ | exact r1N_lt _ | exact outN_lt _ | exact invN_lt _ | exact Tw.lt (by assumption) | assumption) _).mem hM)) ?_
    refine p_step rfl (fun a w hS hM => y_call (by kernel_rfl) hS rfl ((rmul_ok _ _ (by first | exact Nat.mod_lt _ pP_pos | exact pw_lt _ _ | exact np_lt _ _ _ | exact small_lt _ | exact r1N_lt _ | exact outN_lt _ | exact invN_lt _ | exact Tw.lt (by assumption) | assumption) (by first | exact Nat.mod_lt _ pP_pos | exact pw_lt _ _ | exact np_lt _ _ _ | exact small_lt _ | exact r1N_lt _ | exact outN_lt _ | exact invN_lt _ | exact Tw.lt (by assumption) | assumption) _).mem hM)) ?_
    refine p_nil rfl ?_; intro a w hS hM
    refine s_storeAll hS hM rfl rfl (j := 0) rfl sz37 cells_len cells_len cI_one ?_; clear hS hM; intro a w hS hM
    rw [ones_Q', ← r1N_no h1] at hM
    refine s_nil ?_
    refine k_seq ?_
    refine c_seq ?_
    refine c_seq ?_
    refine c_plan 5 (fun w => Mem w0 w _) [(5, _), (1, _), (2, _), (3, _)] (by kernel_rfl) (by kernel_rfl) hS ⟨rfl, rfl, rfl, rfl, trivial⟩ (hM.drawn _) ?_; clear hS hM
    refine p_step rfl (fun a w hS hM => y_val rfl (r_loadAll hS hM rfl (j := 0) rfl Try.underlying37 rfl sz37 cells_len)) ?_
    refine p_step rfl (fun a w hS hM => y_val rfl (r_loadAll hS hM rfl (j := 0) rfl Try.underlying37 rfl sz37 cells_len)) ?_
    refine p_step rfl (fun a w hS hM => y_call (by kernel_rfl) hS rfl ((rmul_ok _ _ (by first | exact Nat.mod_lt _ pP_pos | exact pw_lt _ _ | exact np_lt _ _ _ | exact small_lt _ | exact r1N_lt _ | exact outN_lt _ | exact invN_lt _ | exact Tw.lt (by assumption) | assumption) (by first | exact Nat.mod_lt _ pP_pos | exact pw_lt _ _ | exact np_lt _ _ _ | exact small_lt _ | exact r1N_lt _ | exact outN_lt _ | exact invN_lt _ | exact Tw.lt (by assumption) | assumption) _).mem hM)) ?_
    refine p_step rfl (fun a w hS hM => y_val rfl (r_loadAll hS hM rfl (j := 3) rfl Try.underlying37 rfl sz37 cells_len)) ?_
    refine p_step rfl (fun a w hS hM => y_val rfl (r_neqI hS rfl rfl (by kernel_rfl) Try.underlying37 Try.underlying2 sz2)) ?_
    refine p_nil rfl ?_; intro a w hS hM
    refine s_nil ?_
    refine k_seq ?_
    refine c_cond hS rfl (fun hc => ?_) (fun hc => ?_)
    · have h2 : ¬ r1N n * r1N n % pP = n := by rw [dig_eqR (Nat.mod_lt _ pP_pos) hn] at hc; simpa using hc
      refine c_seq ?_
      refine c_region ?_
      refine s_val hS (by decide) rfl rfl (r_build hS rfl (cs := cI 16 (fun _ => 0)) (fun _ => by kernel_rfl)) ?_; clear hS; intro a hS
      refine s_storeAll hS hM rfl rfl (j := 2) rfl sz37 cells_len cells_len cI_one ?_; clear hS hM; intro a w hS hM
      refine s_val hS (by decide) rfl rfl (r_assign hS rfl) ?_; clear hS; intro a hS
      refine s_nil ?_
      refine k_seq ?_
      refine c_ret ?_
      refine k_thenr ?_
      exact k_res2 hS rfl (RV.row rfl (hM.have_ _ (mem_of_get (j := 2) rfl)) Try.underlying37 rfl (by rw [sz37]; exact congrArg some cells_len.symm)) (RV.tmp rfl) ⟨(by first | rw [(outN_none h2).1, (outN_none h2).2, dig_zero] | rw [(outN_odd h2 h3).1, (outN_odd h2 h3).2] | rw [(outN_even h2 h3).1, (outN_even h2 h3).2]), hM.done ⟨hb5, hb4, hb2, hb1, trivial⟩⟩
    · have h2 : r1N n * r1N n % pP = n := by rw [dig_eqR (Nat.mod_lt _ pP_pos) hn] at hc; simpa using hc
      refine c_skip ?_
      refine k_seq ?_
      refine c_seq ?_
      refine c_seq ?_
      refine c_region ?_
      refine s_val hS (by decide) rfl rfl (r_loadAll hS hM rfl (j := 0) rfl Try.underlying37 rfl sz37 cells_len) ?_; clear hS; intro a hS
      refine s_pure hS hM (by decide) rfl (rodd_ok _ _) ?_; clear hS hM; intro a w hS hM
      refine s_nil ?_
      refine k_seq ?_
      refine c_cond hS rfl (fun hc => ?_) (fun hc => ?_)
      · have h3 : r1N n % 2 = 1 := by simpa using hc
        refine c_region ?_
        refine s_val hS (by decide) rfl rfl (r_loadAll hS hM rfl (j := 0) rfl Try.underlying37 rfl sz37 cells_len) ?_; clear hS; intro a hS
        refine s_pure hS hM (by decide) rfl (rneg_ok _ (by first | exact Nat.mod_lt _ pP_pos | exact pw_lt _ _ | exact np_lt _ _ _ | exact small_lt _ | exact r1N_lt _ | exact outN_lt _ | exact invN_lt _ | exact Tw.lt (by assumption) | assumption) _) ?_; clear hS hM; intro a w hS hM
        refine s_storeAll hS hM rfl rfl (j := 0) rfl sz37 cells_len cells_len cI_one ?_; clear hS hM; intro a w hS hM
        refine s_nil ?_
        refine k_seq ?_
        refine c_seq ?_
        refine c_region ?_
        refine s_val hS (by decide) rfl rfl (r_loadAll hS hM rfl (j := 0) rfl Try.underlying37 rfl sz37 cells_len) ?_; clear hS; intro a hS
        refine s_storeAll hS hM rfl rfl (j := 2) rfl sz37 cells_len cells_len cI_one ?_; clear hS hM; intro a w hS hM
        refine s_val hS (by decide) rfl rfl (r_assign hS rfl) ?_; clear hS; intro a hS
        refine s_nil ?_
        refine k_seq ?_
        refine c_ret ?_
        exact k_res2 hS rfl (RV.row rfl (hM.have_ _ (mem_of_get (j := 2) rfl)) Try.underlying37 rfl (by rw [sz37]; exact congrArg some cells_len.symm)) (RV.tmp rfl) ⟨(by first | rw [(outN_none h2).1, (outN_none h2).2, dig_zero] | rw [(outN_odd h2 h3).1, (outN_odd h2 h3).2] | rw [(outN_even h2 h3).1, (outN_even h2 h3).2]), hM.done ⟨hb5, hb4, hb2, hb1, trivial⟩⟩
      · have h3 : ¬ r1N n % 2 = 1 := by simpa using hc
        refine c_skip ?_
        refine k_seq ?_
        refine c_seq ?_
        refine c_region ?_
        refine s_val hS (by decide) rfl rfl (r_loadAll hS hM rfl (j := 0) rfl Try.underlying37 rfl sz37 cells_len) ?_; clear hS; intro a hS
        refine s_storeAll hS hM rfl rfl (j := 2) rfl sz37 cells_len cells_len cI_one ?_; clear hS hM; intro a w hS hM
        refine s_val hS (by decide) rfl rfl (r_assign hS rfl) ?_; clear hS; intro a hS
        refine s_nil ?_
        refine k_seq ?_
        refine c_ret ?_
        exact k_res2 hS rfl (RV.row rfl (hM.have_ _ (mem_of_get (j := 2) rfl)) Try.underlying37 rfl (by rw [sz37]; exact congrArg some cells_len.symm)) (RV.tmp rfl) ⟨(by first | rw [(outN_none h2).1, (outN_none h2).2, dig_zero] | rw [(outN_odd h2 h3).1, (outN_odd h2 h3).2] | rw [(outN_even h2 h3).1, (outN_even h2 h3).2]), hM.done ⟨hb5, hb4, hb2, hb1, trivial⟩⟩
  · have h1 : r0N n * r0N n % pP = n := (by rw [dig_eqR (Nat.mod_lt _ pP_pos) hn] at hc; simpa using hc); rw [← r1N_yes h1] at hM
    refine c_skip ?_
    refine k_seq ?_
    refine c_seq ?_
    refine c_seq ?_
    refine c_plan 5 (fun w => Mem w0 w _) [(5, _), (1, _), (2, _), (3, _)] (by kernel_rfl) (by kernel_rfl) hS ⟨rfl, rfl, rfl, rfl, trivial⟩ (hM.drawn _) ?_; clear hS hM
    refine p_step rfl (fun a w hS hM => y_val rfl (r_loadAll hS hM rfl (j := 0) rfl Try.underlying37 rfl sz37 cells_len)) ?_
    refine p_step rfl (fun a w hS hM => y_val rfl (r_loadAll hS hM rfl (j := 0) rfl Try.underlying37 rfl sz37 cells_len)) ?_
    refine p_step rfl (fun a w hS hM => y_call (by kernel_rfl) hS rfl ((rmul_ok _ _ (by first | exact Nat.mod_lt _ pP_pos | exact pw_lt _ _ | exact np_lt _ _ _ | exact small_lt _ | exact r1N_lt _ | exact outN_lt _ | exact invN_lt _ | exact Tw.lt (by assumption) | assumption) (by first | exact Nat.mod_lt _ pP_pos | exact pw_lt _ _ | exact np_lt _ _ _ | exact small_lt _ | exact r1N_lt _ | exact outN_lt _ | exact invN_lt _ | exact Tw.lt (by assumption) | assumption) _).mem hM)) ?_
    refine p_step rfl (fun a w hS hM => y_val rfl (r_loadAll hS hM rfl (j := 3) rfl Try.underlying37 rfl sz37 cells_len)) ?_
    refine p_step rfl (fun a w hS hM => y_val rfl (r_neqI hS rfl rfl (by kernel_rfl) Try.underlying37 Try.underlying2 sz2)) ?_
    refine p_nil rfl ?_; intro a w hS hM
    refine s_nil ?_
    refine k_seq ?_
    refine c_cond hS rfl (fun hc => ?_) (fun hc => ?_)
    · have h2 : ¬ r1N n * r1N n % pP = n := by rw [dig_eqR (Nat.mod_lt _ pP_pos) hn] at hc; simpa using hc
      refine c_seq ?_
      refine c_region ?_
      refine s_val hS (by decide) rfl rfl (r_build hS rfl (cs := cI 16 (fun _ => 0)) (fun _ => by kernel_rfl)) ?_; clear hS; intro a hS
      refine s_storeAll hS hM rfl rfl (j := 2) rfl sz37 cells_len cells_len cI_one ?_; clear hS hM; intro a w hS hM
      refine s_val hS (by decide) rfl rfl (r_assign hS rfl) ?_; clear hS; intro a hS
      refine s_nil ?_
      refine k_seq ?_
      refine c_ret ?_
      refine k_thenr ?_
      exact k_res2 hS rfl (RV.row rfl (hM.have_ _ (mem_of_get (j := 2) rfl)) Try.underlying37 rfl (by rw [sz37]; exact congrArg some cells_len.symm)) (RV.tmp rfl) ⟨(by first | rw [(outN_none h2).1, (outN_none h2).2, dig_zero] | rw [(outN_odd h2 h3).1, (outN_odd h2 h3).2] | rw [(outN_even h2 h3).1, (outN_even h2 h3).2]), hM.done ⟨hb5, hb4, hb2, hb1, trivial⟩⟩
    · have h2 : r1N n * r1N n % pP = n := by rw [dig_eqR (Nat.mod_lt _ pP_pos) hn] at hc; simpa using hc
      refine c_skip ?_
      refine k_seq ?_
      refine c_seq ?_
      refine c_seq ?_
      refine c_region ?_
      refine s_val hS (by decide) rfl rfl (r_loadAll hS hM rfl (j := 0) rfl Try.underlying37 rfl sz37 cells_len) ?_; clear hS; intro a hS
      refine s_pure hS hM (by decide) rfl (rodd_ok _ _) ?_; clear hS hM; intro a w hS hM
      refine s_nil ?_
      refine k_seq ?_
      refine c_cond hS rfl (fun hc => ?_) (fun hc => ?_)
      · have h3 : r1N n % 2 = 1 := by simpa using hc
        refine c_region ?_
        refine s_val hS (by decide) rfl rfl (r_loadAll hS hM rfl (j := 0) rfl Try.underlying37 rfl sz37 cells_len) ?_; clear hS; intro a hS
        refine s_pure hS hM (by decide) rfl (rneg_ok _ (by first | exact Nat.mod_lt _ pP_pos | exact pw_lt _ _ | exact np_lt _ _ _ | exact small_lt _ | exact r1N_lt _ | exact outN_lt _ | exact invN_lt _ | exact Tw.lt (by assumption) | assumption) _) ?_; clear hS hM; intro a w hS hM
        refine s_storeAll hS hM rfl rfl (j := 0) rfl sz37 cells_len cells_len cI_one ?_; clear hS hM; intro a w hS hM
        refine s_nil ?_
        refine k_seq ?_
        refine c_seq ?_
        refine c_region ?_
        refine s_val hS (by decide) rfl rfl (r_loadAll hS hM rfl (j := 0) rfl Try.underlying37 rfl sz37 cells_len) ?_; clear hS; intro a hS
        refine s_storeAll hS hM rfl rfl (j := 2) rfl sz37 cells_len cells_len cI_one ?_; clear hS hM; intro a w hS hM
        refine s_val hS (by decide) rfl rfl (r_assign hS rfl) ?_; clear hS; intro a hS
        refine s_nil ?_
        refine k_seq ?_
        refine c_ret ?_
        exact k_res2 hS rfl (RV.row rfl (hM.have_ _ (mem_of_get (j := 2) rfl)) Try.underlying37 rfl (by rw [sz37]; exact congrArg some cells_len.symm)) (RV.tmp rfl) ⟨(by first | rw [(outN_none h2).1, (outN_none h2).2, dig_zero] | rw [(outN_odd h2 h3).1, (outN_odd h2 h3).2] | rw [(outN_even h2 h3).1, (outN_even h2 h3).2]), hM.done ⟨hb5, hb4, hb2, hb1, trivial⟩⟩
      · have h3 : ¬ r1N n % 2 = 1 := by simpa using hc
        refine c_skip ?_
        refine k_seq ?_
        refine c_seq ?_
        refine c_region ?_
        refine s_val hS (by decide) rfl rfl (r_loadAll hS hM rfl (j := 0) rfl Try.underlying37 rfl sz37 cells_len) ?_; clear hS; intro a hS
        refine s_storeAll hS hM rfl rfl (j := 2) rfl sz37 cells_len cells_len cI_one ?_; clear hS hM; intro a w hS hM
        refine s_val hS (by decide) rfl rfl (r_assign hS rfl) ?_; clear hS; intro a hS
        refine s_nil ?_
        refine k_seq ?_
        refine c_ret ?_
        exact k_res2 hS rfl (RV.row rfl (hM.have_ _ (mem_of_get (j := 2) rfl)) Try.underlying37 rfl (by rw [sz37]; exact congrArg some cells_len.symm)) (RV.tmp rfl) ⟨(by first | rw [(outN_none h2).1, (outN_none h2).2, dig_zero] | rw [(outN_odd h2 h3).1, (outN_odd h2 h3).2] | rw [(outN_even h2 h3).1, (outN_even h2 h3).2]), hM.done ⟨hb5, hb4, hb2, hb1, trivial⟩⟩

set_option maxRecDepth 100000 in
theorem rratio_ok (u v : Nat) (hu : u < pP) (hv : v < pP) (w0 : World) : Pure Try.prog 42 #[.agg (cI 16 (dig u)).toArray, .agg (cI 16 (dig v)).toArray] w0 (.tuple #[.agg (cI 16 (dig (ratioN u v).1)).toArray, .bool (ratioN u v).2]) := by
  refine ⟨by kernel_rfl, ?_⟩
  refine calls_sym Try.func42 rfl (by kernel_rfl) ?_
  intro a hS
  have hM : Mem w0 w0 [] := Mem.refl w0
  refine c_seq ?_
  refine c_region ?_
  refine s_box hS hM (by decide) rfl rfl ?_; clear hS hM; intro a b2 w hb2 hS hM
  refine s_box hS hM (by decide) rfl rfl ?_; clear hS hM; intro a b3 w hb3 hS hM
  refine s_alloc hS hM (by decide) zero37 ?_; clear hS hM; intro a b4 w hb4 hS hM
  refine s_val hS (by decide) rfl rfl (r_assign hS rfl) ?_; clear hS; intro a hS
  refine s_nil ?_
  refine k_seq ?_
  refine c_seq ?_
  refine c_seq ?_
  refine c_region ?_
  refine s_val hS (by decide) rfl rfl (r_loadAll hS hM rfl (j := 1) rfl Try.underlying37 rfl sz37 cells_len) ?_; clear hS; intro a hS
  refine s_val hS (by decide) rfl rfl (r_build hS rfl (cs := cI 16 (fun _ => 0)) (fun _ => by kernel_rfl)) ?_; clear hS; intro a hS
  refine s_val hS (by decide) rfl rfl (r_eqlI hS rfl rfl (by kernel_rfl) Try.underlying37 Try.underlying2 sz2) ?_; clear hS; intro a hS
  refine s_nil ?_
  refine k_seq ?_
  refine c_cond hS rfl (fun hc => ?_) (fun hc => ?_)
  · have h1 : v = 0 := by rw [dig_eqz hv] at hc; simpa using hc
    refine c_seq ?_
    refine c_vplan 5 (SL w0 4 b4 37 (cI 16 (fun _ => 0)) (cI 16 (fun _ => 0)) [⟨b3, 37, cI 16 (dig v)⟩, ⟨b2, 37, cI 16 (dig u)⟩]) [(2, ptr b2 0), (4, ptr b4 0)] (fun i V => match i with | 0 => V 0 = .agg (cI 16 (fun _ => 0)).toArray | 1 => V 1 = .agg (cI 16 (dig u)).toArray | 2 => V 2 = .agg (cI 16 (fun _ => 0)).toArray | 3 => V 3 = .bool (eqR 16 (dig u) (fun _ => 0)) | _ => True) (by kernel_rfl) (by kernel_rfl) hS ⟨rfl, rfl, trivial⟩ (SL.start hb4 (hM.drawn _)) ?_ ?_
    · clear hS hM
      refine ⟨?_, ?_, ?_, ?_, ?_, trivial⟩
      · intro S V a w hp hs hi hR hS hM
        replace hS := hS.to [] trivial
        have hM0 := hM; replace hM := hM0.low
        exact vy_val rfl (r_build hS rfl (cs := cI 16 (fun _ => 0)) (fun _ => by kernel_rfl)) ⟨rfl, hM0.keep rfl⟩
      · intro S V a w hp hs hi hR hS hM
        replace hS := hS.to [(2, ptr b2 0)] ⟨rfl, trivial⟩
        have hM0 := hM; replace hM := hM0.low
        exact vy_val rfl (r_loadAll hS hM rfl (j := 1) rfl Try.underlying37 rfl sz37 cells_len) ⟨rfl, hM0.keep rfl⟩
      · intro S V a w hp hs hi hR hS hM
        replace hS := hS.to [] trivial
        have hM0 := hM; replace hM := hM0.low
        exact vy_val rfl (r_build hS rfl (cs := cI 16 (fun _ => 0)) (fun _ => by kernel_rfl)) ⟨rfl, hM0.keep rfl⟩
      · intro S V a w hp hs hi hR hS hM
        have h1 : V 1 = .agg (cI 16 (dig u)).toArray := hR 1 rfl
        have h2 : V 2 = .agg (cI 16 (fun _ => 0)).toArray := hR 2 rfl
        replace hS := hS.to [(10, .agg (cI 16 (dig u)).toArray), (11, .agg (cI 16 (fun _ => 0)).toArray)] ⟨congrArg some h1, congrArg some h2, trivial⟩
        have hM0 := hM; replace hM := hM0.low
        exact vy_val rfl (r_eqlI hS rfl rfl (by kernel_rfl) Try.underlying37 Try.underlying2 sz2) ⟨rfl, hM0.keep rfl⟩
      · intro S V a w hp hs hi hR hS hM
        have h0 : V 0 = .agg (cI 16 (fun _ => 0)).toArray := hR 0 rfl
        replace hS := hS.to [(9, .agg (cI 16 (fun _ => 0)).toArray), (4, ptr b4 0)] ⟨congrArg some h0, rfl, trivial⟩
        have hM1 := hM.ahead hi
        exact vy_storeAll hS hM1 rfl rfl (j := 0) rfl sz37 cells_len cells_len cI_one fun w' hM' => ⟨trivial, hM.wrote hM'⟩
    clear hS hM; intro V a w hR hS hM
    have v0 : V 0 = .agg (cI 16 (fun _ => 0)).toArray := hR 0 (by decide)
    have v1 : V 1 = .agg (cI 16 (dig u)).toArray := hR 1 (by decide)
    have v2 : V 2 = .agg (cI 16 (fun _ => 0)).toArray := hR 2 (by decide)
    have v3 : V 3 = .bool (eqR 16 (dig u) (fun _ => 0)) := hR 3 (by decide)
    replace hS := hS.to [(9, .agg (cI 16 (fun _ => 0)).toArray), (10, .agg (cI 16 (dig u)).toArray), (11, .agg (cI 16 (fun _ => 0)).toArray), (12, .bool (eqR 16 (dig u) (fun _ => 0))), (2, ptr b2 0), (4, ptr b4 0)] ⟨congrArg some v0, congrArg some v1, congrArg some v2, congrArg some v3, rfl, rfl, trivial⟩
    replace hM : Mem w0 w (⟨b4, 37, cI 16 (fun _ => 0)⟩ :: [⟨b3, 37, cI 16 (dig v)⟩, ⟨b2, 37, cI 16 (dig u)⟩]) := hM.stop rfl
    clear hR v0 v1 v2 v3
    refine s_val hS (by decide) rfl rfl (r_assign hS rfl) ?_; clear hS; intro a hS
    refine s_nil ?_
    refine k_seq ?_
    refine c_ret ?_
    refine k_thenr ?_
    exact k_res2 hS rfl (RV.row rfl (hM.have_ _ (mem_of_get (j := 0) rfl)) Try.underlying37 rfl (by rw [sz37]; exact congrArg some cells_len.symm)) (RV.tmp rfl) ⟨(by first | (rw [ratioN_yes h1, dig_eqz hu]; show _ = Ending.returned (.tuple #[.agg (cI 16 (dig 0)).toArray, _]); rw [dig_zero]) | (rw [ratioN_no h1]; rfl)), hM.done ⟨hb4, hb3, hb2, trivial⟩⟩
  · have h1 : ¬ v = 0 := by rw [dig_eqz hv] at hc; simpa using hc
    refine c_skip ?_
    refine k_seq ?_
    refine c_seq ?_
    refine c_plan 7 (fun w => Mem w0 w _) [(2, _), (3, _), (4, _), (5, _)] (by kernel_rfl) (by kernel_rfl) hS ⟨rfl, rfl, rfl, rfl, trivial⟩ (hM.drawn _) ?_; clear hS hM
    refine p_step rfl (fun a w hS hM => y_val rfl (r_loadAll hS hM rfl (j := 2) rfl Try.underlying37 rfl sz37 cells_len)) ?_
    refine p_step rfl (fun a w hS hM => y_val rfl (r_loadAll hS hM rfl (j := 1) rfl Try.underlying37 rfl sz37 cells_len)) ?_
    refine p_step rfl (fun a w hS hM => y_call (by kernel_rfl) hS rfl ((rinvert_ok _ (by first | exact Nat.mod_lt _ pP_pos | exact pw_lt _ _ | exact np_lt _ _ _ | exact small_lt _ | exact r1N_lt _ | exact outN_lt _ | exact invN_lt _ | exact Tw.lt (by assumption) | assumption) _).mem hM)) ?_
    refine p_step rfl (fun a w hS hM => y_call (by kernel_rfl) hS rfl ((rmul_ok _ _ (by first | exact Nat.mod_lt _ pP_pos | exact pw_lt _ _ | exact np_lt _ _ _ | exact small_lt _ | exact r1N_lt _ | exact outN_lt _ | exact invN_lt _ | exact Tw.lt (by assumption) | assumption) (by first | exact Nat.mod_lt _ pP_pos | exact pw_lt _ _ | exact np_lt _ _ _ | exact small_lt _ | exact r1N_lt _ | exact outN_lt _ | exact invN_lt _ | exact Tw.lt (by assumption) | assumption) _).mem hM)) ?_
    refine p_step rfl (fun a w hS hM => y_call (by kernel_rfl) hS rfl ((rsqrt_ok _ (by first | exact Nat.mod_lt _ pP_pos | exact pw_lt _ _ | exact np_lt _ _ _ | exact small_lt _ | exact r1N_lt _ | exact outN_lt _ | exact invN_lt _ | exact Tw.lt (by assumption) | assumption) _).mem hM)) ?_
    refine p_step rfl (fun a w hS hM => y_val rfl (r_extract hS rfl rfl)) ?_
    refine p_step rfl (fun a w hS hM => y_val rfl (r_extract hS rfl rfl)) ?_
    refine p_nil rfl ?_; intro a w hS hM
    refine s_storeAll hS hM rfl rfl (j := 0) rfl sz37 cells_len cells_len cI_one ?_; clear hS hM; intro a w hS hM
    refine s_val hS (by decide) rfl rfl (r_assign hS rfl) ?_; clear hS; intro a hS
    refine s_nil ?_
    refine k_seq ?_
    refine c_ret ?_
    exact k_res2 hS rfl (RV.row rfl (hM.have_ _ (mem_of_get (j := 0) rfl)) Try.underlying37 rfl (by rw [sz37]; exact congrArg some cells_len.symm)) (RV.tmp rfl) ⟨(by first | (rw [ratioN_yes h1, dig_eqz hu]; show _ = Ending.returned (.tuple #[.agg (cI 16 (dig 0)).toArray, _]); rw [dig_zero]) | (rw [ratioN_no h1]; rfl)), hM.done ⟨hb4, hb3, hb2, trivial⟩⟩
end Go.Proofs.Ytjnhgeoojnnfoaa
