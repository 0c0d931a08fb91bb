/- The walks through the laws of package fe. Printed by a program of mine (walk.py). -/
import Derived.Test.YtjnhgeoojnnfoaaFe4
import Derived.Test.YtjnhgeoojnnfoaaFe5
namespace Go.Proofs.Ytjnhgeoojnnfoaa
open Go Go.Sym
attribute [local irreducible] feAdd feMul feSub limb51 natB feCarry val

theorem equal_e {x y : Nat → BitVec 64} (hx : Ok x) (hy : Ok y) (h : val x % pP = val y % pP) (w0 : World) : Pure Try.prog 17 #[.agg (cU 5 x).toArray, .agg (cU 5 y).toArray] w0 (.bool true) := by
  have := equal_ok x y hx hy w0
  rwa [decide_eq_true h] at this
theorem equal_t {x y : Nat → BitVec 64} {m n : Int} (hx : Cg x m) (hy : Cg y n) (h : m = n) (w0 : World) : Pure Try.prog 17 #[.agg (cU 5 x).toArray, .agg (cU 5 y).toArray] w0 (.bool true) := equal_e hx.1 hy.1 (hx.eq hy h) w0
theorem iszero_t {x : Nat → BitVec 64} {m : Int} (hx : Cg x m) (h : m = 0) (w0 : World) : Pure Try.prog 31 #[.agg (cU 5 x).toArray] w0 (.bool true) := by
  have := iszero_ok x hx.1 w0
  rwa [decide_eq_true (show val x % pP = 0 from (hx.eq Cg.zero h).trans (by rw [zero_val]; rfl))] at this
theorem canon_t {f : Nat → BitVec 8} (h : natB f 32 % 2 ^ 255 < pP) (w0 : World) : Pure Try.prog 18 #[.agg (cB 32 f).toArray] w0 (.bool true) := by
  have := canon_ok f w0
  rwa [decide_eq_true h] at this
theorem canon_f {f : Nat → BitVec 8} (h : ¬ natB f 32 % 2 ^ 255 < pP) (w0 : World) : Pure Try.prog 18 #[.agg (cB 32 f).toArray] w0 (.bool false) := by
  have := canon_ok f w0
  rwa [decide_eq_false h] at this


set_option maxRecDepth 100000 in
theorem alive_ok  (w0 : World) : Pure Try.prog 14 #[] w0 (.bool true) := by
  refine ⟨by kernel_rfl, ?_⟩
  refine calls_sym Try.func14 rfl (by kernel_rfl) ?_
  intro a hS
  have hM : Mem w0 w0 [] := Mem.refl w0
  refine c_seq ?_
  refine c_region ?_
  refine s_val hS (by decide) rfl rfl (r_assign hS rfl) ?_; clear hS; intro a hS
  refine s_nil ?_
  refine k_seq ?_
  refine c_seq ?_
  refine c_region ?_
  refine s_val hS (by decide) rfl rfl (r_build hS rfl (cs := cB 32 (fun _ => 0)) (fun _ => by kernel_rfl)) ?_; clear hS; intro a hS
  refine s_alloc hS hM (by decide) zero22 ?_; clear hS hM; intro a b1 w hb1 hS hM
  refine s_storeAll hS hM rfl rfl (j := 0) rfl sz22 cells_len cells_len cB_one ?_; clear hS hM; intro a w hS hM
  refine s_nil ?_
  refine k_seq ?_
  refine c_seq ?_
  refine c_seq ?_
  refine c_region ?_
  refine s_val hS (by decide) rfl rfl (r_assign hS (show ev _ _ = some (N 0) from rfl)) ?_; clear hS; intro a hS
  refine s_nil ?_
  refine k_seq ?_
  refine c_block ?_
  refine c_loop (σ := Nat) (fun k a w => (k ≤ 32) ∧ Slots a 29 (env [(1, ptr b1 0), (2, N k)]) ∧ Mem w0 w ([⟨b1, 22, cB 32 (fil 0 (fun _ => 255#8) k)⟩])) (fun k => 32 - k) (0) ⟨by omega, hS.to _ ⟨rfl, rfl, trivial⟩, hM⟩ ?_
  clear hS hM; rintro k a w ⟨hk, hS, hM⟩
  refine c_seq ?_
  refine c_seq ?_
  refine c_region ?_
  refine s_val hS (by decide) rfl rfl (r_move hS rfl) ?_; clear hS; intro a hS
  refine s_val hS (by decide) rfl rfl (r_bv hS rfl (show ev _ _ = some (N 32) from rfl) gN (b_lssN _ _ _)) ?_; clear hS; intro a hS
  refine s_nil ?_
  refine k_seq ?_
  refine c_cond hS rfl (fun hc => ?_) (fun hc => ?_)
  · have hk1 := of_decide_eq_true hc
    refine c_skip ?_
    refine k_seq ?_
    refine c_seq ?_
    refine c_block ?_
    refine c_region ?_
    refine s_val hS (by decide) rfl rfl (r_move hS rfl) ?_; clear hS; intro a hS
    refine s_val hS (by decide) rfl rfl (r_index0 hS rfl rfl Try.underlying22 sz5 (by omega)) ?_; clear hS; intro a hS
    refine s_storeB hS hM rfl (show ev _ _ = some (B 255#8) from rfl) (j := 0) rfl sz5 (by omega) ?_; clear hS hM; intro a w hS hM
    refine s_nil ?_
    refine k_in ?_
    refine k_seq ?_
    refine c_region ?_
    refine s_val hS (by decide) rfl rfl (r_move hS rfl) ?_; clear hS; intro a hS
    refine s_val hS (by decide) rfl rfl (r_bv hS rfl (show ev _ _ = some (N 1) from rfl) gN (b_addN _ _ _ (by omega))) ?_; clear hS; intro a hS
    refine s_val hS (by decide) rfl rfl (r_assign hS rfl) ?_; clear hS; intro a hS
    refine s_nil ?_
    refine k_then ?_
    refine ⟨k + 1, by omega, by omega, hS.to _ ⟨rfl, rfl, trivial⟩, hM⟩
  · obtain rfl : k = 32 := (by have := of_decide_eq_false hc; omega); rw [cB_fil] at hM
    refine c_exit ?_
    refine k_thenx ?_
    refine k_thenx ?_
    refine k_inx ?_
    refine k_seq ?_
    refine c_seq ?_
    refine c_region ?_
    refine s_val hS (by decide) rfl rfl (r_loadAll hS hM rfl (j := 0) rfl Try.underlying22 rfl sz22 cells_len) ?_; clear hS; intro a hS
    refine s_pure hS hM (by decide) rfl (from_ok _ _) ?_; clear hS hM; intro a w hS hM
    refine s_pure hS hM (by decide) rfl (bytes_ok _ (limb51_ok _) _) ?_; clear hS hM; intro a w hS hM
    refine s_val hS (by decide) rfl rfl (r_index hS rfl (show ev _ _ = some (.int .i64 ((0 : Nat) : Int)) from rfl) Try.underlying22 sz5 Try.underlying5 rfl (by decide) (cells_get' (by omega))) ?_; clear hS; intro a hS
    refine s_val hS (by decide) rfl rfl (r_bv hS rfl (show ev _ _ = some (B 18#8) from rfl) gB (b_eqlBt (by decide +kernel))) ?_; clear hS; intro a hS
    refine s_val hS (by decide) rfl rfl (r_move hS rfl) ?_; clear hS; intro a hS
    refine s_pureg hS hM (by decide) (vs := [U 1#64]) rfl rfl rfl rfl (small_ok _ _) ?_; clear hS hM; intro a w hS hM
    refine s_pureg hS hM (by decide) rfl rfl rfl rfl (neg_ok _ _) ?_; clear hS hM; intro a w hS hM
    refine s_pureg hS hM (by decide) rfl rfl rfl rfl (bytes_ok _ (Cg.sub Cg.zero (Cg.small 1#64)).1 _) ?_; clear hS hM; intro a w hS hM
    refine s_valg hS (by decide) rfl rfl rfl rfl rfl (r_index hS rfl (show ev _ _ = some (.int .i64 ((0 : Nat) : Int)) from rfl) Try.underlying22 sz5 Try.underlying5 rfl (by decide) (cells_get' (by omega))) ?_; clear hS; intro a hS
    refine s_valg hS (by decide) rfl rfl rfl rfl rfl (r_bv hS rfl (show ev _ _ = some (B 236#8) from rfl) gB (b_eqlBt (by decide +kernel))) ?_; clear hS; intro a hS
    refine s_val hS (by decide) rfl rfl (r_pick hS rfl rfl) ?_; clear hS; intro a hS
    refine s_val hS (by decide) rfl rfl (r_move hS rfl) ?_; clear hS; intro a hS
    refine s_pureg hS hM (by decide) (vs := [U 2#64]) rfl rfl rfl rfl (small_ok _ _) ?_; clear hS hM; intro a w hS hM
    refine s_pureg hS hM (by decide) (vs := [U 3#64]) rfl rfl rfl rfl (small_ok _ _) ?_; clear hS hM; intro a w hS hM
    refine s_pureg hS hM (by decide) rfl rfl rfl rfl (add_ok _ _ _) ?_; clear hS hM; intro a w hS hM
    refine s_pureg hS hM (by decide) (vs := [U 5#64]) rfl rfl rfl rfl (small_ok _ _) ?_; clear hS hM; intro a w hS hM
    refine s_pureg hS hM (by decide) rfl rfl rfl rfl (equal_t (Cg.add (Cg.small 2#64) (Cg.small 3#64)) (Cg.small 5#64) (by decide) _) ?_; clear hS hM; intro a w hS hM
    refine s_val hS (by decide) rfl rfl (r_pick hS rfl rfl) ?_; clear hS; intro a hS
    refine s_val hS (by decide) rfl rfl (r_assign hS rfl) ?_; clear hS; intro a hS
    refine s_nil ?_
    refine k_seq ?_
    refine c_ret ?_
    exact k_res1 hS rfl (RV.tmp rfl) ⟨rfl, hM.done ⟨hb1, trivial⟩⟩

set_option maxRecDepth 100000 in
theorem feBack_ok (f : Nat → BitVec 8) (w0 : World) : Pure Try.prog 3 #[.agg (cB 32 f).toArray] w0 (.bool true) := by
  refine ⟨by kernel_rfl, ?_⟩
  refine calls_sym Try.func3 rfl (by kernel_rfl) ?_
  intro a hS
  have hM : Mem w0 w0 [] := Mem.refl w0
  refine c_seq ?_
  refine c_region ?_
  refine s_box hS hM (by decide) rfl rfl ?_; clear hS hM; intro a b1 w hb1 hS hM
  refine s_val hS (by decide) rfl rfl (r_assign hS rfl) ?_; clear hS; intro a hS
  refine s_nil ?_
  refine k_seq ?_
  refine c_seq ?_
  refine c_region ?_
  refine s_pure hS hM (by decide) rfl (alive_ok _) ?_; clear hS hM; intro a w hS hM
  refine s_val hS (by decide) rfl rfl (r_assign hS rfl) ?_; clear hS; intro a hS
  refine s_nil ?_
  refine k_seq ?_
  refine c_seq ?_
  refine c_region ?_
  refine s_val hS (by decide) rfl rfl (r_loadAll hS hM rfl (j := 0) rfl Try.underlying22 rfl sz22 cells_len) ?_; clear hS; intro a hS
  refine s_pure hS hM (by decide) rfl (from_ok _ _) ?_; clear hS hM; intro a w hS hM
  refine s_alloc hS hM (by decide) zero27 ?_; clear hS hM; intro a b4 w hb4 hS hM
  refine s_storeAll hS hM rfl rfl (j := 0) rfl sz27 cells_len cells_len cU_one ?_; clear hS hM; intro a w hS hM
  refine s_nil ?_
  refine k_seq ?_
  refine c_seq ?_
  refine c_region ?_
  refine s_val hS (by decide) rfl rfl (r_loadAll hS hM rfl (j := 0) rfl Try.underlying27 rfl sz27 cells_len) ?_; clear hS; intro a hS
  refine s_pure hS hM (by decide) rfl (bytes_ok _ (by first | exact limb51_ok _ | exact Cg.ok (by repeat first | exact Cg.zero | exact Cg.small _ | assumption | apply Cg.add | apply Cg.mul | apply Cg.sub | exact Cg.self (limb51_ok _))) _) ?_; clear hS hM; intro a w hS hM
  refine s_alloc hS hM (by decide) zero22 ?_; clear hS hM; intro a b5 w hb5 hS hM
  refine s_storeAll hS hM rfl rfl (j := 0) rfl sz22 cells_len cells_len cB_one ?_; clear hS hM; intro a w hS hM
  refine s_nil ?_
  refine k_seq ?_
  refine c_seq ?_
  refine c_region ?_
  refine s_val hS (by decide) rfl rfl (r_loadAll hS hM rfl (j := 2) rfl Try.underlying22 rfl sz22 cells_len) ?_; clear hS; intro a hS
  refine s_alloc hS hM (by decide) zero22 ?_; clear hS hM; intro a b6 w hb6 hS hM
  refine s_storeAll hS hM rfl rfl (j := 0) rfl sz22 cells_len cells_len cB_one ?_; clear hS hM; intro a w hS hM
  refine s_nil ?_
  refine k_seq ?_
  refine c_seq ?_
  refine c_region ?_
  refine s_val hS (by decide) rfl rfl (r_index0 hS rfl (show ev _ _ = some (.int .i64 ((31 : Nat) : Int)) from rfl) Try.underlying22 sz5 (by decide)) ?_; clear hS; intro a hS
  refine s_val hS (by decide) rfl rfl (r_load hS hM rfl (j := 0) rfl Try.underlying5 rfl (cells_get (by omega))) ?_; clear hS; intro a hS
  refine s_val hS (by decide) rfl rfl (r_bv hS rfl (show ev _ _ = some (B 128#8) from rfl) gB (b_xorB _ _ _)) ?_; clear hS; intro a hS
  refine s_val hS (by decide) rfl rfl (r_index0 hS rfl (show ev _ _ = some (.int .i64 ((31 : Nat) : Int)) from rfl) Try.underlying22 sz5 (by decide)) ?_; clear hS; intro a hS
  refine s_storeB hS hM rfl rfl (j := 0) rfl sz5 (by omega) ?_; clear hS hM; intro a w hS hM
  refine s_nil ?_
  refine k_seq ?_
  refine c_seq ?_
  refine c_plan 30 (fun w => Mem w0 w _) [(3, _), (5, _), (4, _), (6, _), (1, _)] (by kernel_rfl) (by kernel_rfl) hS ⟨rfl, rfl, rfl, rfl, rfl, trivial⟩ (hM.drawn _) ?_; clear hS hM
  refine p_step rfl (fun a w hS hM => y_val rfl (r_move hS rfl)) ?_
  refine p_step rfl (fun a w hS hM => y_val rfl (r_move hS rfl)) ?_
  refine p_step rfl (fun a w hS hM => y_valg hS rfl rfl rfl rfl (r_loadAll hS hM rfl (j := 1) rfl Try.underlying22 rfl sz22 cells_len)) ?_
  refine p_step rfl (fun a w hS hM => y_callg (by kernel_rfl) hS rfl rfl rfl rfl ((from_ok _ _).mem hM)) ?_
  refine p_step rfl (fun a w hS hM => y_valg hS rfl rfl rfl rfl (r_loadAll hS hM rfl (j := 2) rfl Try.underlying27 rfl sz27 cells_len)) ?_
  refine p_step rfl (fun a w hS hM => y_callg (by kernel_rfl) hS rfl rfl rfl rfl ((equal_e (limb51_ok _) (limb51_ok _) (back1 _) _).mem hM)) ?_
  refine p_step rfl (fun a w hS hM => y_val rfl (r_pick hS rfl rfl)) ?_
  refine p_step rfl (fun a w hS hM => y_val rfl (r_move hS rfl)) ?_
  refine p_step rfl (fun a w hS hM => y_valg hS rfl rfl rfl rfl (r_loadAll hS hM rfl (j := 1) rfl Try.underlying22 rfl sz22 cells_len)) ?_
  refine p_step rfl (fun a w hS hM => y_callg (by kernel_rfl) hS rfl rfl rfl rfl ((canon_t (back2 _) _).mem hM)) ?_
  refine p_step rfl (fun a w hS hM => y_val rfl (r_pick hS rfl rfl)) ?_
  refine p_step rfl (fun a w hS hM => y_val rfl (r_move hS rfl)) ?_
  refine p_step rfl (fun a w hS hM => y_valg hS rfl rfl rfl rfl (r_index0 hS rfl (show ev _ _ = some (.int .i64 ((31 : Nat) : Int)) from rfl) Try.underlying22 sz5 (by decide))) ?_
  refine p_step rfl (fun a w hS hM => y_valg hS rfl rfl rfl rfl (r_load hS hM rfl (j := 1) rfl Try.underlying5 rfl (cells_get (by omega)))) ?_
  refine p_step rfl (fun a w hS hM => y_valg hS rfl rfl rfl rfl (r_bv hS rfl (show ev _ _ = some (B 128#8) from rfl) gB (b_lssBt (back3 _)))) ?_
  refine p_step rfl (fun a w hS hM => y_val rfl (r_pick hS rfl rfl)) ?_
  refine p_step rfl (fun a w hS hM => y_val rfl (r_move hS rfl)) ?_
  refine p_step rfl (fun a w hS hM => y_valg hS rfl rfl rfl rfl (r_loadAll hS hM rfl (j := 0) rfl Try.underlying22 rfl sz22 cells_len)) ?_
  refine p_step rfl (fun a w hS hM => y_callg (by kernel_rfl) hS rfl rfl rfl rfl ((from_ok _ _).mem hM)) ?_
  refine p_step rfl (fun a w hS hM => y_valg hS rfl rfl rfl rfl (r_loadAll hS hM rfl (j := 2) rfl Try.underlying27 rfl sz27 cells_len)) ?_
  refine p_step rfl (fun a w hS hM => y_callg (by kernel_rfl) hS rfl rfl rfl rfl ((equal_e (limb51_ok _) (limb51_ok _) (back4 _) _).mem hM)) ?_
  refine p_step rfl (fun a w hS hM => y_val rfl (r_pick hS rfl rfl)) ?_
  refine p_step rfl (fun a w hS hM => y_val rfl (r_move hS rfl)) ?_
  refine p_step rfl (fun a w hS hM => y_valg hS rfl rfl rfl rfl (r_loadAll hS hM rfl (j := 3) rfl Try.underlying22 rfl sz22 cells_len)) ?_
  refine p_step rfl (fun a w hS hM => y_callg (by kernel_rfl) hS rfl rfl rfl rfl ((canon_ok _ _).mem hM)) ?_
  refine p_step rfl (fun a w hS hM => y_valg hS rfl rfl rfl rfl (r_loadAll hS hM rfl (j := 0) rfl Try.underlying22 rfl sz22 cells_len)) ?_
  refine p_step rfl (fun a w hS hM => y_callg (by kernel_rfl) hS rfl rfl rfl rfl ((canon_ok _ _).mem hM)) ?_
  refine p_step rfl (fun a w hS hM => y_valg hS rfl rfl rfl rfl (r_eqbt hS rfl rfl Try.underlying4 (back5 f))) ?_
  refine p_step rfl (fun a w hS hM => y_val rfl (r_pick hS rfl rfl)) ?_
  refine p_step rfl (fun a w hS hM => y_val rfl (r_assign hS rfl)) ?_
  refine p_nil rfl ?_; intro a w hS hM
  refine s_nil ?_
  refine k_seq ?_
  refine c_ret ?_
  exact k_res1 hS rfl (RV.tmp rfl) ⟨rfl, hM.done ⟨hb6, hb5, hb4, hb1, trivial⟩⟩

set_option maxRecDepth 100000 in
theorem feRing_ok (f g h : Nat → BitVec 8) (w0 : World) : Pure Try.prog 6 #[.agg (cB 32 f).toArray, .agg (cB 32 g).toArray, .agg (cB 32 h).toArray] w0 (.bool true) := by
  refine ⟨by kernel_rfl, ?_⟩
  refine calls_sym Try.func6 rfl (by kernel_rfl) ?_
  intro a hS
  have hM : Mem w0 w0 [] := Mem.refl w0
  refine c_seq ?_
  refine c_region ?_
  refine s_box hS hM (by decide) rfl rfl ?_; clear hS hM; intro a b3 w hb3 hS hM
  refine s_box hS hM (by decide) rfl rfl ?_; clear hS hM; intro a b4 w hb4 hS hM
  refine s_box hS hM (by decide) rfl rfl ?_; clear hS hM; intro a b5 w hb5 hS hM
  refine s_val hS (by decide) rfl rfl (r_assign hS rfl) ?_; clear hS; intro a hS
  refine s_nil ?_
  refine k_seq ?_
  refine c_seq ?_
  refine c_region ?_
  refine s_pure hS hM (by decide) rfl (alive_ok _) ?_; clear hS hM; intro a w hS hM
  refine s_val hS (by decide) rfl rfl (r_assign hS rfl) ?_; clear hS; intro a hS
  refine s_nil ?_
  refine k_seq ?_
  refine c_seq ?_
  refine c_region ?_
  refine s_val hS (by decide) rfl rfl (r_loadAll hS hM rfl (j := 2) rfl Try.underlying22 rfl sz22 cells_len) ?_; clear hS; intro a hS
  refine s_pure hS hM (by decide) rfl (from_ok _ _) ?_; clear hS hM; intro a w hS hM
  refine s_alloc hS hM (by decide) zero27 ?_; clear hS hM; intro a b8 w hb8 hS hM
  refine s_storeAll hS hM rfl rfl (j := 0) rfl sz27 cells_len cells_len cU_one ?_; clear hS hM; intro a w hS hM
  refine s_nil ?_
  refine k_seq ?_
  refine c_seq ?_
  refine c_region ?_
  refine s_val hS (by decide) rfl rfl (r_loadAll hS hM rfl (j := 2) rfl Try.underlying22 rfl sz22 cells_len) ?_; clear hS; intro a hS
  refine s_pure hS hM (by decide) rfl (from_ok _ _) ?_; clear hS hM; intro a w hS hM
  refine s_alloc hS hM (by decide) zero27 ?_; clear hS hM; intro a b9 w hb9 hS hM
  refine s_storeAll hS hM rfl rfl (j := 0) rfl sz27 cells_len cells_len cU_one ?_; clear hS hM; intro a w hS hM
  refine s_nil ?_
  refine k_seq ?_
  refine c_seq ?_
  refine c_region ?_
  refine s_val hS (by decide) rfl rfl (r_loadAll hS hM rfl (j := 2) rfl Try.underlying22 rfl sz22 cells_len) ?_; clear hS; intro a hS
  refine s_pure hS hM (by decide) rfl (from_ok _ _) ?_; clear hS hM; intro a w hS hM
  refine s_alloc hS hM (by decide) zero27 ?_; clear hS hM; intro a b10 w hb10 hS hM
  refine s_storeAll hS hM rfl rfl (j := 0) rfl sz27 cells_len cells_len cU_one ?_; clear hS hM; intro a w hS hM
  refine s_nil ?_
  refine k_seq ?_
  refine c_seq ?_
  refine c_plan 14 (fun w => Mem w0 w _) [(8, _), (9, _), (10, _), (6, _), (7, _)] (by kernel_rfl) (by kernel_rfl) hS ⟨rfl, rfl, rfl, rfl, rfl, trivial⟩ (hM.drawn _) ?_; clear hS hM
  refine p_step rfl (fun a w hS hM => y_val rfl (r_loadAll hS hM rfl (j := 2) rfl Try.underlying27 rfl sz27 cells_len)) ?_
  refine p_step rfl (fun a w hS hM => y_val rfl (r_loadAll hS hM rfl (j := 1) rfl Try.underlying27 rfl sz27 cells_len)) ?_
  refine p_step rfl (fun a w hS hM => y_val rfl (r_loadAll hS hM rfl (j := 0) rfl Try.underlying27 rfl sz27 cells_len)) ?_
  refine p_step rfl (fun a w hS hM => y_call (by kernel_rfl) hS rfl ((add_ok _ _ _).mem hM)) ?_
  refine p_step rfl (fun a w hS hM => y_call (by kernel_rfl) hS rfl ((mul_ok _ _ _).mem hM)) ?_
  refine p_step rfl (fun a w hS hM => y_val rfl (r_loadAll hS hM rfl (j := 2) rfl Try.underlying27 rfl sz27 cells_len)) ?_
  refine p_step rfl (fun a w hS hM => y_val rfl (r_loadAll hS hM rfl (j := 1) rfl Try.underlying27 rfl sz27 cells_len)) ?_
  refine p_step rfl (fun a w hS hM => y_call (by kernel_rfl) hS rfl ((mul_ok _ _ _).mem hM)) ?_
  refine p_step rfl (fun a w hS hM => y_val rfl (r_loadAll hS hM rfl (j := 2) rfl Try.underlying27 rfl sz27 cells_len)) ?_
  refine p_step rfl (fun a w hS hM => y_val rfl (r_loadAll hS hM rfl (j := 0) rfl Try.underlying27 rfl sz27 cells_len)) ?_
  refine p_step rfl (fun a w hS hM => y_call (by kernel_rfl) hS rfl ((mul_ok _ _ _).mem hM)) ?_
  refine p_step rfl (fun a w hS hM => y_call (by kernel_rfl) hS rfl ((add_ok _ _ _).mem hM)) ?_
  refine p_step rfl (fun a w hS hM => y_call (by kernel_rfl) hS rfl ((equal_t (by repeat first | exact Cg.zero | exact Cg.small _ | assumption | apply Cg.add | apply Cg.mul | apply Cg.sub | exact Cg.self (limb51_ok _)) (by repeat first | exact Cg.zero | exact Cg.small _ | assumption | apply Cg.add | apply Cg.mul | apply Cg.sub | exact Cg.self (limb51_ok _)) (by grind) _).mem hM)) ?_
  refine p_step rfl (fun a w hS hM => y_val rfl (r_assign hS rfl)) ?_
  refine p_nil rfl ?_; intro a w hS hM
  refine s_nil ?_
  refine k_seq ?_
  refine c_seq ?_
  refine c_plan 12 (fun w => Mem w0 w _) [(8, _), (9, _), (10, _), (6, _), (7, _), (11, _)] (by kernel_rfl) (by kernel_rfl) hS ⟨rfl, rfl, rfl, rfl, rfl, rfl, trivial⟩ (hM.drawn _) ?_; clear hS hM
  refine p_step rfl (fun a w hS hM => y_val rfl (r_loadAll hS hM rfl (j := 2) rfl Try.underlying27 rfl sz27 cells_len)) ?_
  refine p_step rfl (fun a w hS hM => y_val rfl (r_loadAll hS hM rfl (j := 1) rfl Try.underlying27 rfl sz27 cells_len)) ?_
  refine p_step rfl (fun a w hS hM => y_call (by kernel_rfl) hS rfl ((mul_ok _ _ _).mem hM)) ?_
  refine p_step rfl (fun a w hS hM => y_val rfl (r_loadAll hS hM rfl (j := 0) rfl Try.underlying27 rfl sz27 cells_len)) ?_
  refine p_step rfl (fun a w hS hM => y_call (by kernel_rfl) hS rfl ((mul_ok _ _ _).mem hM)) ?_
  refine p_step rfl (fun a w hS hM => y_val rfl (r_loadAll hS hM rfl (j := 2) rfl Try.underlying27 rfl sz27 cells_len)) ?_
  refine p_step rfl (fun a w hS hM => y_val rfl (r_loadAll hS hM rfl (j := 1) rfl Try.underlying27 rfl sz27 cells_len)) ?_
  refine p_step rfl (fun a w hS hM => y_val rfl (r_loadAll hS hM rfl (j := 0) rfl Try.underlying27 rfl sz27 cells_len)) ?_
  refine p_step rfl (fun a w hS hM => y_call (by kernel_rfl) hS rfl ((mul_ok _ _ _).mem hM)) ?_
  refine p_step rfl (fun a w hS hM => y_call (by kernel_rfl) hS rfl ((mul_ok _ _ _).mem hM)) ?_
  refine p_step rfl (fun a w hS hM => y_call (by kernel_rfl) hS rfl ((equal_t (by repeat first | exact Cg.zero | exact Cg.small _ | assumption | apply Cg.add | apply Cg.mul | apply Cg.sub | exact Cg.self (limb51_ok _)) (by repeat first | exact Cg.zero | exact Cg.small _ | assumption | apply Cg.add | apply Cg.mul | apply Cg.sub | exact Cg.self (limb51_ok _)) (by grind) _).mem hM)) ?_
  refine p_step rfl (fun a w hS hM => y_val rfl (r_assign hS rfl)) ?_
  refine p_nil rfl ?_; intro a w hS hM
  refine s_nil ?_
  refine k_seq ?_
  refine c_seq ?_
  refine c_plan 12 (fun w => Mem w0 w _) [(8, _), (9, _), (10, _), (6, _), (7, _), (11, _), (12, _)] (by kernel_rfl) (by kernel_rfl) hS ⟨rfl, rfl, rfl, rfl, rfl, rfl, rfl, trivial⟩ (hM.drawn _) ?_; clear hS hM
  refine p_step rfl (fun a w hS hM => y_val rfl (r_loadAll hS hM rfl (j := 2) rfl Try.underlying27 rfl sz27 cells_len)) ?_
  refine p_step rfl (fun a w hS hM => y_val rfl (r_loadAll hS hM rfl (j := 1) rfl Try.underlying27 rfl sz27 cells_len)) ?_
  refine p_step rfl (fun a w hS hM => y_call (by kernel_rfl) hS rfl ((add_ok _ _ _).mem hM)) ?_
  refine p_step rfl (fun a w hS hM => y_val rfl (r_loadAll hS hM rfl (j := 0) rfl Try.underlying27 rfl sz27 cells_len)) ?_
  refine p_step rfl (fun a w hS hM => y_call (by kernel_rfl) hS rfl ((add_ok _ _ _).mem hM)) ?_
  refine p_step rfl (fun a w hS hM => y_val rfl (r_loadAll hS hM rfl (j := 2) rfl Try.underlying27 rfl sz27 cells_len)) ?_
  refine p_step rfl (fun a w hS hM => y_val rfl (r_loadAll hS hM rfl (j := 0) rfl Try.underlying27 rfl sz27 cells_len)) ?_
  refine p_step rfl (fun a w hS hM => y_val rfl (r_loadAll hS hM rfl (j := 1) rfl Try.underlying27 rfl sz27 cells_len)) ?_
  refine p_step rfl (fun a w hS hM => y_call (by kernel_rfl) hS rfl ((add_ok _ _ _).mem hM)) ?_
  refine p_step rfl (fun a w hS hM => y_call (by kernel_rfl) hS rfl ((add_ok _ _ _).mem hM)) ?_
  refine p_step rfl (fun a w hS hM => y_call (by kernel_rfl) hS rfl ((equal_t (by repeat first | exact Cg.zero | exact Cg.small _ | assumption | apply Cg.add | apply Cg.mul | apply Cg.sub | exact Cg.self (limb51_ok _)) (by repeat first | exact Cg.zero | exact Cg.small _ | assumption | apply Cg.add | apply Cg.mul | apply Cg.sub | exact Cg.self (limb51_ok _)) (by grind) _).mem hM)) ?_
  refine p_step rfl (fun a w hS hM => y_val rfl (r_assign hS rfl)) ?_
  refine p_nil rfl ?_; intro a w hS hM
  refine s_nil ?_
  refine k_seq ?_
  refine c_seq ?_
  refine c_plan 17 (fun w => Mem w0 w _) [(8, _), (9, _), (6, _), (7, _), (11, _), (12, _), (13, _)] (by kernel_rfl) (by kernel_rfl) hS ⟨rfl, rfl, rfl, rfl, rfl, rfl, rfl, trivial⟩ (hM.drawn _) ?_; clear hS hM
  refine p_step rfl (fun a w hS hM => y_val rfl (r_loadAll hS hM rfl (j := 2) rfl Try.underlying27 rfl sz27 cells_len)) ?_
  refine p_step rfl (fun a w hS hM => y_val rfl (r_loadAll hS hM rfl (j := 1) rfl Try.underlying27 rfl sz27 cells_len)) ?_
  refine p_step rfl (fun a w hS hM => y_call (by kernel_rfl) hS rfl ((add_ok _ _ _).mem hM)) ?_
  refine p_step rfl (fun a w hS hM => y_call (by kernel_rfl) hS rfl ((square_ok _ _).mem hM)) ?_
  refine p_step rfl (fun a w hS hM => y_val rfl (r_loadAll hS hM rfl (j := 2) rfl Try.underlying27 rfl sz27 cells_len)) ?_
  refine p_step rfl (fun a w hS hM => y_call (by kernel_rfl) hS rfl ((square_ok _ _).mem hM)) ?_
  refine p_step rfl (fun a w hS hM => y_val rfl (r_loadAll hS hM rfl (j := 1) rfl Try.underlying27 rfl sz27 cells_len)) ?_
  refine p_step rfl (fun a w hS hM => y_call (by kernel_rfl) hS rfl ((square_ok _ _).mem hM)) ?_
  refine p_step rfl (fun a w hS hM => y_call (by kernel_rfl) hS rfl ((add_ok _ _ _).mem hM)) ?_
  refine p_step rfl (fun a w hS hM => y_call (by kernel_rfl) hS (vs := [U 2#64]) rfl ((small_ok _ _).mem hM)) ?_
  refine p_step rfl (fun a w hS hM => y_val rfl (r_loadAll hS hM rfl (j := 2) rfl Try.underlying27 rfl sz27 cells_len)) ?_
  refine p_step rfl (fun a w hS hM => y_val rfl (r_loadAll hS hM rfl (j := 1) rfl Try.underlying27 rfl sz27 cells_len)) ?_
  refine p_step rfl (fun a w hS hM => y_call (by kernel_rfl) hS rfl ((mul_ok _ _ _).mem hM)) ?_
  refine p_step rfl (fun a w hS hM => y_call (by kernel_rfl) hS rfl ((mul_ok _ _ _).mem hM)) ?_
  refine p_step rfl (fun a w hS hM => y_call (by kernel_rfl) hS rfl ((add_ok _ _ _).mem hM)) ?_
  refine p_step rfl (fun a w hS hM => y_call (by kernel_rfl) hS rfl ((equal_t (by repeat first | exact Cg.zero | exact Cg.small _ | assumption | apply Cg.add | apply Cg.mul | apply Cg.sub | exact Cg.self (limb51_ok _)) (by repeat first | exact Cg.zero | exact Cg.small _ | assumption | apply Cg.add | apply Cg.mul | apply Cg.sub | exact Cg.self (limb51_ok _)) (by grind) _).mem hM)) ?_
  refine p_step rfl (fun a w hS hM => y_val rfl (r_assign hS rfl)) ?_
  refine p_nil rfl ?_; intro a w hS hM
  refine s_nil ?_
  refine k_seq ?_
  refine c_seq ?_
  refine c_plan 27 (fun w => Mem w0 w _) [(7, _), (11, _), (12, _), (13, _), (14, _), (8, _)] (by kernel_rfl) (by kernel_rfl) hS ⟨rfl, rfl, rfl, rfl, rfl, rfl, trivial⟩ (hM.drawn _) ?_; clear hS hM
  refine p_step rfl (fun a w hS hM => y_val rfl (r_move hS rfl)) ?_
  refine p_step rfl (fun a w hS hM => y_val rfl (r_move hS rfl)) ?_
  refine p_step rfl (fun a w hS hM => y_valg hS rfl rfl rfl rfl (r_move hS rfl)) ?_
  refine p_step rfl (fun a w hS hM => y_val rfl (r_pick hS rfl rfl)) ?_
  refine p_step rfl (fun a w hS hM => y_val rfl (r_move hS rfl)) ?_
  refine p_step rfl (fun a w hS hM => y_valg hS rfl rfl rfl rfl (r_move hS rfl)) ?_
  refine p_step rfl (fun a w hS hM => y_val rfl (r_pick hS rfl rfl)) ?_
  refine p_step rfl (fun a w hS hM => y_val rfl (r_move hS rfl)) ?_
  refine p_step rfl (fun a w hS hM => y_valg hS rfl rfl rfl rfl (r_move hS rfl)) ?_
  refine p_step rfl (fun a w hS hM => y_val rfl (r_pick hS rfl rfl)) ?_
  refine p_step rfl (fun a w hS hM => y_val rfl (r_move hS rfl)) ?_
  refine p_step rfl (fun a w hS hM => y_valg hS rfl rfl rfl rfl (r_move hS rfl)) ?_
  refine p_step rfl (fun a w hS hM => y_val rfl (r_pick hS rfl rfl)) ?_
  refine p_step rfl (fun a w hS hM => y_val rfl (r_move hS rfl)) ?_
  refine p_step rfl (fun a w hS hM => y_valg hS rfl rfl rfl rfl (r_loadAll hS hM rfl (j := 2) rfl Try.underlying27 rfl sz27 cells_len)) ?_
  refine p_step rfl (fun a w hS hM => y_callg (by kernel_rfl) hS (vs := [U 1#64]) rfl rfl rfl rfl ((small_ok _ _).mem hM)) ?_
  refine p_step rfl (fun a w hS hM => y_callg (by kernel_rfl) hS rfl rfl rfl rfl ((mul_ok _ _ _).mem hM)) ?_
  refine p_step rfl (fun a w hS hM => y_valg hS rfl rfl rfl rfl (r_loadAll hS hM rfl (j := 2) rfl Try.underlying27 rfl sz27 cells_len)) ?_
  refine p_step rfl (fun a w hS hM => y_callg (by kernel_rfl) hS rfl rfl rfl rfl ((equal_t (by repeat first | exact Cg.zero | exact Cg.small _ | assumption | apply Cg.add | apply Cg.mul | apply Cg.sub | exact Cg.self (limb51_ok _)) (by repeat first | exact Cg.zero | exact Cg.small _ | assumption | apply Cg.add | apply Cg.mul | apply Cg.sub | exact Cg.self (limb51_ok _)) (by grind) _).mem hM)) ?_
  refine p_step rfl (fun a w hS hM => y_val rfl (r_pick hS rfl rfl)) ?_
  refine p_step rfl (fun a w hS hM => y_val rfl (r_move hS rfl)) ?_
  refine p_step rfl (fun a w hS hM => y_valg hS rfl rfl rfl rfl (r_loadAll hS hM rfl (j := 2) rfl Try.underlying27 rfl sz27 cells_len)) ?_
  refine p_step rfl (fun a w hS hM => y_callg (by kernel_rfl) hS (vs := [U 0#64]) rfl rfl rfl rfl ((small_ok _ _).mem hM)) ?_
  refine p_step rfl (fun a w hS hM => y_callg (by kernel_rfl) hS rfl rfl rfl rfl ((mul_ok _ _ _).mem hM)) ?_
  refine p_step rfl (fun a w hS hM => y_callg (by kernel_rfl) hS rfl rfl rfl rfl ((iszero_t (by repeat first | exact Cg.zero | exact Cg.small _ | assumption | apply Cg.add | apply Cg.mul | apply Cg.sub | exact Cg.self (limb51_ok _)) (by grind) _).mem hM)) ?_
  refine p_step rfl (fun a w hS hM => y_val rfl (r_pick hS rfl rfl)) ?_
  refine p_step rfl (fun a w hS hM => y_val rfl (r_assign hS rfl)) ?_
  refine p_nil rfl ?_; intro a w hS hM
  refine s_nil ?_
  refine k_seq ?_
  refine c_ret ?_
  exact k_res1 hS rfl (RV.tmp rfl) ⟨rfl, hM.done ⟨hb10, hb9, hb8, hb5, hb4, hb3, trivial⟩⟩

set_option maxRecDepth 100000 in
theorem feNeg_ok (f g : Nat → BitVec 8) (w0 : World) : Pure Try.prog 7 #[.agg (cB 32 f).toArray, .agg (cB 32 g).toArray] w0 (.bool true) := by
  refine ⟨by kernel_rfl, ?_⟩
  refine calls_sym Try.func7 rfl (by kernel_rfl) ?_
  intro a hS
  have hM : Mem w0 w0 [] := Mem.refl w0
  refine c_seq ?_
  refine c_region ?_
  refine s_box hS hM (by decide) rfl rfl ?_; clear hS hM; intro a b2 w hb2 hS hM
  refine s_box hS hM (by decide) rfl rfl ?_; clear hS hM; intro a b3 w hb3 hS hM
  refine s_val hS (by decide) rfl rfl (r_assign hS rfl) ?_; clear hS; intro a hS
  refine s_nil ?_
  refine k_seq ?_
  refine c_seq ?_
  refine c_region ?_
  refine s_pure hS hM (by decide) rfl (alive_ok _) ?_; clear hS hM; intro a w hS hM
  refine s_val hS (by decide) rfl rfl (r_assign hS rfl) ?_; clear hS; intro a hS
  refine s_nil ?_
  refine k_seq ?_
  refine c_seq ?_
  refine c_region ?_
  refine s_val hS (by decide) rfl rfl (r_loadAll hS hM rfl (j := 1) rfl Try.underlying22 rfl sz22 cells_len) ?_; clear hS; intro a hS
  refine s_pure hS hM (by decide) rfl (from_ok _ _) ?_; clear hS hM; intro a w hS hM
  refine s_alloc hS hM (by decide) zero27 ?_; clear hS hM; intro a b6 w hb6 hS hM
  refine s_storeAll hS hM rfl rfl (j := 0) rfl sz27 cells_len cells_len cU_one ?_; clear hS hM; intro a w hS hM
  refine s_nil ?_
  refine k_seq ?_
  refine c_seq ?_
  refine c_region ?_
  refine s_val hS (by decide) rfl rfl (r_loadAll hS hM rfl (j := 1) rfl Try.underlying22 rfl sz22 cells_len) ?_; clear hS; intro a hS
  refine s_pure hS hM (by decide) rfl (from_ok _ _) ?_; clear hS hM; intro a w hS hM
  refine s_alloc hS hM (by decide) zero27 ?_; clear hS hM; intro a b7 w hb7 hS hM
  refine s_storeAll hS hM rfl rfl (j := 0) rfl sz27 cells_len cells_len cU_one ?_; clear hS hM; intro a w hS hM
  refine s_nil ?_
  refine k_seq ?_
  refine c_seq ?_
  refine c_plan 7 (fun w => Mem w0 w _) [(6, _), (4, _), (5, _), (7, _)] (by kernel_rfl) (by kernel_rfl) hS ⟨rfl, rfl, rfl, rfl, trivial⟩ (hM.drawn _) ?_; clear hS hM
  refine p_step rfl (fun a w hS hM => y_val rfl (r_loadAll hS hM rfl (j := 1) rfl Try.underlying27 rfl sz27 cells_len)) ?_
  refine p_step rfl (fun a w hS hM => y_call (by kernel_rfl) hS rfl ((odd_ok _ (by first | exact limb51_ok _ | exact Cg.ok (by repeat first | exact Cg.zero | exact Cg.small _ | assumption | apply Cg.add | apply Cg.mul | apply Cg.sub | exact Cg.self (limb51_ok _))) _).mem hM)) ?_
  refine p_step rfl (fun a w hS hM => y_val rfl (r_loadAll hS hM rfl (j := 1) rfl Try.underlying27 rfl sz27 cells_len)) ?_
  refine p_step rfl (fun a w hS hM => y_call (by kernel_rfl) hS rfl ((neg_ok _ _).mem hM)) ?_
  refine p_step rfl (fun a w hS hM => y_call (by kernel_rfl) hS rfl ((odd_ok _ (by first | exact limb51_ok _ | exact Cg.ok (by repeat first | exact Cg.zero | exact Cg.small _ | assumption | apply Cg.add | apply Cg.mul | apply Cg.sub | exact Cg.self (limb51_ok _))) _).mem hM)) ?_
  refine p_step rfl (fun a w hS hM => y_val rfl (r_neb hS rfl rfl Try.underlying4)) ?_
  refine p_step rfl (fun a w hS hM => y_val rfl (r_assign hS rfl)) ?_
  refine p_nil rfl ?_; intro a w hS hM
  refine s_nil ?_
  refine k_seq ?_
  refine c_seq ?_
  refine c_plan 43 (fun w => Mem w0 w _) [(5, _), (6, _), (7, _), (8, _)] (by kernel_rfl) (by kernel_rfl) hS ⟨rfl, rfl, rfl, rfl, trivial⟩ (hM.drawn _) ?_; clear hS hM
  refine p_step rfl (fun a w hS hM => y_val rfl (r_move hS rfl)) ?_
  refine p_step rfl (fun a w hS hM => y_val rfl (r_move hS rfl)) ?_
  refine p_step rfl (fun a w hS hM => y_valg hS rfl rfl rfl rfl (r_loadAll hS hM rfl (j := 1) rfl Try.underlying27 rfl sz27 cells_len)) ?_
  refine p_step rfl (fun a w hS hM => y_valg hS rfl rfl rfl rfl (r_loadAll hS hM rfl (j := 0) rfl Try.underlying27 rfl sz27 cells_len)) ?_
  refine p_step rfl (fun a w hS hM => y_callg (by kernel_rfl) hS rfl rfl rfl rfl ((sub_ok _ _ _).mem hM)) ?_
  refine p_step rfl (fun a w hS hM => y_valg hS rfl rfl rfl rfl (r_loadAll hS hM rfl (j := 1) rfl Try.underlying27 rfl sz27 cells_len)) ?_
  refine p_step rfl (fun a w hS hM => y_valg hS rfl rfl rfl rfl (r_loadAll hS hM rfl (j := 0) rfl Try.underlying27 rfl sz27 cells_len)) ?_
  refine p_step rfl (fun a w hS hM => y_callg (by kernel_rfl) hS rfl rfl rfl rfl ((neg_ok _ _).mem hM)) ?_
  refine p_step rfl (fun a w hS hM => y_callg (by kernel_rfl) hS rfl rfl rfl rfl ((add_ok _ _ _).mem hM)) ?_
  refine p_step rfl (fun a w hS hM => y_callg (by kernel_rfl) hS rfl rfl rfl rfl ((equal_t (by repeat first | exact Cg.zero | exact Cg.small _ | assumption | apply Cg.add | apply Cg.mul | apply Cg.sub | exact Cg.self (limb51_ok _)) (by repeat first | exact Cg.zero | exact Cg.small _ | assumption | apply Cg.add | apply Cg.mul | apply Cg.sub | exact Cg.self (limb51_ok _)) (by grind) _).mem hM)) ?_
  refine p_step rfl (fun a w hS hM => y_val rfl (r_pick hS rfl rfl)) ?_
  refine p_step rfl (fun a w hS hM => y_val rfl (r_move hS rfl)) ?_
  refine p_step rfl (fun a w hS hM => y_valg hS rfl rfl rfl rfl (r_loadAll hS hM rfl (j := 1) rfl Try.underlying27 rfl sz27 cells_len)) ?_
  refine p_step rfl (fun a w hS hM => y_callg (by kernel_rfl) hS rfl rfl rfl rfl ((neg_ok _ _).mem hM)) ?_
  refine p_step rfl (fun a w hS hM => y_callg (by kernel_rfl) hS rfl rfl rfl rfl ((neg_ok _ _).mem hM)) ?_
  refine p_step rfl (fun a w hS hM => y_valg hS rfl rfl rfl rfl (r_loadAll hS hM rfl (j := 1) rfl Try.underlying27 rfl sz27 cells_len)) ?_
  refine p_step rfl (fun a w hS hM => y_callg (by kernel_rfl) hS rfl rfl rfl rfl ((equal_t (by repeat first | exact Cg.zero | exact Cg.small _ | assumption | apply Cg.add | apply Cg.mul | apply Cg.sub | exact Cg.self (limb51_ok _)) (by repeat first | exact Cg.zero | exact Cg.small _ | assumption | apply Cg.add | apply Cg.mul | apply Cg.sub | exact Cg.self (limb51_ok _)) (by grind) _).mem hM)) ?_
  refine p_step rfl (fun a w hS hM => y_val rfl (r_pick hS rfl rfl)) ?_
  refine p_step rfl (fun a w hS hM => y_val rfl (r_move hS rfl)) ?_
  refine p_step rfl (fun a w hS hM => y_valg hS rfl rfl rfl rfl (r_loadAll hS hM rfl (j := 1) rfl Try.underlying27 rfl sz27 cells_len)) ?_
  refine p_step rfl (fun a w hS hM => y_valg hS rfl rfl rfl rfl (r_loadAll hS hM rfl (j := 1) rfl Try.underlying27 rfl sz27 cells_len)) ?_
  refine p_step rfl (fun a w hS hM => y_callg (by kernel_rfl) hS rfl rfl rfl rfl ((sub_ok _ _ _).mem hM)) ?_
  refine p_step rfl (fun a w hS hM => y_callg (by kernel_rfl) hS rfl rfl rfl rfl ((iszero_t (by repeat first | exact Cg.zero | exact Cg.small _ | assumption | apply Cg.add | apply Cg.mul | apply Cg.sub | exact Cg.self (limb51_ok _)) (by grind) _).mem hM)) ?_
  refine p_step rfl (fun a w hS hM => y_val rfl (r_pick hS rfl rfl)) ?_
  refine p_step rfl (fun a w hS hM => y_val rfl (r_move hS rfl)) ?_
  refine p_step rfl (fun a w hS hM => y_valg hS rfl rfl rfl rfl (r_move hS rfl)) ?_
  refine p_step rfl (fun a w hS hM => y_valg hS rfl rfl rfl rfl (r_loadAll hS hM rfl (j := 1) rfl Try.underlying27 rfl sz27 cells_len)) ?_
  refine p_step rfl (fun a w hS hM => y_callg (by kernel_rfl) hS rfl rfl rfl rfl ((iszero_ok _ (limb51_ok _) _).mem hM)) ?_
  refine p_step rfl (fun a w hS hM => y_valg hS rfl rfl rfl rfl (r_not hS rfl)) ?_
  refine p_step rfl (fun a w hS hM => y_valg hS rfl rfl rfl rfl (r_eqbt hS rfl rfl Try.underlying4 (neg_odd (limb51_ok _)))) ?_
  refine p_step rfl (fun a w hS hM => y_val rfl (r_pick hS rfl rfl)) ?_
  refine p_step rfl (fun a w hS hM => y_val rfl (r_move hS rfl)) ?_
  refine p_step rfl (fun a w hS hM => y_valg hS rfl rfl rfl rfl (r_loadAll hS hM rfl (j := 1) rfl Try.underlying27 rfl sz27 cells_len)) ?_
  refine p_step rfl (fun a w hS hM => y_callg (by kernel_rfl) hS rfl rfl rfl rfl ((neg_ok _ _).mem hM)) ?_
  refine p_step rfl (fun a w hS hM => y_valg hS rfl rfl rfl rfl (r_loadAll hS hM rfl (j := 0) rfl Try.underlying27 rfl sz27 cells_len)) ?_
  refine p_step rfl (fun a w hS hM => y_callg (by kernel_rfl) hS rfl rfl rfl rfl ((neg_ok _ _).mem hM)) ?_
  refine p_step rfl (fun a w hS hM => y_callg (by kernel_rfl) hS rfl rfl rfl rfl ((mul_ok _ _ _).mem hM)) ?_
  refine p_step rfl (fun a w hS hM => y_valg hS rfl rfl rfl rfl (r_loadAll hS hM rfl (j := 1) rfl Try.underlying27 rfl sz27 cells_len)) ?_
  refine p_step rfl (fun a w hS hM => y_valg hS rfl rfl rfl rfl (r_loadAll hS hM rfl (j := 0) rfl Try.underlying27 rfl sz27 cells_len)) ?_
  refine p_step rfl (fun a w hS hM => y_callg (by kernel_rfl) hS rfl rfl rfl rfl ((mul_ok _ _ _).mem hM)) ?_
  refine p_step rfl (fun a w hS hM => y_callg (by kernel_rfl) hS rfl rfl rfl rfl ((equal_t (by repeat first | exact Cg.zero | exact Cg.small _ | assumption | apply Cg.add | apply Cg.mul | apply Cg.sub | exact Cg.self (limb51_ok _)) (by repeat first | exact Cg.zero | exact Cg.small _ | assumption | apply Cg.add | apply Cg.mul | apply Cg.sub | exact Cg.self (limb51_ok _)) (by grind) _).mem hM)) ?_
  refine p_step rfl (fun a w hS hM => y_val rfl (r_pick hS rfl rfl)) ?_
  refine p_step rfl (fun a w hS hM => y_val rfl (r_assign hS rfl)) ?_
  refine p_nil rfl ?_; intro a w hS hM
  refine s_nil ?_
  refine k_seq ?_
  refine c_ret ?_
  exact k_res1 hS rfl (RV.tmp rfl) ⟨rfl, hM.done ⟨hb7, hb6, hb3, hb2, trivial⟩⟩

set_option maxRecDepth 100000 in
theorem feEdges_ok (i : Int) (w0 : World) : Pure Try.prog 4 #[.int .i64 i] w0 (.bool true) := by
  refine ⟨by kernel_rfl, ?_⟩
  refine calls_sym Try.func4 rfl (by kernel_rfl) ?_
  intro a hS
  have hM : Mem w0 w0 [] := Mem.refl w0
  refine c_seq ?_
  refine c_region ?_
  refine s_val hS (by decide) rfl rfl (r_assign hS rfl) ?_; clear hS; intro a hS
  refine s_nil ?_
  refine k_seq ?_
  refine c_seq ?_
  refine c_region ?_
  refine s_pure hS hM (by decide) rfl (alive_ok _) ?_; clear hS hM; intro a w hS hM
  refine s_val hS (by decide) rfl rfl (r_assign hS rfl) ?_; clear hS; intro a hS
  refine s_nil ?_
  refine k_seq ?_
  refine c_seq ?_
  refine c_seq ?_
  refine c_region ?_
  refine s_val hS (by decide) rfl rfl (r_move hS rfl) ?_; clear hS; intro a hS
  refine s_val hS (by decide) rfl rfl (r_not hS rfl) ?_; clear hS; intro a hS
  refine s_val hS (by decide) rfl rfl (r_move hS rfl) ?_; clear hS; intro a hS
  refine s_valg hS (by decide) rfl rfl rfl rfl rfl (r_move hS rfl) ?_; clear hS; intro a hS
  refine s_valgb hS (by decide) rfl rfl rfl rfl rfl (r_bv hS rfl (show ev _ _ = some (.int .i64 (0)) from rfl) gZ (b_lssZ _ _ _)) (fun hc => ?_) (fun hc => ?_)
  · clear hS; intro a hS; have h1 := of_decide_eq_true hc
    refine s_val hS (by decide) rfl rfl (r_pick hS rfl rfl) ?_; clear hS; intro a hS
    refine s_val hS (by decide) rfl rfl (r_move hS rfl) ?_; clear hS; intro a hS
    refine s_skip hS (by decide) rfl rfl rfl rfl rfl ?_; clear hS; intro a hS
    refine s_skip hS (by decide) rfl rfl rfl rfl rfl ?_; clear hS; intro a hS
    refine s_val hS (by decide) rfl rfl (r_pick hS rfl rfl) ?_; clear hS; intro a hS
    refine s_nil ?_
    refine k_seq ?_
    refine c_true hS rfl rfl ?_
    refine c_seq ?_
    refine c_region ?_
    refine s_val hS (by decide) rfl rfl (r_move hS rfl) ?_; clear hS; intro a hS
    refine s_val hS (by decide) rfl rfl (r_assign hS rfl) ?_; clear hS; intro a hS
    refine s_nil ?_
    refine k_seq ?_
    refine c_ret ?_
    refine k_thenr ?_
    exact k_res1 hS rfl (RV.tmp rfl) ⟨rfl, hM.done trivial⟩
  · clear hS; intro a hS; have h1 := of_decide_eq_false hc; obtain ⟨n, rfl⟩ : ∃ j : Nat, i = (j : Int) := ⟨i.toNat, by omega⟩
    refine s_val hS (by decide) rfl rfl (r_pick hS rfl rfl) ?_; clear hS; intro a hS
    refine s_val hS (by decide) rfl rfl (r_move hS rfl) ?_; clear hS; intro a hS
    refine s_valg hS (by decide) rfl rfl rfl rfl rfl (r_move hS rfl) ?_; clear hS; intro a hS
    refine s_valgb hS (by decide) rfl rfl rfl rfl rfl (r_bv hS rfl (show ev _ _ = some (N 255) from rfl) gN (b_gtrN _ _ _)) (fun hc => ?_) (fun hc => ?_)
    · clear hS; intro a hS; have h2 := of_decide_eq_true hc
      refine s_val hS (by decide) rfl rfl (r_pick hS rfl rfl) ?_; clear hS; intro a hS
      refine s_nil ?_
      refine k_seq ?_
      refine c_true hS rfl rfl ?_
      refine c_seq ?_
      refine c_region ?_
      refine s_val hS (by decide) rfl rfl (r_move hS rfl) ?_; clear hS; intro a hS
      refine s_val hS (by decide) rfl rfl (r_assign hS rfl) ?_; clear hS; intro a hS
      refine s_nil ?_
      refine k_seq ?_
      refine c_ret ?_
      refine k_thenr ?_
      exact k_res1 hS rfl (RV.tmp rfl) ⟨rfl, hM.done trivial⟩
    · clear hS; intro a hS; have h2 := of_decide_eq_false hc
      refine s_val hS (by decide) rfl rfl (r_pick hS rfl rfl) ?_; clear hS; intro a hS
      refine s_nil ?_
      refine k_seq ?_
      refine c_false hS rfl rfl ?_
      refine c_skip ?_
      refine k_seq ?_
      refine c_seq ?_
      refine c_region ?_
      refine s_val hS (by decide) rfl rfl (r_build hS rfl (cs := cB 32 (fun _ => 0)) (fun _ => by kernel_rfl)) ?_; clear hS; intro a hS
      refine s_alloc hS hM (by decide) zero22 ?_; clear hS hM; intro a b4 w hb4 hS hM
      refine s_storeAll hS hM rfl rfl (j := 0) rfl sz22 cells_len cells_len cB_one ?_; clear hS hM; intro a w hS hM
      refine s_nil ?_
      refine k_seq ?_
      refine c_seq ?_
      refine c_seq ?_
      refine c_region ?_
      refine s_val hS (by decide) rfl rfl (r_assign hS (show ev _ _ = some (N 0) from rfl)) ?_; clear hS; intro a hS
      refine s_nil ?_
      refine k_seq ?_
      refine c_block ?_
      refine c_loop (σ := Nat) (fun k a w => (k ≤ 32) ∧ Slots a 63 (env [(0, N n), (4, ptr b4 0), (5, N k)]) ∧ Mem w0 w ([⟨b4, 22, cB 32 (fil 0 (fun _ => 255#8) k)⟩])) (fun k => 32 - k) (0) ⟨by omega, hS.to _ ⟨rfl, rfl, rfl, trivial⟩, hM⟩ ?_
      clear hS hM; rintro k a w ⟨hk, hS, hM⟩
      refine c_seq ?_
      refine c_seq ?_
      refine c_region ?_
      refine s_val hS (by decide) rfl rfl (r_move hS rfl) ?_; clear hS; intro a hS
      refine s_val hS (by decide) rfl rfl (r_bv hS rfl (show ev _ _ = some (N 32) from rfl) gN (b_lssN _ _ _)) ?_; clear hS; intro a hS
      refine s_nil ?_
      refine k_seq ?_
      refine c_cond hS rfl (fun hc => ?_) (fun hc => ?_)
      · have hk1 := of_decide_eq_true hc
        refine c_skip ?_
        refine k_seq ?_
        refine c_seq ?_
        refine c_block ?_
        refine c_region ?_
        refine s_val hS (by decide) rfl rfl (r_move hS rfl) ?_; clear hS; intro a hS
        refine s_val hS (by decide) rfl rfl (r_index0 hS rfl rfl Try.underlying22 sz5 (by omega)) ?_; clear hS; intro a hS
        refine s_storeB hS hM rfl (show ev _ _ = some (B 255#8) from rfl) (j := 0) rfl sz5 (by omega) ?_; clear hS hM; intro a w hS hM
        refine s_nil ?_
        refine k_in ?_
        refine k_seq ?_
        refine c_region ?_
        refine s_val hS (by decide) rfl rfl (r_move hS rfl) ?_; clear hS; intro a hS
        refine s_val hS (by decide) rfl rfl (r_bv hS rfl (show ev _ _ = some (N 1) from rfl) gN (b_addN _ _ _ (by omega))) ?_; clear hS; intro a hS
        refine s_val hS (by decide) rfl rfl (r_assign hS rfl) ?_; clear hS; intro a hS
        refine s_nil ?_
        refine k_then ?_
        refine ⟨k + 1, by omega, by omega, hS.to _ ⟨rfl, rfl, rfl, trivial⟩, hM⟩
      · obtain rfl : k = 32 := (by have := of_decide_eq_false hc; omega); rw [cB_fil] at hM
        refine c_exit ?_
        refine k_thenx ?_
        refine k_thenx ?_
        refine k_inx ?_
        refine k_seq ?_
        refine c_seq ?_
        refine c_region ?_
        refine s_val hS (by decide) rfl rfl (r_move hS rfl) ?_; clear hS; intro a hS
        refine s_val hS (by decide) rfl rfl (r_conv hS rfl (by kernel_rfl) Try.underlying5 (cv_NB _)) ?_; clear hS; intro a hS
        refine s_val hS (by decide) rfl rfl (r_index0 hS rfl (show ev _ _ = some (.int .i64 ((0 : Nat) : Int)) from rfl) Try.underlying22 sz5 (by decide)) ?_; clear hS; intro a hS
        refine s_storeB hS hM rfl rfl (j := 0) rfl sz5 (by omega) ?_; clear hS hM; intro a w hS hM
        refine s_nil ?_
        refine k_seq ?_
        refine c_seq ?_
        refine c_region ?_
        refine s_val hS (by decide) rfl rfl (r_index0 hS rfl (show ev _ _ = some (.int .i64 ((31 : Nat) : Int)) from rfl) Try.underlying22 sz5 (by decide)) ?_; clear hS; intro a hS
        refine s_storeB hS hM rfl (show ev _ _ = some (B 127#8) from rfl) (j := 0) rfl sz5 (by omega) ?_; clear hS hM; intro a w hS hM
        refine s_nil ?_
        refine k_seq ?_
        refine c_seq ?_
        refine c_region ?_
        refine s_val hS (by decide) rfl rfl (r_loadAll hS hM rfl (j := 0) rfl Try.underlying22 rfl sz22 cells_len) ?_; clear hS; intro a hS
        refine s_pure hS hM (by decide) rfl (from_ok _ _) ?_; clear hS hM; intro a w hS hM
        refine s_alloc hS hM (by decide) zero27 ?_; clear hS hM; intro a b6 w hb6 hS hM
        refine s_storeAll hS hM rfl rfl (j := 0) rfl sz27 cells_len cells_len cU_one ?_; clear hS hM; intro a w hS hM
        refine s_nil ?_
        refine k_seq ?_
        refine c_seq ?_
        refine c_seq ?_
        refine c_region ?_
        refine s_val hS (by decide) rfl rfl (r_move hS rfl) ?_; clear hS; intro a hS
        refine s_val hS (by decide) rfl rfl (r_bv hS rfl (show ev _ _ = some (N 237) from rfl) gN (b_lssN _ _ _)) ?_; clear hS; intro a hS
        refine s_nil ?_
        refine k_seq ?_
        refine c_cond hS rfl (fun hc => ?_) (fun hc => ?_)
        · have h3 := of_decide_eq_true hc
          refine c_seq ?_
          refine c_plan 19 (fun w => Mem w0 w _) [(4, _), (6, _), (0, _)] (by kernel_rfl) (by kernel_rfl) hS ⟨rfl, rfl, rfl, trivial⟩ (hM.drawn _) ?_; clear hS hM
          refine p_step rfl (fun a w hS hM => y_val rfl (r_loadAll hS hM rfl (j := 1) rfl Try.underlying22 rfl sz22 cells_len)) ?_
          refine p_step rfl (fun a w hS hM => y_call (by kernel_rfl) hS rfl ((canon_t (edge1 n h3) _).mem hM)) ?_
          refine p_step rfl (fun a w hS hM => y_val rfl (r_move hS rfl)) ?_
          refine p_step rfl (fun a w hS hM => y_valg hS rfl rfl rfl rfl (r_loadAll hS hM rfl (j := 0) rfl Try.underlying27 rfl sz27 cells_len)) ?_
          refine p_step rfl (fun a w hS hM => y_valg hS rfl rfl rfl rfl (r_move hS rfl)) ?_
          refine p_step rfl (fun a w hS hM => y_valg hS rfl rfl rfl rfl (r_bv hS (show ev _ _ = some (N 237) from rfl) rfl gN (b_subN _ _ _ (by omega) (by omega)))) ?_
          refine p_step rfl (fun a w hS hM => y_valg hS rfl rfl rfl rfl (r_conv hS rfl (by kernel_rfl) Try.underlying24 (cv_NU _))) ?_
          refine p_step rfl (fun a w hS hM => y_callg (by kernel_rfl) hS rfl rfl rfl rfl ((small_ok _ _).mem hM)) ?_
          refine p_step rfl (fun a w hS hM => y_callg (by kernel_rfl) hS rfl rfl rfl rfl ((add_ok _ _ _).mem hM)) ?_
          refine p_step rfl (fun a w hS hM => y_callg (by kernel_rfl) hS (vs := [U 0#64]) rfl rfl rfl rfl ((small_ok _ _).mem hM)) ?_
          refine p_step rfl (fun a w hS hM => y_callg (by kernel_rfl) hS rfl rfl rfl rfl ((equal_e (feAdd_ok (limb51_ok _) (limb51_ok _)).1 (limb51_ok _) (edge2 n h3) _).mem hM)) ?_
          refine p_step rfl (fun a w hS hM => y_val rfl (r_pick hS rfl rfl)) ?_
          refine p_step rfl (fun a w hS hM => y_val rfl (r_move hS rfl)) ?_
          refine p_step rfl (fun a w hS hM => y_valg hS rfl rfl rfl rfl (r_loadAll hS hM rfl (j := 0) rfl Try.underlying27 rfl sz27 cells_len)) ?_
          refine p_step rfl (fun a w hS hM => y_callg (by kernel_rfl) hS rfl rfl rfl rfl ((bytes_ok _ (by first | exact limb51_ok _ | exact Cg.ok (by repeat first | exact Cg.zero | exact Cg.small _ | assumption | apply Cg.add | apply Cg.mul | apply Cg.sub | exact Cg.self (limb51_ok _))) _).mem hM)) ?_
          refine p_step rfl (fun a w hS hM => y_valg hS rfl rfl rfl rfl (r_loadAll hS hM rfl (j := 1) rfl Try.underlying22 rfl sz22 cells_len)) ?_
          refine p_step rfl (fun a w hS hM => y_valg hS rfl rfl rfl rfl (r_eqlBt hS rfl rfl (by kernel_rfl) Try.underlying22 Try.underlying5 sz5 (edge3 n h3))) ?_
          refine p_step rfl (fun a w hS hM => y_val rfl (r_pick hS rfl rfl)) ?_
          refine p_step rfl (fun a w hS hM => y_val rfl (r_assign hS rfl)) ?_
          refine p_nil rfl ?_; intro a w hS hM
          refine s_nil ?_
          refine k_seq ?_
          refine c_ret ?_
          refine k_thenr ?_
          exact k_res1 hS rfl (RV.tmp rfl) ⟨rfl, hM.done ⟨hb6, hb4, trivial⟩⟩
        · have h3 := of_decide_eq_false hc
          refine c_skip ?_
          refine k_seq ?_
          refine c_seq ?_
          refine c_plan 12 (fun w => Mem w0 w _) [(4, _), (6, _), (0, _)] (by kernel_rfl) (by kernel_rfl) hS ⟨rfl, rfl, rfl, trivial⟩ (hM.drawn _) ?_; clear hS hM
          refine p_step rfl (fun a w hS hM => y_val rfl (r_loadAll hS hM rfl (j := 1) rfl Try.underlying22 rfl sz22 cells_len)) ?_
          refine p_step rfl (fun a w hS hM => y_call (by kernel_rfl) hS rfl ((canon_f (edge4 n h3 (by omega)) _).mem hM)) ?_
          refine p_step rfl (fun a w hS hM => y_val rfl (r_not hS rfl)) ?_
          refine p_step rfl (fun a w hS hM => y_val rfl (r_move hS rfl)) ?_
          refine p_step rfl (fun a w hS hM => y_valg hS rfl rfl rfl rfl (r_loadAll hS hM rfl (j := 0) rfl Try.underlying27 rfl sz27 cells_len)) ?_
          refine p_step rfl (fun a w hS hM => y_valg hS rfl rfl rfl rfl (r_move hS rfl)) ?_
          refine p_step rfl (fun a w hS hM => y_valg hS rfl rfl rfl rfl (r_bv hS rfl (show ev _ _ = some (N 237) from rfl) gN (b_subN _ _ _ (by omega) (by omega)))) ?_
          refine p_step rfl (fun a w hS hM => y_valg hS rfl rfl rfl rfl (r_conv hS rfl (by kernel_rfl) Try.underlying24 (cv_NU _))) ?_
          refine p_step rfl (fun a w hS hM => y_callg (by kernel_rfl) hS rfl rfl rfl rfl ((small_ok _ _).mem hM)) ?_
          refine p_step rfl (fun a w hS hM => y_callg (by kernel_rfl) hS rfl rfl rfl rfl ((equal_e (limb51_ok _) (limb51_ok _) (edge5 n h3 (by omega)) _).mem hM)) ?_
          refine p_step rfl (fun a w hS hM => y_val rfl (r_pick hS rfl rfl)) ?_
          refine p_step rfl (fun a w hS hM => y_val rfl (r_assign hS rfl)) ?_
          refine p_nil rfl ?_; intro a w hS hM
          refine s_nil ?_
          refine k_seq ?_
          refine c_ret ?_
          exact k_res1 hS rfl (RV.tmp rfl) ⟨rfl, hM.done ⟨hb6, hb4, trivial⟩⟩
end Go.Proofs.Ytjnhgeoojnnfoaa
