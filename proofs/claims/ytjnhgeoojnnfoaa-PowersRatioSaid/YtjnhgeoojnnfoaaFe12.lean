/- The walks through the laws of chapter 9 that speak of the definition. Printed by a program of mine (walk.py). -/
import Derived.Test.YtjnhgeoojnnfoaaFe6
import Derived.Test.YtjnhgeoojnnfoaaFe9
import Derived.Test.YtjnhgeoojnnfoaaFe11
import Derived.Test.YtjnhgeoojnnfoaaSymCmp
namespace Go.Proofs.Ytjnhgeoojnnfoaa
open Go Go.Sym
attribute [local irreducible] feAdd feMul feSub limb51 natB feCarry val dig byt

theorem sz3 : (Try.prog.info? 3).map (·.size) = some 1 := by kernel_rfl

set_option maxRecDepth 100000 in
theorem feTells_ok (f g : Nat → BitVec 8) (n : BitVec 64) (w0 : World) : Pure Try.prog 8 #[.agg (cB 32 f).toArray, .agg (cB 32 g).toArray, U n] w0 (.bool true) := by
  refine ⟨by kernel_rfl, ?_⟩
  refine calls_sym Try.func8 rfl (by kernel_rfl) ?_
  intro a hS
  have hM : Mem w0 w0 [] := Mem.refl w0
  refine c_seq ?_
  refine c_region ?_
  refine s_box hS hM (by decide) rfl rfl ?_; clear hS hM; intro a b3 w hb3 hS hM
  refine s_box hS hM (by decide) rfl rfl ?_; clear hS hM; intro a b4 w hb4 hS hM
  refine s_val hS (by decide) rfl rfl (r_assign hS rfl) ?_; clear hS; intro a hS
  refine s_nil ?_
  refine k_seq ?_
  refine c_seq ?_
  refine c_region ?_
  refine s_pure hS hM (by decide) rfl (alive_ok _) ?_; clear hS hM; intro a w hS hM
  refine s_val hS (by decide) rfl rfl (r_assign hS rfl) ?_; clear hS; intro a hS
  refine s_nil ?_
  refine k_seq ?_
  refine c_seq ?_
  refine c_region ?_
  refine s_val hS (by decide) rfl rfl (r_loadAll hS hM rfl (j := 1) rfl Try.underlying22 rfl sz22 cells_len) ?_; clear hS; intro a hS
  refine s_pure hS hM (by decide) rfl (from_ok _ _) ?_; clear hS hM; intro a w hS hM
  refine s_alloc hS hM (by decide) zero27 ?_; clear hS hM; intro a b8 w hb8 hS hM
  refine s_storeAll hS hM rfl rfl (j := 0) rfl sz27 cells_len cells_len cU_one ?_; clear hS hM; intro a w hS hM
  refine s_nil ?_
  refine k_seq ?_
  refine c_seq ?_
  refine c_region ?_
  refine s_val hS (by decide) rfl rfl (r_loadAll hS hM rfl (j := 1) rfl Try.underlying22 rfl sz22 cells_len) ?_; clear hS; intro a hS
  refine s_pure hS hM (by decide) rfl (from_ok _ _) ?_; clear hS hM; intro a w hS hM
  refine s_alloc hS hM (by decide) zero27 ?_; clear hS hM; intro a b9 w hb9 hS hM
  refine s_storeAll hS hM rfl rfl (j := 0) rfl sz27 cells_len cells_len cU_one ?_; clear hS hM; intro a w hS hM
  refine s_nil ?_
  refine k_seq ?_
  refine c_seq ?_
  refine c_region ?_
  refine s_val hS (by decide) rfl rfl (r_loadAll hS hM rfl (j := 3) rfl Try.underlying22 rfl sz22 cells_len) ?_; clear hS; intro a hS
  refine s_pure hS hM (by decide) rfl (rfrom_ok _ _) ?_; clear hS hM; intro a w hS hM
  refine s_alloc hS hM (by decide) zero37 ?_; clear hS hM; intro a b10 w hb10 hS hM
  refine s_storeAll hS hM rfl rfl (j := 0) rfl sz37 cells_len cells_len cI_one ?_; clear hS hM; intro a w hS hM
  refine s_nil ?_
  refine k_seq ?_
  refine c_seq ?_
  refine c_region ?_
  refine s_val hS (by decide) rfl rfl (r_loadAll hS hM rfl (j := 3) rfl Try.underlying22 rfl sz22 cells_len) ?_; clear hS; intro a hS
  refine s_pure hS hM (by decide) rfl (rfrom_ok _ _) ?_; clear hS hM; intro a w hS hM
  refine s_alloc hS hM (by decide) zero37 ?_; clear hS hM; intro a b11 w hb11 hS hM
  refine s_storeAll hS hM rfl rfl (j := 0) rfl sz37 cells_len cells_len cI_one ?_; clear hS hM; intro a w hS hM
  refine s_nil ?_
  refine k_seq ?_
  refine c_seq ?_
  refine c_seq ?_
  refine c_plan 40 (fun w => Mem w0 w _) [(7, _), (8, _), (10, _), (2, _), (3, _), (6, _), (9, _), (11, _)] (by kernel_rfl) (by kernel_rfl) hS ⟨rfl, rfl, rfl, rfl, rfl, rfl, rfl, rfl, trivial⟩ (hM.drawn _) ?_; clear hS hM
  refine p_step rfl (fun a w hS hM => y_val rfl (r_move hS rfl)) ?_
  refine p_step rfl (fun a w hS hM => y_val rfl (r_not hS rfl)) ?_
  refine p_step rfl (fun a w hS hM => y_val rfl (r_move hS rfl)) ?_
  refine p_step rfl (fun a w hS hM => y_valg hS rfl rfl rfl rfl (r_loadAll hS hM rfl (j := 3) rfl Try.underlying27 rfl sz27 cells_len)) ?_
  refine p_step rfl (fun a w hS hM => y_callg (by kernel_rfl) hS rfl rfl rfl rfl ((bytes_ok _ (by first | exact limb51_ok _ | exact Tw.ok (by repeat first | assumption | exact Tw.read _ | exact Tw.small _ | exact Tw.zero | apply Tw.add | apply Tw.mul | apply Tw.neg | apply Tw.sub)) _).mem hM)) ?_
  refine p_step rfl (fun a w hS hM => y_valg hS rfl rfl rfl rfl (r_loadAll hS hM rfl (j := 1) rfl Try.underlying37 rfl sz37 cells_len)) ?_
  refine p_step rfl (fun a w hS hM => y_callg (by kernel_rfl) hS rfl rfl rfl rfl ((rbytes_ok _ _).mem hM)) ?_
  refine p_step rfl (fun a w hS hM => y_valg hS rfl rfl rfl rfl (r_neqBt hS rfl rfl (by kernel_rfl) Try.underlying22 Try.underlying5 sz5 (tw_bytes (by repeat first | assumption | exact Tw.read _ | exact Tw.small _ | exact Tw.zero | apply Tw.add | apply Tw.mul | apply Tw.neg | apply Tw.sub)))) ?_
  refine p_step rfl (fun a w hS hM => y_val rfl (r_pick hS rfl rfl)) ?_
  refine p_step rfl (fun a w hS hM => y_val rfl (r_move hS rfl)) ?_
  refine p_step rfl (fun a w hS hM => y_valg hS rfl rfl rfl rfl (r_move hS rfl)) ?_
  refine p_step rfl (fun a w hS hM => y_callg (by kernel_rfl) hS rfl rfl rfl rfl ((small_ok _ _).mem hM)) ?_
  refine p_step rfl (fun a w hS hM => y_callg (by kernel_rfl) hS rfl rfl rfl rfl ((bytes_ok _ (by first | exact limb51_ok _ | exact Tw.ok (by repeat first | assumption | exact Tw.read _ | exact Tw.small _ | exact Tw.zero | apply Tw.add | apply Tw.mul | apply Tw.neg | apply Tw.sub)) _).mem hM)) ?_
  refine p_step rfl (fun a w hS hM => y_valg hS rfl rfl rfl rfl (r_move hS rfl)) ?_
  refine p_step rfl (fun a w hS hM => y_callg (by kernel_rfl) hS rfl rfl rfl rfl ((rsmall_ok _ _).mem hM)) ?_
  refine p_step rfl (fun a w hS hM => y_callg (by kernel_rfl) hS rfl rfl rfl rfl ((rbytes_ok _ _).mem hM)) ?_
  refine p_step rfl (fun a w hS hM => y_valg hS rfl rfl rfl rfl (r_neqBt hS rfl rfl (by kernel_rfl) Try.underlying22 Try.underlying5 sz5 (tw_bytes (by repeat first | assumption | exact Tw.read _ | exact Tw.small _ | exact Tw.zero | apply Tw.add | apply Tw.mul | apply Tw.neg | apply Tw.sub)))) ?_
  refine p_step rfl (fun a w hS hM => y_val rfl (r_pick hS rfl rfl)) ?_
  refine p_step rfl (fun a w hS hM => y_val rfl (r_move hS rfl)) ?_
  refine p_step rfl (fun a w hS hM => y_valg hS rfl rfl rfl rfl (r_loadAll hS hM rfl (j := 5) rfl Try.underlying22 rfl sz22 cells_len)) ?_
  refine p_step rfl (fun a w hS hM => y_callg (by kernel_rfl) hS rfl rfl rfl rfl ((canon_ok _ _).mem hM)) ?_
  refine p_step rfl (fun a w hS hM => y_valg hS rfl rfl rfl rfl (r_loadAll hS hM rfl (j := 5) rfl Try.underlying22 rfl sz22 cells_len)) ?_
  refine p_step rfl (fun a w hS hM => y_callg (by kernel_rfl) hS rfl rfl rfl rfl ((rcanon_ok _ _).mem hM)) ?_
  refine p_step rfl (fun a w hS hM => y_valg hS rfl rfl rfl rfl (r_nebt hS rfl rfl Try.underlying4 rfl)) ?_
  refine p_step rfl (fun a w hS hM => y_val rfl (r_pick hS rfl rfl)) ?_
  refine p_step rfl (fun a w hS hM => y_val rfl (r_move hS rfl)) ?_
  refine p_step rfl (fun a w hS hM => y_valg hS rfl rfl rfl rfl (r_loadAll hS hM rfl (j := 3) rfl Try.underlying27 rfl sz27 cells_len)) ?_
  refine p_step rfl (fun a w hS hM => y_callg (by kernel_rfl) hS rfl rfl rfl rfl ((odd_ok _ (by first | exact limb51_ok _ | exact Tw.ok (by repeat first | assumption | exact Tw.read _ | exact Tw.small _ | exact Tw.zero | apply Tw.add | apply Tw.mul | apply Tw.neg | apply Tw.sub)) _).mem hM)) ?_
  refine p_step rfl (fun a w hS hM => y_valg hS rfl rfl rfl rfl (r_loadAll hS hM rfl (j := 1) rfl Try.underlying37 rfl sz37 cells_len)) ?_
  refine p_step rfl (fun a w hS hM => y_callg (by kernel_rfl) hS rfl rfl rfl rfl ((rodd_ok _ _).mem hM)) ?_
  refine p_step rfl (fun a w hS hM => y_valg hS rfl rfl rfl rfl (r_nebt hS rfl rfl Try.underlying4 (tw_odd (by repeat first | assumption | exact Tw.read _ | exact Tw.small _ | exact Tw.zero | apply Tw.add | apply Tw.mul | apply Tw.neg | apply Tw.sub)))) ?_
  refine p_step rfl (fun a w hS hM => y_val rfl (r_pick hS rfl rfl)) ?_
  refine p_step rfl (fun a w hS hM => y_val rfl (r_move hS rfl)) ?_
  refine p_step rfl (fun a w hS hM => y_valg hS rfl rfl rfl rfl (r_loadAll hS hM rfl (j := 3) rfl Try.underlying27 rfl sz27 cells_len)) ?_
  refine p_step rfl (fun a w hS hM => y_callg (by kernel_rfl) hS rfl rfl rfl rfl ((iszero_ok _ (by first | exact limb51_ok _ | exact Tw.ok (by repeat first | assumption | exact Tw.read _ | exact Tw.small _ | exact Tw.zero | apply Tw.add | apply Tw.mul | apply Tw.neg | apply Tw.sub)) _).mem hM)) ?_
  refine p_step rfl (fun a w hS hM => y_valg hS rfl rfl rfl rfl (r_loadAll hS hM rfl (j := 1) rfl Try.underlying37 rfl sz37 cells_len)) ?_
  refine p_step rfl (fun a w hS hM => y_valg hS rfl rfl rfl rfl (r_build hS rfl (cs := cI 16 (fun _ => 0)) (fun _ => by kernel_rfl))) ?_
  refine p_step rfl (fun a w hS hM => y_valg hS rfl rfl rfl rfl (r_eqlI hS rfl rfl (by kernel_rfl) Try.underlying37 Try.underlying2 sz2)) ?_
  refine p_step rfl (fun a w hS hM => y_valg hS rfl rfl rfl rfl (r_nebt hS rfl rfl Try.underlying4 (tw_zero (by repeat first | assumption | exact Tw.read _ | exact Tw.small _ | exact Tw.zero | apply Tw.add | apply Tw.mul | apply Tw.neg | apply Tw.sub)))) ?_
  refine p_step rfl (fun a w hS hM => y_val rfl (r_pick hS rfl rfl)) ?_
  refine p_nil rfl ?_; intro a w hS hM
  refine s_nil ?_
  refine k_seq ?_
  refine c_false hS rfl rfl ?_
  refine c_skip ?_
  refine k_seq ?_
  refine c_seq ?_
  refine c_plan 60 (fun w => Mem w0 w _) [(8, _), (9, _), (10, _), (11, _)] (by kernel_rfl) (by kernel_rfl) hS ⟨rfl, rfl, rfl, rfl, trivial⟩ (hM.drawn _) ?_; clear hS hM
  refine p_step rfl (fun a w hS hM => y_val rfl (r_loadAll hS hM rfl (j := 3) rfl Try.underlying27 rfl sz27 cells_len)) ?_
  refine p_step rfl (fun a w hS hM => y_val rfl (r_loadAll hS hM rfl (j := 2) rfl Try.underlying27 rfl sz27 cells_len)) ?_
  refine p_step rfl (fun a w hS hM => y_call (by kernel_rfl) hS rfl ((add_ok _ _ _).mem hM)) ?_
  refine p_step rfl (fun a w hS hM => y_call (by kernel_rfl) hS rfl ((bytes_ok _ (by first | exact limb51_ok _ | exact Tw.ok (by repeat first | assumption | exact Tw.read _ | exact Tw.small _ | exact Tw.zero | apply Tw.add | apply Tw.mul | apply Tw.neg | apply Tw.sub)) _).mem hM)) ?_
  refine p_step rfl (fun a w hS hM => y_val rfl (r_loadAll hS hM rfl (j := 1) rfl Try.underlying37 rfl sz37 cells_len)) ?_
  refine p_step rfl (fun a w hS hM => y_val rfl (r_loadAll hS hM rfl (j := 0) rfl Try.underlying37 rfl sz37 cells_len)) ?_
  refine p_step rfl (fun a w hS hM => y_call (by kernel_rfl) hS rfl ((radd_ok _ _ (by first | exact Nat.mod_lt _ pP_pos | exact Tw.lt (by assumption)) (by first | exact Nat.mod_lt _ pP_pos | exact Tw.lt (by assumption)) _).mem hM)) ?_
  refine p_step rfl (fun a w hS hM => y_call (by kernel_rfl) hS rfl ((rbytes_ok _ _).mem hM)) ?_
  refine p_step rfl (fun a w hS hM => y_val rfl (r_eqlBt hS rfl rfl (by kernel_rfl) Try.underlying22 Try.underlying5 sz5 (tw_bytes (by repeat first | assumption | exact Tw.read _ | exact Tw.small _ | exact Tw.zero | apply Tw.add | apply Tw.mul | apply Tw.neg | apply Tw.sub)))) ?_
  refine p_step rfl (fun a w hS hM => y_val rfl (r_move hS rfl)) ?_
  refine p_step rfl (fun a w hS hM => y_valg hS rfl rfl rfl rfl (r_loadAll hS hM rfl (j := 3) rfl Try.underlying27 rfl sz27 cells_len)) ?_
  refine p_step rfl (fun a w hS hM => y_valg hS rfl rfl rfl rfl (r_loadAll hS hM rfl (j := 2) rfl Try.underlying27 rfl sz27 cells_len)) ?_
  refine p_step rfl (fun a w hS hM => y_callg (by kernel_rfl) hS rfl rfl rfl rfl ((sub_ok _ _ _).mem hM)) ?_
  refine p_step rfl (fun a w hS hM => y_callg (by kernel_rfl) hS rfl rfl rfl rfl ((bytes_ok _ (by first | exact limb51_ok _ | exact Tw.ok (by repeat first | assumption | exact Tw.read _ | exact Tw.small _ | exact Tw.zero | apply Tw.add | apply Tw.mul | apply Tw.neg | apply Tw.sub)) _).mem hM)) ?_
  refine p_step rfl (fun a w hS hM => y_valg hS rfl rfl rfl rfl (r_loadAll hS hM rfl (j := 1) rfl Try.underlying37 rfl sz37 cells_len)) ?_
  refine p_step rfl (fun a w hS hM => y_valg hS rfl rfl rfl rfl (r_loadAll hS hM rfl (j := 0) rfl Try.underlying37 rfl sz37 cells_len)) ?_
  refine p_step rfl (fun a w hS hM => y_callg (by kernel_rfl) hS rfl rfl rfl rfl ((rsub_ok _ _ (by first | exact Nat.mod_lt _ pP_pos | exact Tw.lt (by assumption)) (by first | exact Nat.mod_lt _ pP_pos | exact Tw.lt (by assumption)) _).mem hM)) ?_
  refine p_step rfl (fun a w hS hM => y_callg (by kernel_rfl) hS rfl rfl rfl rfl ((rbytes_ok _ _).mem hM)) ?_
  refine p_step rfl (fun a w hS hM => y_valg hS rfl rfl rfl rfl (r_eqlBt hS rfl rfl (by kernel_rfl) Try.underlying22 Try.underlying5 sz5 (tw_bytes (by repeat first | assumption | exact Tw.read _ | exact Tw.small _ | exact Tw.zero | apply Tw.add | apply Tw.mul | apply Tw.neg | apply Tw.sub)))) ?_
  refine p_step rfl (fun a w hS hM => y_val rfl (r_pick hS rfl rfl)) ?_
  refine p_step rfl (fun a w hS hM => y_val rfl (r_move hS rfl)) ?_
  refine p_step rfl (fun a w hS hM => y_valg hS rfl rfl rfl rfl (r_loadAll hS hM rfl (j := 3) rfl Try.underlying27 rfl sz27 cells_len)) ?_
  refine p_step rfl (fun a w hS hM => y_valg hS rfl rfl rfl rfl (r_loadAll hS hM rfl (j := 2) rfl Try.underlying27 rfl sz27 cells_len)) ?_
  refine p_step rfl (fun a w hS hM => y_callg (by kernel_rfl) hS rfl rfl rfl rfl ((mul_ok _ _ _).mem hM)) ?_
  refine p_step rfl (fun a w hS hM => y_callg (by kernel_rfl) hS rfl rfl rfl rfl ((bytes_ok _ (by first | exact limb51_ok _ | exact Tw.ok (by repeat first | assumption | exact Tw.read _ | exact Tw.small _ | exact Tw.zero | apply Tw.add | apply Tw.mul | apply Tw.neg | apply Tw.sub)) _).mem hM)) ?_
  refine p_step rfl (fun a w hS hM => y_valg hS rfl rfl rfl rfl (r_loadAll hS hM rfl (j := 1) rfl Try.underlying37 rfl sz37 cells_len)) ?_
  refine p_step rfl (fun a w hS hM => y_valg hS rfl rfl rfl rfl (r_loadAll hS hM rfl (j := 0) rfl Try.underlying37 rfl sz37 cells_len)) ?_
  refine p_step rfl (fun a w hS hM => y_callg (by kernel_rfl) hS rfl rfl rfl rfl ((rmul_ok _ _ (by first | exact Nat.mod_lt _ pP_pos | exact Tw.lt (by assumption)) (by first | exact Nat.mod_lt _ pP_pos | exact Tw.lt (by assumption)) _).mem hM)) ?_
  refine p_step rfl (fun a w hS hM => y_callg (by kernel_rfl) hS rfl rfl rfl rfl ((rbytes_ok _ _).mem hM)) ?_
  refine p_step rfl (fun a w hS hM => y_valg hS rfl rfl rfl rfl (r_eqlBt hS rfl rfl (by kernel_rfl) Try.underlying22 Try.underlying5 sz5 (tw_bytes (by repeat first | assumption | exact Tw.read _ | exact Tw.small _ | exact Tw.zero | apply Tw.add | apply Tw.mul | apply Tw.neg | apply Tw.sub)))) ?_
  refine p_step rfl (fun a w hS hM => y_val rfl (r_pick hS rfl rfl)) ?_
  refine p_step rfl (fun a w hS hM => y_val rfl (r_move hS rfl)) ?_
  refine p_step rfl (fun a w hS hM => y_valg hS rfl rfl rfl rfl (r_loadAll hS hM rfl (j := 3) rfl Try.underlying27 rfl sz27 cells_len)) ?_
  refine p_step rfl (fun a w hS hM => y_callg (by kernel_rfl) hS rfl rfl rfl rfl ((square_ok _ _).mem hM)) ?_
  refine p_step rfl (fun a w hS hM => y_callg (by kernel_rfl) hS rfl rfl rfl rfl ((bytes_ok _ (by first | exact limb51_ok _ | exact Tw.ok (by repeat first | assumption | exact Tw.read _ | exact Tw.small _ | exact Tw.zero | apply Tw.add | apply Tw.mul | apply Tw.neg | apply Tw.sub)) _).mem hM)) ?_
  refine p_step rfl (fun a w hS hM => y_valg hS rfl rfl rfl rfl (r_loadAll hS hM rfl (j := 1) rfl Try.underlying37 rfl sz37 cells_len)) ?_
  refine p_step rfl (fun a w hS hM => y_valg hS rfl rfl rfl rfl (r_loadAll hS hM rfl (j := 1) rfl Try.underlying37 rfl sz37 cells_len)) ?_
  refine p_step rfl (fun a w hS hM => y_callg (by kernel_rfl) hS rfl rfl rfl rfl ((rmul_ok _ _ (by first | exact Nat.mod_lt _ pP_pos | exact Tw.lt (by assumption)) (by first | exact Nat.mod_lt _ pP_pos | exact Tw.lt (by assumption)) _).mem hM)) ?_
  refine p_step rfl (fun a w hS hM => y_callg (by kernel_rfl) hS rfl rfl rfl rfl ((rbytes_ok _ _).mem hM)) ?_
  refine p_step rfl (fun a w hS hM => y_valg hS rfl rfl rfl rfl (r_eqlBt hS rfl rfl (by kernel_rfl) Try.underlying22 Try.underlying5 sz5 (tw_bytes (by repeat first | assumption | exact Tw.read _ | exact Tw.small _ | exact Tw.zero | apply Tw.add | apply Tw.mul | apply Tw.neg | apply Tw.sub)))) ?_
  refine p_step rfl (fun a w hS hM => y_val rfl (r_pick hS rfl rfl)) ?_
  refine p_step rfl (fun a w hS hM => y_val rfl (r_move hS rfl)) ?_
  refine p_step rfl (fun a w hS hM => y_valg hS rfl rfl rfl rfl (r_loadAll hS hM rfl (j := 3) rfl Try.underlying27 rfl sz27 cells_len)) ?_
  refine p_step rfl (fun a w hS hM => y_callg (by kernel_rfl) hS rfl rfl rfl rfl ((neg_ok _ _).mem hM)) ?_
  refine p_step rfl (fun a w hS hM => y_callg (by kernel_rfl) hS rfl rfl rfl rfl ((bytes_ok _ (by first | exact limb51_ok _ | exact Tw.ok (by repeat first | assumption | exact Tw.read _ | exact Tw.small _ | exact Tw.zero | apply Tw.add | apply Tw.mul | apply Tw.neg | apply Tw.sub)) _).mem hM)) ?_
  refine p_step rfl (fun a w hS hM => y_valg hS rfl rfl rfl rfl (r_loadAll hS hM rfl (j := 1) rfl Try.underlying37 rfl sz37 cells_len)) ?_
  refine p_step rfl (fun a w hS hM => y_callg (by kernel_rfl) hS rfl rfl rfl rfl ((rneg_ok _ (by first | exact Nat.mod_lt _ pP_pos | exact Tw.lt (by assumption)) _).mem hM)) ?_
  refine p_step rfl (fun a w hS hM => y_callg (by kernel_rfl) hS rfl rfl rfl rfl ((rbytes_ok _ _).mem hM)) ?_
  refine p_step rfl (fun a w hS hM => y_valg hS rfl rfl rfl rfl (r_eqlBt hS rfl rfl (by kernel_rfl) Try.underlying22 Try.underlying5 sz5 (tw_bytes (by repeat first | assumption | exact Tw.read _ | exact Tw.small _ | exact Tw.zero | apply Tw.add | apply Tw.mul | apply Tw.neg | apply Tw.sub)))) ?_
  refine p_step rfl (fun a w hS hM => y_val rfl (r_pick hS rfl rfl)) ?_
  refine p_step rfl (fun a w hS hM => y_val rfl (r_move hS rfl)) ?_
  refine p_step rfl (fun a w hS hM => y_valg hS rfl rfl rfl rfl (r_loadAll hS hM rfl (j := 3) rfl Try.underlying27 rfl sz27 cells_len)) ?_
  refine p_step rfl (fun a w hS hM => y_valg hS rfl rfl rfl rfl (r_loadAll hS hM rfl (j := 2) rfl Try.underlying27 rfl sz27 cells_len)) ?_
  refine p_step rfl (fun a w hS hM => y_callg (by kernel_rfl) hS rfl rfl rfl rfl ((equal_ok _ _ (by first | exact limb51_ok _ | exact Tw.ok (by repeat first | assumption | exact Tw.read _ | exact Tw.small _ | exact Tw.zero | apply Tw.add | apply Tw.mul | apply Tw.neg | apply Tw.sub)) (by first | exact limb51_ok _ | exact Tw.ok (by repeat first | assumption | exact Tw.read _ | exact Tw.small _ | exact Tw.zero | apply Tw.add | apply Tw.mul | apply Tw.neg | apply Tw.sub)) _).mem hM)) ?_
  refine p_step rfl (fun a w hS hM => y_valg hS rfl rfl rfl rfl (r_loadAll hS hM rfl (j := 1) rfl Try.underlying37 rfl sz37 cells_len)) ?_
  refine p_step rfl (fun a w hS hM => y_valg hS rfl rfl rfl rfl (r_loadAll hS hM rfl (j := 0) rfl Try.underlying37 rfl sz37 cells_len)) ?_
  refine p_step rfl (fun a w hS hM => y_valg hS rfl rfl rfl rfl (r_eqlI hS rfl rfl (by kernel_rfl) Try.underlying37 Try.underlying2 sz2)) ?_
  refine p_step rfl (fun a w hS hM => y_valg hS rfl rfl rfl rfl (r_eqbt hS rfl rfl Try.underlying4 (tw_equal (by repeat first | assumption | exact Tw.read _ | exact Tw.small _ | exact Tw.zero | apply Tw.add | apply Tw.mul | apply Tw.neg | apply Tw.sub) (by repeat first | assumption | exact Tw.read _ | exact Tw.small _ | exact Tw.zero | apply Tw.add | apply Tw.mul | apply Tw.neg | apply Tw.sub)))) ?_
  refine p_step rfl (fun a w hS hM => y_val rfl (r_pick hS rfl rfl)) ?_
  refine p_step rfl (fun a w hS hM => y_val rfl (r_assign hS rfl)) ?_
  refine p_nil rfl ?_; intro a w hS hM
  refine s_nil ?_
  refine k_seq ?_
  refine c_ret ?_
  exact k_res1 hS rfl (RV.tmp rfl) ⟨rfl, hM.done ⟨hb11, hb10, hb9, hb8, hb4, hb3, trivial⟩⟩

set_option maxRecDepth 100000 in
theorem feRuns_ok (f g : Nat → BitVec 8) (v : Value) (m : Nat) (h : Nat → Int) (w0 : World) (hr : Rd w0 v m (fun i => .int .i64 (h i))) (_hml : m ≤ maxLen) : Pure Try.prog 5 #[.agg (cB 32 f).toArray, .agg (cB 32 g).toArray, v] w0 (.bool true) := by
  refine ⟨by kernel_rfl, ?_⟩
  refine calls_sym Try.func5 rfl (by kernel_rfl) ?_
  intro a hS
  have hM : Mem w0 w0 [] := Mem.refl w0
  refine c_seq ?_
  refine c_region ?_
  refine s_box hS hM (by decide) rfl rfl ?_; clear hS hM; intro a b3 w hb3 hS hM
  refine s_box hS hM (by decide) rfl rfl ?_; clear hS hM; intro a b4 w hb4 hS hM
  refine s_val hS (by decide) rfl rfl (r_assign hS rfl) ?_; clear hS; intro a hS
  refine s_nil ?_
  refine k_seq ?_
  refine c_seq ?_
  refine c_region ?_
  refine s_pure hS hM (by decide) rfl (alive_ok _) ?_; clear hS hM; intro a w hS hM
  refine s_val hS (by decide) rfl rfl (r_assign hS rfl) ?_; clear hS; intro a hS
  refine s_nil ?_
  refine k_seq ?_
  refine c_seq ?_
  refine c_seq ?_
  refine c_region ?_
  refine s_val hS (by decide) rfl rfl (r_move hS rfl) ?_; clear hS; intro a hS
  refine s_val hS (by decide) rfl rfl (r_not hS rfl) ?_; clear hS; intro a hS
  refine s_val hS (by decide) rfl rfl (r_move hS rfl) ?_; clear hS; intro a hS
  refine s_valg hS (by decide) rfl rfl rfl rfl rfl (r_move hS rfl) ?_; clear hS; intro a hS
  refine s_valg hS (by decide) rfl rfl rfl rfl rfl (r_lenR hS rfl (hr.keepGe hM ⟨hb4, hb3, trivial⟩) Try.underlying35) ?_; clear hS; intro a hS
  refine s_valgb hS (by decide) rfl rfl rfl rfl rfl (r_bv hS rfl (show ev _ _ = some (N 60) from rfl) gN (b_gtrN _ _ _)) (fun hc => ?_) (fun hc => ?_)
  · clear hS; intro a hS; have h1 := of_decide_eq_true hc
    refine s_val hS (by decide) rfl rfl (r_pick hS rfl rfl) ?_; clear hS; intro a hS
    refine s_nil ?_
    refine k_seq ?_
    refine c_true hS rfl rfl ?_
    refine c_seq ?_
    refine c_region ?_
    refine s_val hS (by decide) rfl rfl (r_move hS rfl) ?_; clear hS; intro a hS
    refine s_val hS (by decide) rfl rfl (r_assign hS rfl) ?_; clear hS; intro a hS
    refine s_nil ?_
    refine k_seq ?_
    refine c_ret ?_
    refine k_thenr ?_
    exact k_res1 hS rfl (RV.tmp rfl) ⟨rfl, hM.done ⟨hb4, hb3, trivial⟩⟩
  · clear hS; intro a hS; have h1 := of_decide_eq_false hc
    refine s_val hS (by decide) rfl rfl (r_pick hS rfl rfl) ?_; clear hS; intro a hS
    refine s_nil ?_
    refine k_seq ?_
    refine c_false hS rfl rfl ?_
    refine c_skip ?_
    refine k_seq ?_
    refine c_seq ?_
    refine c_region ?_
    refine s_val hS (by decide) rfl rfl (r_loadAll hS hM rfl (j := 1) rfl Try.underlying22 rfl sz22 cells_len) ?_; clear hS; intro a hS
    refine s_pure hS hM (by decide) rfl (from_ok _ _) ?_; clear hS hM; intro a w hS hM
    refine s_alloc hS hM (by decide) zero27 ?_; clear hS hM; intro a b8 w hb8 hS hM
    refine s_storeAll hS hM rfl rfl (j := 0) rfl sz27 cells_len cells_len cU_one ?_; clear hS hM; intro a w hS hM
    refine s_nil ?_
    refine k_seq ?_
    refine c_seq ?_
    refine c_region ?_
    refine s_val hS (by decide) rfl rfl (r_loadAll hS hM rfl (j := 1) rfl Try.underlying22 rfl sz22 cells_len) ?_; clear hS; intro a hS
    refine s_pure hS hM (by decide) rfl (from_ok _ _) ?_; clear hS hM; intro a w hS hM
    refine s_alloc hS hM (by decide) zero27 ?_; clear hS hM; intro a b9 w hb9 hS hM
    refine s_storeAll hS hM rfl rfl (j := 0) rfl sz27 cells_len cells_len cU_one ?_; clear hS hM; intro a w hS hM
    refine s_nil ?_
    refine k_seq ?_
    refine c_seq ?_
    refine c_region ?_
    refine s_val hS (by decide) rfl rfl (r_loadAll hS hM rfl (j := 3) rfl Try.underlying22 rfl sz22 cells_len) ?_; clear hS; intro a hS
    refine s_pure hS hM (by decide) rfl (rfrom_ok _ _) ?_; clear hS hM; intro a w hS hM
    refine s_alloc hS hM (by decide) zero37 ?_; clear hS hM; intro a b10 w hb10 hS hM
    refine s_storeAll hS hM rfl rfl (j := 0) rfl sz37 cells_len cells_len cI_one ?_; clear hS hM; intro a w hS hM
    refine s_nil ?_
    refine k_seq ?_
    refine c_seq ?_
    refine c_region ?_
    refine s_val hS (by decide) rfl rfl (r_loadAll hS hM rfl (j := 3) rfl Try.underlying22 rfl sz22 cells_len) ?_; clear hS; intro a hS
    refine s_pure hS hM (by decide) rfl (rfrom_ok _ _) ?_; clear hS hM; intro a w hS hM
    refine s_alloc hS hM (by decide) zero37 ?_; clear hS hM; intro a b11 w hb11 hS hM
    refine s_storeAll hS hM rfl rfl (j := 0) rfl sz37 cells_len cells_len cI_one ?_; clear hS hM; intro a w hS hM
    refine s_nil ?_
    refine k_seq ?_
    refine c_seq ?_
    refine c_seq ?_
    refine c_region ?_
    refine s_val hS (by decide) rfl rfl (r_assign hS (show ev _ _ = some (N 0) from rfl)) ?_; clear hS; intro a hS
    refine s_nil ?_
    refine k_seq ?_
    refine c_block ?_
    refine c_loop (σ := Nat × (Nat → BitVec 64) × (Nat → BitVec 64) × Nat × Nat) (fun s a w => (s.1 ≤ m ∧ Tw s.2.1 s.2.2.2.1 ∧ Tw s.2.2.1 s.2.2.2.2) ∧ Slots a 111 (env [(2, v), (8, ptr b8 0), (9, ptr b9 0), (10, ptr b10 0), (11, ptr b11 0), (12, N s.1)]) ∧ Mem w0 w ([⟨b11, 37, cI 16 (dig s.2.2.2.2)⟩, ⟨b10, 37, cI 16 (dig s.2.2.2.1)⟩, ⟨b9, 27, cU 5 s.2.2.1⟩, ⟨b8, 27, cU 5 s.2.1⟩, ⟨b4, 22, cB 32 g⟩, ⟨b3, 22, cB 32 f⟩])) (fun s => m - s.1) (0, _, _, _, _) ⟨⟨Nat.zero_le _, Tw.read f, Tw.read g⟩, hS.to _ ⟨rfl, rfl, rfl, rfl, rfl, rfl, trivial⟩, hM⟩ ?_
    clear hS hM; rintro ⟨k, x, y, p, q⟩ a w ⟨hk, hS, hM⟩
    obtain ⟨hk0, hx, hy⟩ := hk; dsimp only at hk0 hx hy hS hM
    refine c_seq ?_
    refine c_seq ?_
    refine c_region ?_
    refine s_val hS (by decide) rfl rfl (r_move hS rfl) ?_; clear hS; intro a hS
    refine s_val hS (by decide) rfl rfl (r_move hS rfl) ?_; clear hS; intro a hS
    refine s_val hS (by decide) rfl rfl (r_lenR hS rfl (hr.keepGe hM ⟨hb11, hb10, hb9, hb8, hb4, hb3, trivial⟩) Try.underlying35) ?_; clear hS; intro a hS
    refine s_val hS (by decide) rfl rfl (r_bv hS rfl rfl gN (b_lssN _ _ _)) ?_; clear hS; intro a hS
    refine s_nil ?_
    refine k_seq ?_
    refine c_cond hS rfl (fun hc => ?_) (fun hc => ?_)
    · have hk1 := of_decide_eq_true hc
      refine c_skip ?_
      refine k_seq ?_
      refine c_seq ?_
      refine c_block ?_
      refine c_seq ?_
      refine c_region ?_
      refine s_val hS (by decide) rfl rfl (r_move hS rfl) ?_; clear hS; intro a hS
      refine s_val hS (by decide) rfl rfl (r_move hS rfl) ?_; clear hS; intro a hS
      refine s_val hS (by decide) rfl rfl (r_indexR hS rfl (hr.keepGe hM ⟨hb11, hb10, hb9, hb8, hb4, hb3, trivial⟩) rfl Try.underlying35 sz3 (by omega)) ?_; clear hS; intro a hS
      refine s_val hS (by decide) rfl rfl (r_loadR hS rfl (hr.keepGe hM ⟨hb11, hb10, hb9, hb8, hb4, hb3, trivial⟩) (by omega) Try.underlying3 rfl) ?_; clear hS; intro a hS
      refine s_nil ?_
      refine k_seq ?_
      refine c_block ?_
      refine c_seq ?_
      refine c_region ?_
      refine s_val hS (by decide) rfl rfl (r_bv hS rfl (show ev _ _ = some (.int .i64 (0)) from rfl) gZ (b_eqlZ _ _ _)) ?_; clear hS; intro a hS
      refine s_val hS (by decide) rfl rfl (r_assign hS rfl) ?_; clear hS; intro a hS
      refine s_nil ?_
      refine k_seq ?_
      refine c_cond hS rfl (fun hc => ?_) (fun hc => ?_)
      · try simp at hc
        refine c_seq ?_
        refine c_region ?_
        refine s_val hS (by decide) rfl rfl (r_loadAll hS hM rfl (j := 3) rfl Try.underlying27 rfl sz27 cells_len) ?_; clear hS; intro a hS
        refine s_val hS (by decide) rfl rfl (r_loadAll hS hM rfl (j := 2) rfl Try.underlying27 rfl sz27 cells_len) ?_; clear hS; intro a hS
        refine s_pure hS hM (by decide) rfl (add_ok _ _ _) ?_; clear hS hM; intro a w hS hM
        refine s_storeAll hS hM rfl rfl (j := 3) rfl sz27 cells_len cells_len cU_one ?_; clear hS hM; intro a w hS hM
        refine s_nil ?_
        refine k_seq ?_
        refine c_region ?_
        refine s_val hS (by decide) rfl rfl (r_loadAll hS hM rfl (j := 1) rfl Try.underlying37 rfl sz37 cells_len) ?_; clear hS; intro a hS
        refine s_val hS (by decide) rfl rfl (r_loadAll hS hM rfl (j := 0) rfl Try.underlying37 rfl sz37 cells_len) ?_; clear hS; intro a hS
        refine s_pure hS hM (by decide) rfl (radd_ok _ _ (by first | exact Nat.mod_lt _ pP_pos | exact Tw.lt (by assumption)) (by first | exact Nat.mod_lt _ pP_pos | exact Tw.lt (by assumption)) _) ?_; clear hS hM; intro a w hS hM
        refine s_storeAll hS hM rfl rfl (j := 1) rfl sz37 cells_len cells_len cI_one ?_; clear hS hM; intro a w hS hM
        refine s_nil ?_
        refine k_in ?_
        refine k_in ?_
        refine k_seq ?_
        refine c_region ?_
        refine s_val hS (by decide) rfl rfl (r_move hS rfl) ?_; clear hS; intro a hS
        refine s_val hS (by decide) rfl rfl (r_bv hS rfl (show ev _ _ = some (N 1) from rfl) gN (b_addN _ _ _ (by omega))) ?_; clear hS; intro a hS
        refine s_val hS (by decide) rfl rfl (r_assign hS rfl) ?_; clear hS; intro a hS
        refine s_nil ?_
        refine k_then ?_
        refine ⟨(k + 1, _, _, _, _), (by show m - (k + 1) < m - k; omega), ⟨by show k + 1 ≤ m; omega, (by repeat first | assumption | exact Tw.read _ | exact Tw.small _ | exact Tw.zero | apply Tw.add | apply Tw.mul | apply Tw.neg | apply Tw.sub), (by repeat first | assumption | exact Tw.read _ | exact Tw.small _ | exact Tw.zero | apply Tw.add | apply Tw.mul | apply Tw.neg | apply Tw.sub)⟩, hS.to _ ⟨rfl, rfl, rfl, rfl, rfl, rfl, trivial⟩, hM⟩
      · try simp at hc
        refine c_seq ?_
        refine c_region ?_
        refine s_val hS (by decide) rfl rfl (r_bv hS rfl (show ev _ _ = some (.int .i64 (1)) from rfl) gZ (b_eqlZ _ _ _)) ?_; clear hS; intro a hS
        refine s_val hS (by decide) rfl rfl (r_assign hS rfl) ?_; clear hS; intro a hS
        refine s_nil ?_
        refine k_seq ?_
        refine c_cond hS rfl (fun hc => ?_) (fun hc => ?_)
        · try simp at hc
          refine c_seq ?_
          refine c_region ?_
          refine s_val hS (by decide) rfl rfl (r_loadAll hS hM rfl (j := 3) rfl Try.underlying27 rfl sz27 cells_len) ?_; clear hS; intro a hS
          refine s_val hS (by decide) rfl rfl (r_loadAll hS hM rfl (j := 2) rfl Try.underlying27 rfl sz27 cells_len) ?_; clear hS; intro a hS
          refine s_pure hS hM (by decide) rfl (sub_ok _ _ _) ?_; clear hS hM; intro a w hS hM
          refine s_storeAll hS hM rfl rfl (j := 3) rfl sz27 cells_len cells_len cU_one ?_; clear hS hM; intro a w hS hM
          refine s_nil ?_
          refine k_seq ?_
          refine c_region ?_
          refine s_val hS (by decide) rfl rfl (r_loadAll hS hM rfl (j := 1) rfl Try.underlying37 rfl sz37 cells_len) ?_; clear hS; intro a hS
          refine s_val hS (by decide) rfl rfl (r_loadAll hS hM rfl (j := 0) rfl Try.underlying37 rfl sz37 cells_len) ?_; clear hS; intro a hS
          refine s_pure hS hM (by decide) rfl (rsub_ok _ _ (by first | exact Nat.mod_lt _ pP_pos | exact Tw.lt (by assumption)) (by first | exact Nat.mod_lt _ pP_pos | exact Tw.lt (by assumption)) _) ?_; clear hS hM; intro a w hS hM
          refine s_storeAll hS hM rfl rfl (j := 1) rfl sz37 cells_len cells_len cI_one ?_; clear hS hM; intro a w hS hM
          refine s_nil ?_
          refine k_in ?_
          refine k_in ?_
          refine k_seq ?_
          refine c_region ?_
          refine s_val hS (by decide) rfl rfl (r_move hS rfl) ?_; clear hS; intro a hS
          refine s_val hS (by decide) rfl rfl (r_bv hS rfl (show ev _ _ = some (N 1) from rfl) gN (b_addN _ _ _ (by omega))) ?_; clear hS; intro a hS
          refine s_val hS (by decide) rfl rfl (r_assign hS rfl) ?_; clear hS; intro a hS
          refine s_nil ?_
          refine k_then ?_
          refine ⟨(k + 1, _, _, _, _), (by show m - (k + 1) < m - k; omega), ⟨by show k + 1 ≤ m; omega, (by repeat first | assumption | exact Tw.read _ | exact Tw.small _ | exact Tw.zero | apply Tw.add | apply Tw.mul | apply Tw.neg | apply Tw.sub), (by repeat first | assumption | exact Tw.read _ | exact Tw.small _ | exact Tw.zero | apply Tw.add | apply Tw.mul | apply Tw.neg | apply Tw.sub)⟩, hS.to _ ⟨rfl, rfl, rfl, rfl, rfl, rfl, trivial⟩, hM⟩
        · try simp at hc
          refine c_seq ?_
          refine c_region ?_
          refine s_val hS (by decide) rfl rfl (r_bv hS rfl (show ev _ _ = some (.int .i64 (2)) from rfl) gZ (b_eqlZ _ _ _)) ?_; clear hS; intro a hS
          refine s_val hS (by decide) rfl rfl (r_assign hS rfl) ?_; clear hS; intro a hS
          refine s_nil ?_
          refine k_seq ?_
          refine c_cond hS rfl (fun hc => ?_) (fun hc => ?_)
          · try simp at hc
            refine c_seq ?_
            refine c_region ?_
            refine s_val hS (by decide) rfl rfl (r_loadAll hS hM rfl (j := 3) rfl Try.underlying27 rfl sz27 cells_len) ?_; clear hS; intro a hS
            refine s_val hS (by decide) rfl rfl (r_loadAll hS hM rfl (j := 2) rfl Try.underlying27 rfl sz27 cells_len) ?_; clear hS; intro a hS
            refine s_pure hS hM (by decide) rfl (mul_ok _ _ _) ?_; clear hS hM; intro a w hS hM
            refine s_storeAll hS hM rfl rfl (j := 3) rfl sz27 cells_len cells_len cU_one ?_; clear hS hM; intro a w hS hM
            refine s_nil ?_
            refine k_seq ?_
            refine c_region ?_
            refine s_val hS (by decide) rfl rfl (r_loadAll hS hM rfl (j := 1) rfl Try.underlying37 rfl sz37 cells_len) ?_; clear hS; intro a hS
            refine s_val hS (by decide) rfl rfl (r_loadAll hS hM rfl (j := 0) rfl Try.underlying37 rfl sz37 cells_len) ?_; clear hS; intro a hS
            refine s_pure hS hM (by decide) rfl (rmul_ok _ _ (by first | exact Nat.mod_lt _ pP_pos | exact Tw.lt (by assumption)) (by first | exact Nat.mod_lt _ pP_pos | exact Tw.lt (by assumption)) _) ?_; clear hS hM; intro a w hS hM
            refine s_storeAll hS hM rfl rfl (j := 1) rfl sz37 cells_len cells_len cI_one ?_; clear hS hM; intro a w hS hM
            refine s_nil ?_
            refine k_in ?_
            refine k_in ?_
            refine k_seq ?_
            refine c_region ?_
            refine s_val hS (by decide) rfl rfl (r_move hS rfl) ?_; clear hS; intro a hS
            refine s_val hS (by decide) rfl rfl (r_bv hS rfl (show ev _ _ = some (N 1) from rfl) gN (b_addN _ _ _ (by omega))) ?_; clear hS; intro a hS
            refine s_val hS (by decide) rfl rfl (r_assign hS rfl) ?_; clear hS; intro a hS
            refine s_nil ?_
            refine k_then ?_
            refine ⟨(k + 1, _, _, _, _), (by show m - (k + 1) < m - k; omega), ⟨by show k + 1 ≤ m; omega, (by repeat first | assumption | exact Tw.read _ | exact Tw.small _ | exact Tw.zero | apply Tw.add | apply Tw.mul | apply Tw.neg | apply Tw.sub), (by repeat first | assumption | exact Tw.read _ | exact Tw.small _ | exact Tw.zero | apply Tw.add | apply Tw.mul | apply Tw.neg | apply Tw.sub)⟩, hS.to _ ⟨rfl, rfl, rfl, rfl, rfl, rfl, trivial⟩, hM⟩
          · try simp at hc
            refine c_seq ?_
            refine c_region ?_
            refine s_val hS (by decide) rfl rfl (r_bv hS rfl (show ev _ _ = some (.int .i64 (3)) from rfl) gZ (b_eqlZ _ _ _)) ?_; clear hS; intro a hS
            refine s_val hS (by decide) rfl rfl (r_assign hS rfl) ?_; clear hS; intro a hS
            refine s_nil ?_
            refine k_seq ?_
            refine c_cond hS rfl (fun hc => ?_) (fun hc => ?_)
            · try simp at hc
              refine c_seq ?_
              refine c_region ?_
              refine s_val hS (by decide) rfl rfl (r_loadAll hS hM rfl (j := 2) rfl Try.underlying27 rfl sz27 cells_len) ?_; clear hS; intro a hS
              refine s_pure hS hM (by decide) rfl (square_ok _ _) ?_; clear hS hM; intro a w hS hM
              refine s_storeAll hS hM rfl rfl (j := 2) rfl sz27 cells_len cells_len cU_one ?_; clear hS hM; intro a w hS hM
              refine s_nil ?_
              refine k_seq ?_
              refine c_region ?_
              refine s_val hS (by decide) rfl rfl (r_loadAll hS hM rfl (j := 0) rfl Try.underlying37 rfl sz37 cells_len) ?_; clear hS; intro a hS
              refine s_val hS (by decide) rfl rfl (r_loadAll hS hM rfl (j := 0) rfl Try.underlying37 rfl sz37 cells_len) ?_; clear hS; intro a hS
              refine s_pure hS hM (by decide) rfl (rmul_ok _ _ (by first | exact Nat.mod_lt _ pP_pos | exact Tw.lt (by assumption)) (by first | exact Nat.mod_lt _ pP_pos | exact Tw.lt (by assumption)) _) ?_; clear hS hM; intro a w hS hM
              refine s_storeAll hS hM rfl rfl (j := 0) rfl sz37 cells_len cells_len cI_one ?_; clear hS hM; intro a w hS hM
              refine s_nil ?_
              refine k_in ?_
              refine k_in ?_
              refine k_seq ?_
              refine c_region ?_
              refine s_val hS (by decide) rfl rfl (r_move hS rfl) ?_; clear hS; intro a hS
              refine s_val hS (by decide) rfl rfl (r_bv hS rfl (show ev _ _ = some (N 1) from rfl) gN (b_addN _ _ _ (by omega))) ?_; clear hS; intro a hS
              refine s_val hS (by decide) rfl rfl (r_assign hS rfl) ?_; clear hS; intro a hS
              refine s_nil ?_
              refine k_then ?_
              refine ⟨(k + 1, _, _, _, _), (by show m - (k + 1) < m - k; omega), ⟨by show k + 1 ≤ m; omega, (by repeat first | assumption | exact Tw.read _ | exact Tw.small _ | exact Tw.zero | apply Tw.add | apply Tw.mul | apply Tw.neg | apply Tw.sub), (by repeat first | assumption | exact Tw.read _ | exact Tw.small _ | exact Tw.zero | apply Tw.add | apply Tw.mul | apply Tw.neg | apply Tw.sub)⟩, hS.to _ ⟨rfl, rfl, rfl, rfl, rfl, rfl, trivial⟩, hM⟩
            · try simp at hc
              refine c_seq ?_
              refine c_region ?_
              refine s_val hS (by decide) rfl rfl (r_bv hS rfl (show ev _ _ = some (.int .i64 (4)) from rfl) gZ (b_eqlZ _ _ _)) ?_; clear hS; intro a hS
              refine s_val hS (by decide) rfl rfl (r_assign hS rfl) ?_; clear hS; intro a hS
              refine s_nil ?_
              refine k_seq ?_
              refine c_cond hS rfl (fun hc => ?_) (fun hc => ?_)
              · try simp at hc
                refine c_seq ?_
                refine c_region ?_
                refine s_val hS (by decide) rfl rfl (r_loadAll hS hM rfl (j := 3) rfl Try.underlying27 rfl sz27 cells_len) ?_; clear hS; intro a hS
                refine s_pure hS hM (by decide) rfl (neg_ok _ _) ?_; clear hS hM; intro a w hS hM
                refine s_storeAll hS hM rfl rfl (j := 3) rfl sz27 cells_len cells_len cU_one ?_; clear hS hM; intro a w hS hM
                refine s_nil ?_
                refine k_seq ?_
                refine c_region ?_
                refine s_val hS (by decide) rfl rfl (r_loadAll hS hM rfl (j := 1) rfl Try.underlying37 rfl sz37 cells_len) ?_; clear hS; intro a hS
                refine s_pure hS hM (by decide) rfl (rneg_ok _ (by first | exact Nat.mod_lt _ pP_pos | exact Tw.lt (by assumption)) _) ?_; clear hS hM; intro a w hS hM
                refine s_storeAll hS hM rfl rfl (j := 1) rfl sz37 cells_len cells_len cI_one ?_; clear hS hM; intro a w hS hM
                refine s_nil ?_
                refine k_in ?_
                refine k_in ?_
                refine k_seq ?_
                refine c_region ?_
                refine s_val hS (by decide) rfl rfl (r_move hS rfl) ?_; clear hS; intro a hS
                refine s_val hS (by decide) rfl rfl (r_bv hS rfl (show ev _ _ = some (N 1) from rfl) gN (b_addN _ _ _ (by omega))) ?_; clear hS; intro a hS
                refine s_val hS (by decide) rfl rfl (r_assign hS rfl) ?_; clear hS; intro a hS
                refine s_nil ?_
                refine k_then ?_
                refine ⟨(k + 1, _, _, _, _), (by show m - (k + 1) < m - k; omega), ⟨by show k + 1 ≤ m; omega, (by repeat first | assumption | exact Tw.read _ | exact Tw.small _ | exact Tw.zero | apply Tw.add | apply Tw.mul | apply Tw.neg | apply Tw.sub), (by repeat first | assumption | exact Tw.read _ | exact Tw.small _ | exact Tw.zero | apply Tw.add | apply Tw.mul | apply Tw.neg | apply Tw.sub)⟩, hS.to _ ⟨rfl, rfl, rfl, rfl, rfl, rfl, trivial⟩, hM⟩
              · try simp at hc
                refine c_seq ?_
                refine c_region ?_
                refine s_val hS (by decide) rfl rfl (r_bv hS rfl (show ev _ _ = some (.int .i64 (5)) from rfl) gZ (b_eqlZ _ _ _)) ?_; clear hS; intro a hS
                refine s_val hS (by decide) rfl rfl (r_assign hS rfl) ?_; clear hS; intro a hS
                refine s_nil ?_
                refine k_seq ?_
                refine c_cond hS rfl (fun hc => ?_) (fun hc => ?_)
                · try simp at hc
                  refine c_seq ?_
                  refine c_region ?_
                  refine s_val hS (by decide) rfl rfl (r_loadAll hS hM rfl (j := 2) rfl Try.underlying27 rfl sz27 cells_len) ?_; clear hS; intro a hS
                  refine s_val hS (by decide) rfl rfl (r_loadAll hS hM rfl (j := 3) rfl Try.underlying27 rfl sz27 cells_len) ?_; clear hS; intro a hS
                  refine s_pure hS hM (by decide) rfl (add_ok _ _ _) ?_; clear hS hM; intro a w hS hM
                  refine s_storeAll hS hM rfl rfl (j := 2) rfl sz27 cells_len cells_len cU_one ?_; clear hS hM; intro a w hS hM
                  refine s_nil ?_
                  refine k_seq ?_
                  refine c_region ?_
                  refine s_val hS (by decide) rfl rfl (r_loadAll hS hM rfl (j := 0) rfl Try.underlying37 rfl sz37 cells_len) ?_; clear hS; intro a hS
                  refine s_val hS (by decide) rfl rfl (r_loadAll hS hM rfl (j := 1) rfl Try.underlying37 rfl sz37 cells_len) ?_; clear hS; intro a hS
                  refine s_pure hS hM (by decide) rfl (radd_ok _ _ (by first | exact Nat.mod_lt _ pP_pos | exact Tw.lt (by assumption)) (by first | exact Nat.mod_lt _ pP_pos | exact Tw.lt (by assumption)) _) ?_; clear hS hM; intro a w hS hM
                  refine s_storeAll hS hM rfl rfl (j := 0) rfl sz37 cells_len cells_len cI_one ?_; clear hS hM; intro a w hS hM
                  refine s_nil ?_
                  refine k_in ?_
                  refine k_in ?_
                  refine k_seq ?_
                  refine c_region ?_
                  refine s_val hS (by decide) rfl rfl (r_move hS rfl) ?_; clear hS; intro a hS
                  refine s_val hS (by decide) rfl rfl (r_bv hS rfl (show ev _ _ = some (N 1) from rfl) gN (b_addN _ _ _ (by omega))) ?_; clear hS; intro a hS
                  refine s_val hS (by decide) rfl rfl (r_assign hS rfl) ?_; clear hS; intro a hS
                  refine s_nil ?_
                  refine k_then ?_
                  refine ⟨(k + 1, _, _, _, _), (by show m - (k + 1) < m - k; omega), ⟨by show k + 1 ≤ m; omega, (by repeat first | assumption | exact Tw.read _ | exact Tw.small _ | exact Tw.zero | apply Tw.add | apply Tw.mul | apply Tw.neg | apply Tw.sub), (by repeat first | assumption | exact Tw.read _ | exact Tw.small _ | exact Tw.zero | apply Tw.add | apply Tw.mul | apply Tw.neg | apply Tw.sub)⟩, hS.to _ ⟨rfl, rfl, rfl, rfl, rfl, rfl, trivial⟩, hM⟩
                · try simp at hc
                  refine c_seq ?_
                  refine c_region ?_
                  refine s_val hS (by decide) rfl rfl (r_bv hS rfl (show ev _ _ = some (.int .i64 (6)) from rfl) gZ (b_eqlZ _ _ _)) ?_; clear hS; intro a hS
                  refine s_val hS (by decide) rfl rfl (r_assign hS rfl) ?_; clear hS; intro a hS
                  refine s_nil ?_
                  refine k_seq ?_
                  refine c_cond hS rfl (fun hc => ?_) (fun hc => ?_)
                  · try simp at hc
                    refine c_seq ?_
                    refine c_region ?_
                    refine s_val hS (by decide) rfl rfl (r_loadAll hS hM rfl (j := 3) rfl Try.underlying27 rfl sz27 cells_len) ?_; clear hS; intro a hS
                    refine s_val hS (by decide) rfl rfl (r_loadAll hS hM rfl (j := 3) rfl Try.underlying27 rfl sz27 cells_len) ?_; clear hS; intro a hS
                    refine s_pure hS hM (by decide) rfl (add_ok _ _ _) ?_; clear hS hM; intro a w hS hM
                    refine s_storeAll hS hM rfl rfl (j := 3) rfl sz27 cells_len cells_len cU_one ?_; clear hS hM; intro a w hS hM
                    refine s_nil ?_
                    refine k_seq ?_
                    refine c_region ?_
                    refine s_val hS (by decide) rfl rfl (r_loadAll hS hM rfl (j := 1) rfl Try.underlying37 rfl sz37 cells_len) ?_; clear hS; intro a hS
                    refine s_val hS (by decide) rfl rfl (r_loadAll hS hM rfl (j := 1) rfl Try.underlying37 rfl sz37 cells_len) ?_; clear hS; intro a hS
                    refine s_pure hS hM (by decide) rfl (radd_ok _ _ (by first | exact Nat.mod_lt _ pP_pos | exact Tw.lt (by assumption)) (by first | exact Nat.mod_lt _ pP_pos | exact Tw.lt (by assumption)) _) ?_; clear hS hM; intro a w hS hM
                    refine s_storeAll hS hM rfl rfl (j := 1) rfl sz37 cells_len cells_len cI_one ?_; clear hS hM; intro a w hS hM
                    refine s_nil ?_
                    refine k_in ?_
                    refine k_in ?_
                    refine k_seq ?_
                    refine c_region ?_
                    refine s_val hS (by decide) rfl rfl (r_move hS rfl) ?_; clear hS; intro a hS
                    refine s_val hS (by decide) rfl rfl (r_bv hS rfl (show ev _ _ = some (N 1) from rfl) gN (b_addN _ _ _ (by omega))) ?_; clear hS; intro a hS
                    refine s_val hS (by decide) rfl rfl (r_assign hS rfl) ?_; clear hS; intro a hS
                    refine s_nil ?_
                    refine k_then ?_
                    refine ⟨(k + 1, _, _, _, _), (by show m - (k + 1) < m - k; omega), ⟨by show k + 1 ≤ m; omega, (by repeat first | assumption | exact Tw.read _ | exact Tw.small _ | exact Tw.zero | apply Tw.add | apply Tw.mul | apply Tw.neg | apply Tw.sub), (by repeat first | assumption | exact Tw.read _ | exact Tw.small _ | exact Tw.zero | apply Tw.add | apply Tw.mul | apply Tw.neg | apply Tw.sub)⟩, hS.to _ ⟨rfl, rfl, rfl, rfl, rfl, rfl, trivial⟩, hM⟩
                  · try simp at hc
                    refine c_seq ?_
                    refine c_region ?_
                    refine s_val hS (by decide) rfl rfl (r_loadAll hS hM rfl (j := 2) rfl Try.underlying27 rfl sz27 cells_len) ?_; clear hS; intro a hS
                    refine s_val hS (by decide) rfl rfl (r_loadAll hS hM rfl (j := 3) rfl Try.underlying27 rfl sz27 cells_len) ?_; clear hS; intro a hS
                    refine s_pure hS hM (by decide) rfl (sub_ok _ _ _) ?_; clear hS hM; intro a w hS hM
                    refine s_storeAll hS hM rfl rfl (j := 2) rfl sz27 cells_len cells_len cU_one ?_; clear hS hM; intro a w hS hM
                    refine s_nil ?_
                    refine k_seq ?_
                    refine c_region ?_
                    refine s_val hS (by decide) rfl rfl (r_loadAll hS hM rfl (j := 0) rfl Try.underlying37 rfl sz37 cells_len) ?_; clear hS; intro a hS
                    refine s_val hS (by decide) rfl rfl (r_loadAll hS hM rfl (j := 1) rfl Try.underlying37 rfl sz37 cells_len) ?_; clear hS; intro a hS
                    refine s_pure hS hM (by decide) rfl (rsub_ok _ _ (by first | exact Nat.mod_lt _ pP_pos | exact Tw.lt (by assumption)) (by first | exact Nat.mod_lt _ pP_pos | exact Tw.lt (by assumption)) _) ?_; clear hS hM; intro a w hS hM
                    refine s_storeAll hS hM rfl rfl (j := 0) rfl sz37 cells_len cells_len cI_one ?_; clear hS hM; intro a w hS hM
                    refine s_nil ?_
                    refine k_in ?_
                    refine k_in ?_
                    refine k_seq ?_
                    refine c_region ?_
                    refine s_val hS (by decide) rfl rfl (r_move hS rfl) ?_; clear hS; intro a hS
                    refine s_val hS (by decide) rfl rfl (r_bv hS rfl (show ev _ _ = some (N 1) from rfl) gN (b_addN _ _ _ (by omega))) ?_; clear hS; intro a hS
                    refine s_val hS (by decide) rfl rfl (r_assign hS rfl) ?_; clear hS; intro a hS
                    refine s_nil ?_
                    refine k_then ?_
                    refine ⟨(k + 1, _, _, _, _), (by show m - (k + 1) < m - k; omega), ⟨by show k + 1 ≤ m; omega, (by repeat first | assumption | exact Tw.read _ | exact Tw.small _ | exact Tw.zero | apply Tw.add | apply Tw.mul | apply Tw.neg | apply Tw.sub), (by repeat first | assumption | exact Tw.read _ | exact Tw.small _ | exact Tw.zero | apply Tw.add | apply Tw.mul | apply Tw.neg | apply Tw.sub)⟩, hS.to _ ⟨rfl, rfl, rfl, rfl, rfl, rfl, trivial⟩, hM⟩
    · skip
      refine c_exit ?_
      refine k_thenx ?_
      refine k_thenx ?_
      refine k_inx ?_
      refine k_seq ?_
      refine c_seq ?_
      refine c_plan 13 (fun w => Mem w0 w _) [(8, _), (10, _), (9, _), (11, _)] (by kernel_rfl) (by kernel_rfl) hS ⟨rfl, rfl, rfl, rfl, trivial⟩ (hM.drawn _) ?_; clear hS hM
      refine p_step rfl (fun a w hS hM => y_val rfl (r_loadAll hS hM rfl (j := 3) rfl Try.underlying27 rfl sz27 cells_len)) ?_
      refine p_step rfl (fun a w hS hM => y_call (by kernel_rfl) hS rfl ((bytes_ok _ (by first | exact limb51_ok _ | exact Tw.ok (by repeat first | assumption | exact Tw.read _ | exact Tw.small _ | exact Tw.zero | apply Tw.add | apply Tw.mul | apply Tw.neg | apply Tw.sub)) _).mem hM)) ?_
      refine p_step rfl (fun a w hS hM => y_val rfl (r_loadAll hS hM rfl (j := 1) rfl Try.underlying37 rfl sz37 cells_len)) ?_
      refine p_step rfl (fun a w hS hM => y_call (by kernel_rfl) hS rfl ((rbytes_ok _ _).mem hM)) ?_
      refine p_step rfl (fun a w hS hM => y_val rfl (r_eqlBt hS rfl rfl (by kernel_rfl) Try.underlying22 Try.underlying5 sz5 (tw_bytes hx))) ?_
      refine p_step rfl (fun a w hS hM => y_val rfl (r_move hS rfl)) ?_
      refine p_step rfl (fun a w hS hM => y_valg hS rfl rfl rfl rfl (r_loadAll hS hM rfl (j := 2) rfl Try.underlying27 rfl sz27 cells_len)) ?_
      refine p_step rfl (fun a w hS hM => y_callg (by kernel_rfl) hS rfl rfl rfl rfl ((bytes_ok _ (by first | exact limb51_ok _ | exact Tw.ok (by repeat first | assumption | exact Tw.read _ | exact Tw.small _ | exact Tw.zero | apply Tw.add | apply Tw.mul | apply Tw.neg | apply Tw.sub)) _).mem hM)) ?_
      refine p_step rfl (fun a w hS hM => y_valg hS rfl rfl rfl rfl (r_loadAll hS hM rfl (j := 0) rfl Try.underlying37 rfl sz37 cells_len)) ?_
      refine p_step rfl (fun a w hS hM => y_callg (by kernel_rfl) hS rfl rfl rfl rfl ((rbytes_ok _ _).mem hM)) ?_
      refine p_step rfl (fun a w hS hM => y_valg hS rfl rfl rfl rfl (r_eqlBt hS rfl rfl (by kernel_rfl) Try.underlying22 Try.underlying5 sz5 (tw_bytes hy))) ?_
      refine p_step rfl (fun a w hS hM => y_val rfl (r_pick hS rfl rfl)) ?_
      refine p_step rfl (fun a w hS hM => y_val rfl (r_assign hS rfl)) ?_
      refine p_nil rfl ?_; intro a w hS hM
      refine s_nil ?_
      refine k_seq ?_
      refine c_ret ?_
      exact k_res1 hS rfl (RV.tmp rfl) ⟨rfl, hM.done ⟨hb11, hb10, hb9, hb8, hb4, hb3, trivial⟩⟩
end Go.Proofs.Ytjnhgeoojnnfoaa
