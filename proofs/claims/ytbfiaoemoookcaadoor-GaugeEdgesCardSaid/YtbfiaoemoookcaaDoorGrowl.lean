/- The walks of the laws of chapter 30 on rows. Printed by a program of mine (walk.py). -/
import Derived.Test.YtbfiaoemoookcaaDoorGrows
namespace Go.Proofs.YtbfiaoemoookcaaDoor
open Go Go.Sym
attribute [local irreducible] dsF blen nd th fl mulR shw ds bs numL sumR meanR att sm



set_option maxRecDepth 100000 in
theorem gaugeRows_ok (w0 : World) (hG : PW w0) {v : Value} {m : Nat} {f : Nat → BitVec 64} (hr : Rd w0 v m (fun i => F (f i))) : Pure Tryd.prog 5 #[v] w0 (.bool true) := by
  refine ⟨by kernel_rfl, ?_⟩
  refine calls_sym Tryd.func5 rfl (by kernel_rfl) ?_
  intro a hS
  have hM : Mem w0 w0 [] := Mem.refl w0
  refine c_seq ?_
  refine c_region ?_
  refine s_val hS (by decide) rfl rfl (r_assign hS rfl) ?_; clear hS; intro a hS
  refine s_nil ?_
  refine k_seq ?_
  refine c_seq ?_
  refine c_region ?_
  refine s_pure hS hM (by decide) rfl (alive_ok _ (hG.keep hM trivial)) ?_; clear hS hM; intro a w hS hM
  refine s_val hS (by decide) rfl rfl (r_assign hS rfl) ?_; clear hS; intro a hS
  refine s_nil ?_
  refine k_seq ?_
  refine c_seq ?_
  refine c_seq ?_
  refine c_region ?_
  refine s_val hS (by decide) rfl rfl (r_move hS rfl) ?_; clear hS; intro a hS
  refine s_val hS (by decide) rfl rfl (r_not hS rfl) ?_; clear hS; intro a hS
  refine s_val hS (by decide) rfl rfl (r_move hS rfl) ?_; clear hS; intro a hS
  refine s_valg hS (by decide) rfl rfl rfl rfl rfl (r_move hS rfl) ?_; clear hS; intro a hS
  refine s_valg hS (by decide) rfl rfl rfl rfl rfl (r_lenR hS rfl (hr.keepGe hM trivial) Tryd.underlying31) ?_; clear hS; intro a hS
  refine s_valgb hS (by decide) rfl rfl rfl rfl rfl (r_bv hS rfl (show ev _ _ = some (N 100) from rfl) gN (b_gtrN _ _ _)) (fun hc => ?_) (fun hc => ?_)
  · clear hS; intro a hS; skip
    refine s_val hS (by decide) rfl rfl (r_pick hS rfl rfl) ?_; clear hS; intro a hS
    refine s_nil ?_
    refine k_seq ?_
    refine c_true hS rfl rfl ?_
    refine c_seq ?_
    refine c_region ?_
    refine s_val hS (by decide) rfl rfl (r_move hS rfl) ?_; clear hS; intro a hS
    refine s_val hS (by decide) rfl rfl (r_assign hS rfl) ?_; clear hS; intro a hS
    refine s_nil ?_
    refine k_seq ?_
    refine c_ret ?_
    refine k_thenr ?_
    exact k_res1 hS rfl (RV.tmp rfl) ⟨rfl, hM.done trivial⟩
  · clear hS; intro a hS; have hm : m ≤ 1000 := by have := of_decide_eq_false hc; omega
    refine s_val hS (by decide) rfl rfl (r_pick hS rfl rfl) ?_; clear hS; intro a hS
    refine s_nil ?_
    refine k_seq ?_
    refine c_false hS rfl rfl ?_
    refine c_skip ?_
    refine k_seq ?_
    refine c_seq ?_
    refine c_region ?_
    refine s_val hS (by decide) rfl rfl (r_move hS rfl) ?_; clear hS; intro a hS
    refine s_pure hS hM (by decide) rfl (least_ok _ (hr.keepGe hM trivial) hm) ?_; clear hS hM; intro a w hS hM
    refine s_val hS (by decide) rfl rfl (r_move hS rfl) ?_; clear hS; intro a hS
    refine s_tells hS hM (by decide) rfl (rleast_ok _ (hr.keepGe hM trivial) hm) ?_; clear hS hM; intro a w v16 hv16 hS hM
    obtain ⟨ra, rfl, hla⟩ := best_al hv16
    refine s_pure hS hM (by decide) rfl (alike_al hla _) ?_; clear hS hM; intro a w hS hM
    refine s_val hS (by decide) rfl rfl (r_move hS rfl) ?_; clear hS; intro a hS
    refine s_valg hS (by decide) rfl rfl rfl rfl rfl (r_move hS rfl) ?_; clear hS; intro a hS
    refine s_pureg hS hM (by decide) rfl rfl rfl rfl (most_ok _ (hr.keepGe hM trivial) hm) ?_; clear hS hM; intro a w hS hM
    refine s_valg hS (by decide) rfl rfl rfl rfl rfl (r_move hS rfl) ?_; clear hS; intro a hS
    refine s_tellsg hS hM (by decide) rfl rfl rfl rfl (rmost_ok _ (hr.keepGe hM trivial) hm) ?_; clear hS hM; intro a w v22 hv22 hS hM
    obtain ⟨rb, rfl, hlb⟩ := best_al hv22
    refine s_pureg hS hM (by decide) rfl rfl rfl rfl (alike_al hlb _) ?_; clear hS hM; intro a w hS hM
    refine s_val hS (by decide) rfl rfl (r_pick hS rfl rfl) ?_; clear hS; intro a hS
    refine s_val hS (by decide) rfl rfl (r_move hS rfl) ?_; clear hS; intro a hS
    refine s_valg hS (by decide) rfl rfl rfl rfl rfl (r_move hS rfl) ?_; clear hS; intro a hS
    refine s_tellsg hS hM (by decide) rfl rfl rfl rfl (mean_ok _ (hr.keepGe hM trivial) hm) ?_; clear hS hM; intro a w v27 hv27 hS hM
    refine s_valg hS (by decide) rfl rfl rfl rfl rfl (r_move hS rfl) ?_; clear hS; intro a hS
    refine s_tellsg hS hM (by decide) rfl rfl rfl rfl (rmean_ok _ (hr.keepGe hM trivial) hm) ?_; clear hS hM; intro a w v29 hv29 hS hM
    obtain ⟨rc, rd, rfl, rfl, hlc⟩ := meanR_al hv27 hv29
    refine s_pureg hS hM (by decide) rfl rfl rfl rfl (alike_al hlc _) ?_; clear hS hM; intro a w hS hM
    refine s_val hS (by decide) rfl rfl (r_pick hS rfl rfl) ?_; clear hS; intro a hS
    refine s_val hS (by decide) rfl rfl (r_assign hS rfl) ?_; clear hS; intro a hS
    refine s_nil ?_
    refine k_seq ?_
    refine c_ret ?_
    exact k_res1 hS rfl (RV.tmp rfl) ⟨rfl, hM.done trivial⟩

set_option maxRecDepth 100000 in
theorem gaugeEnds_ok (w0 : World) (hG : PW w0) {v : Value} {m : Nat} {f : Nat → BitVec 64} (hr : Rd w0 v m (fun i => F (f i))) : Pure Tryd.prog 6 #[v] w0 (.bool true) := by
  refine ⟨by kernel_rfl, ?_⟩
  refine calls_sym Tryd.func6 rfl (by kernel_rfl) ?_
  intro a hS
  have hM : Mem w0 w0 [] := Mem.refl w0
  refine c_seq ?_
  refine c_region ?_
  refine s_val hS (by decide) rfl rfl (r_assign hS rfl) ?_; clear hS; intro a hS
  refine s_nil ?_
  refine k_seq ?_
  refine c_seq ?_
  refine c_region ?_
  refine s_pure hS hM (by decide) rfl (alive_ok _ (hG.keep hM trivial)) ?_; clear hS hM; intro a w hS hM
  refine s_val hS (by decide) rfl rfl (r_assign hS rfl) ?_; clear hS; intro a hS
  refine s_nil ?_
  refine k_seq ?_
  refine c_seq ?_
  refine c_seq ?_
  refine c_region ?_
  refine s_val hS (by decide) rfl rfl (r_move hS rfl) ?_; clear hS; intro a hS
  refine s_val hS (by decide) rfl rfl (r_not hS rfl) ?_; clear hS; intro a hS
  refine s_val hS (by decide) rfl rfl (r_move hS rfl) ?_; clear hS; intro a hS
  refine s_valg hS (by decide) rfl rfl rfl rfl rfl (r_move hS rfl) ?_; clear hS; intro a hS
  refine s_valg hS (by decide) rfl rfl rfl rfl rfl (r_lenR hS rfl (hr.keepGe hM trivial) Tryd.underlying31) ?_; clear hS; intro a hS
  refine s_valgb hS (by decide) rfl rfl rfl rfl rfl (r_bv hS rfl (show ev _ _ = some (N 100) from rfl) gN (b_gtrN _ _ _)) (fun hc => ?_) (fun hc => ?_)
  · clear hS; intro a hS; skip
    refine s_val hS (by decide) rfl rfl (r_pick hS rfl rfl) ?_; clear hS; intro a hS
    refine s_nil ?_
    refine k_seq ?_
    refine c_true hS rfl rfl ?_
    refine c_seq ?_
    refine c_region ?_
    refine s_val hS (by decide) rfl rfl (r_move hS rfl) ?_; clear hS; intro a hS
    refine s_val hS (by decide) rfl rfl (r_assign hS rfl) ?_; clear hS; intro a hS
    refine s_nil ?_
    refine k_seq ?_
    refine c_ret ?_
    refine k_thenr ?_
    exact k_res1 hS rfl (RV.tmp rfl) ⟨rfl, hM.done trivial⟩
  · clear hS; intro a hS; have hm : m ≤ 1000 := by have := of_decide_eq_false hc; omega
    refine s_val hS (by decide) rfl rfl (r_pick hS rfl rfl) ?_; clear hS; intro a hS
    refine s_nil ?_
    refine k_seq ?_
    refine c_false hS rfl rfl ?_
    refine c_skip ?_
    refine k_seq ?_
    refine c_seq ?_
    refine c_region ?_
    refine s_val hS (by decide) rfl rfl (r_move hS rfl) ?_; clear hS; intro a hS
    refine s_pure hS hM (by decide) rfl (least_ok _ (hr.keepGe hM trivial) hm) ?_; clear hS hM; intro a w hS hM
    refine s_val hS (by decide) rfl rfl (r_assign hS rfl) ?_; clear hS; intro a hS
    refine s_nil ?_
    refine k_seq ?_
    refine c_seq ?_
    refine c_region ?_
    refine s_val hS (by decide) rfl rfl (r_move hS rfl) ?_; clear hS; intro a hS
    refine s_pure hS hM (by decide) rfl (most_ok _ (hr.keepGe hM trivial) hm) ?_; clear hS hM; intro a w hS hM
    refine s_val hS (by decide) rfl rfl (r_assign hS rfl) ?_; clear hS; intro a hS
    refine s_nil ?_
    refine k_seq ?_
    refine c_seq ?_
    refine c_region ?_
    refine s_val hS (by decide) rfl rfl (r_assign hS rfl) ?_; clear hS; intro a hS
    refine s_nil ?_
    refine k_seq ?_
    refine c_seq ?_
    refine c_region ?_
    refine s_val hS (by decide) rfl rfl (r_assign hS rfl) ?_; clear hS; intro a hS
    refine s_nil ?_
    refine k_seq ?_
    refine c_seq ?_
    refine c_region ?_
    refine s_val hS (by decide) rfl rfl (r_assign hS rfl) ?_; clear hS; intro a hS
    refine s_nil ?_
    refine k_seq ?_
    refine c_seq ?_
    refine c_seq ?_
    refine c_region ?_
    refine s_val hS (by decide) rfl rfl (r_assign hS (show ev _ _ = some (N 0) from rfl)) ?_; clear hS; intro a hS
    refine s_nil ?_
    refine k_seq ?_
    refine c_block ?_
    refine c_loop (σ := Nat) (fun k a w => (k ≤ m) ∧ Slots a 96 (env [(0, v), (4, F (bs f (-1) m)), (5, F (bs f 1 m)), (6, .bool (sm f k)), (7, .bool (att f (bs f (-1) m) k)), (8, .bool (att f (bs f 1 m) k)), (9, N k)]) ∧ Mem w0 w ([])) (fun k => m - k) (0) ⟨by omega, hS.to _ ⟨rfl, rfl, rfl, congrArg (fun q => some (Value.bool q)) (by unfold sm; rfl), congrArg (fun q => some (Value.bool q)) (by unfold att; rfl), congrArg (fun q => some (Value.bool q)) (by unfold att; rfl), rfl, trivial⟩, hM⟩ ?_
    clear hS hM; rintro k a w ⟨hk, hS, hM⟩
    refine c_seq ?_
    refine c_seq ?_
    refine c_region ?_
    refine s_val hS (by decide) rfl rfl (r_move hS rfl) ?_; clear hS; intro a hS
    refine s_val hS (by decide) rfl rfl (r_move hS rfl) ?_; clear hS; intro a hS
    refine s_val hS (by decide) rfl rfl (r_lenR hS rfl (hr.keepGe hM trivial) Tryd.underlying31) ?_; clear hS; intro a hS
    refine s_val hS (by decide) rfl rfl (r_bv hS rfl rfl gN (b_lssN _ _ _)) ?_; clear hS; intro a hS
    refine s_nil ?_
    refine k_seq ?_
    refine c_cond hS rfl (fun hc => ?_) (fun hc => ?_)
    · have hk1 := of_decide_eq_true hc
      refine c_skip ?_
      refine k_seq ?_
      refine c_seq ?_
      refine c_block ?_
      refine c_seq ?_
      refine c_seq ?_
      refine c_plan 9 (fun w => Mem w0 w _) [(0, _), (9, _), (4, _), (5, _), (6, _), (7, _), (8, _), (24, _), (25, _), (26, _), (27, _)] (by kernel_rfl) (by kernel_rfl) hS ⟨rfl, rfl, rfl, rfl, rfl, rfl, rfl, rfl, rfl, rfl, rfl, trivial⟩ (hM.drawn _) ?_; clear hS hM
      refine p_step rfl (fun a w hS hM => y_val rfl (r_move hS rfl)) ?_
      refine p_step rfl (fun a w hS hM => y_val rfl (r_move hS rfl)) ?_
      refine p_step rfl (fun a w hS hM => y_val rfl (r_indexR hS rfl (hr.keepGe hM trivial) rfl Tryd.underlying31 sz22 (by omega))) ?_
      refine p_step rfl (fun a w hS hM => y_val rfl (r_loadR hS rfl (hr.keepGe hM trivial) (by omega) Tryd.underlying22 rfl)) ?_
      refine p_step rfl (fun a w hS hM => y_val rfl (r_move hS rfl)) ?_
      refine p_step rfl (fun a w hS hM => y_val rfl (r_move hS rfl)) ?_
      refine p_step rfl (fun a w hS hM => y_val rfl (r_indexR hS rfl (hr.keepGe hM trivial) rfl Tryd.underlying31 sz22 (by omega))) ?_
      refine p_step rfl (fun a w hS hM => y_val rfl (r_loadR hS rfl (hr.keepGe hM trivial) (by omega) Tryd.underlying22 rfl)) ?_
      refine p_step rfl (fun a w hS hM => y_val rfl (r_bv hS rfl rfl gF (b_neqF _ _ _))) ?_
      refine p_nil rfl ?_; intro a w hS hM
      refine s_nil ?_
      refine k_seq ?_
      refine c_cond hS rfl (fun hc => ?_) (fun hc => ?_)
      · rw [fo_self] at hc; have hn := hc
        refine c_exit ?_
        refine k_thenx ?_
        refine k_inx ?_
        refine k_seq ?_
        refine c_region ?_
        refine s_val hS (by decide) rfl rfl (r_move hS rfl) ?_; clear hS; intro a hS
        refine s_val hS (by decide) rfl rfl (r_bv hS rfl (show ev _ _ = some (N 1) from rfl) gN (b_addN _ _ _ (by omega))) ?_; clear hS; intro a hS
        refine s_val hS (by decide) rfl rfl (r_assign hS rfl) ?_; clear hS; intro a hS
        refine s_nil ?_
        refine k_then ?_
        refine ⟨k + 1, by omega, by omega, hS.to _ ⟨rfl, rfl, rfl, congrArg (fun q => some (Value.bool q)) (by first | exact sm_no hn | exact sm_yes hn), congrArg (fun q => some (Value.bool q)) (by first | exact att_no hn | exact att_had hl | exact att_new hl hn), congrArg (fun q => some (Value.bool q)) (by first | exact att_no hn | exact att_had hh | exact att_new hh hn), rfl, trivial⟩, hM⟩
      · rw [fo_self] at hc; have hn := hc
        refine c_skip ?_
        refine k_seq ?_
        refine c_seq ?_
        refine c_region ?_
        refine s_val hS (by decide) rfl rfl (r_assign hS rfl) ?_; clear hS; intro a hS
        refine s_nil ?_
        refine k_seq ?_
        refine c_seq ?_
        cases hl : att f (bs f (-1) m) k
        · rw [hl] at hS
          refine c_region ?_
          refine s_val hS (by decide) rfl rfl (r_move hS rfl) ?_; clear hS; intro a hS
          refine s_val hS (by decide) rfl rfl (r_move hS rfl) ?_; clear hS; intro a hS
          refine s_valg hS (by decide) rfl rfl rfl rfl rfl (r_move hS rfl) ?_; clear hS; intro a hS
          refine s_valg hS (by decide) rfl rfl rfl rfl rfl (r_move hS rfl) ?_; clear hS; intro a hS
          refine s_valg hS (by decide) rfl rfl rfl rfl rfl (r_indexR hS rfl (hr.keepGe hM trivial) rfl Tryd.underlying31 sz22 (by omega)) ?_; clear hS; intro a hS
          refine s_valg hS (by decide) rfl rfl rfl rfl rfl (r_loadR hS rfl (hr.keepGe hM trivial) (by omega) Tryd.underlying22 rfl) ?_; clear hS; intro a hS
          refine s_valg hS (by decide) rfl rfl rfl rfl rfl (r_move hS rfl) ?_; clear hS; intro a hS
          refine s_pureg hS hM (by decide) rfl rfl rfl rfl (gord_ok _ _ _) ?_; clear hS hM; intro a w hS hM
          refine s_valg hS (by decide) rfl rfl rfl rfl rfl (r_bv hS rfl (show ev _ _ = some (.int .i64 (0)) from rfl) gZ (b_eqlZ _ _ _)) ?_; clear hS; intro a hS
          refine s_val hS (by decide) rfl rfl (r_pick hS rfl rfl) ?_; clear hS; intro a hS
          refine s_val hS (by decide) rfl rfl (r_assign hS rfl) ?_; clear hS; intro a hS
          refine s_nil ?_
          refine k_seq ?_
          refine c_seq ?_
          cases hh : att f (bs f 1 m) k
          · rw [hh] at hS
            refine c_region ?_
            refine s_val hS (by decide) rfl rfl (r_move hS rfl) ?_; clear hS; intro a hS
            refine s_val hS (by decide) rfl rfl (r_move hS rfl) ?_; clear hS; intro a hS
            refine s_valg hS (by decide) rfl rfl rfl rfl rfl (r_move hS rfl) ?_; clear hS; intro a hS
            refine s_valg hS (by decide) rfl rfl rfl rfl rfl (r_move hS rfl) ?_; clear hS; intro a hS
            refine s_valg hS (by decide) rfl rfl rfl rfl rfl (r_indexR hS rfl (hr.keepGe hM trivial) rfl Tryd.underlying31 sz22 (by omega)) ?_; clear hS; intro a hS
            refine s_valg hS (by decide) rfl rfl rfl rfl rfl (r_loadR hS rfl (hr.keepGe hM trivial) (by omega) Tryd.underlying22 rfl) ?_; clear hS; intro a hS
            refine s_valg hS (by decide) rfl rfl rfl rfl rfl (r_move hS rfl) ?_; clear hS; intro a hS
            refine s_pureg hS hM (by decide) rfl rfl rfl rfl (gord_ok _ _ _) ?_; clear hS hM; intro a w hS hM
            refine s_valg hS (by decide) rfl rfl rfl rfl rfl (r_bv hS rfl (show ev _ _ = some (.int .i64 (0)) from rfl) gZ (b_eqlZ _ _ _)) ?_; clear hS; intro a hS
            refine s_val hS (by decide) rfl rfl (r_pick hS rfl rfl) ?_; clear hS; intro a hS
            refine s_val hS (by decide) rfl rfl (r_assign hS rfl) ?_; clear hS; intro a hS
            refine s_nil ?_
            refine k_seq ?_
            refine c_seq ?_
            refine c_region ?_
            refine s_val hS (by decide) rfl rfl (r_move hS rfl) ?_; clear hS; intro a hS
            refine s_val hS (by decide) rfl rfl (r_move hS rfl) ?_; clear hS; intro a hS
            refine s_val hS (by decide) rfl rfl (r_indexR hS rfl (hr.keepGe hM trivial) rfl Tryd.underlying31 sz22 (by omega)) ?_; clear hS; intro a hS
            refine s_val hS (by decide) rfl rfl (r_loadR hS rfl (hr.keepGe hM trivial) (by omega) Tryd.underlying22 rfl) ?_; clear hS; intro a hS
            refine s_val hS (by decide) rfl rfl (r_move hS rfl) ?_; clear hS; intro a hS
            refine s_pure hS hM (by decide) rfl (gord_ok _ _ _) ?_; clear hS hM; intro a w hS hM
            refine s_val hS (by decide) rfl rfl (r_bv hS rfl (show ev _ _ = some (.int .i64 0) from rfl) gZ ((b_lssZ _ _ _).trans (by rw [low_no hk1 hn]))) ?_; clear hS; intro a hS
            refine s_val hS (by decide) rfl rfl (r_move hS rfl) ?_; clear hS; intro a hS
            refine s_valg hS (by decide) rfl rfl rfl rfl rfl (r_move hS rfl) ?_; clear hS; intro a hS
            refine s_valg hS (by decide) rfl rfl rfl rfl rfl (r_move hS rfl) ?_; clear hS; intro a hS
            refine s_valg hS (by decide) rfl rfl rfl rfl rfl (r_indexR hS rfl (hr.keepGe hM trivial) rfl Tryd.underlying31 sz22 (by omega)) ?_; clear hS; intro a hS
            refine s_valg hS (by decide) rfl rfl rfl rfl rfl (r_loadR hS rfl (hr.keepGe hM trivial) (by omega) Tryd.underlying22 rfl) ?_; clear hS; intro a hS
            refine s_valg hS (by decide) rfl rfl rfl rfl rfl (r_move hS rfl) ?_; clear hS; intro a hS
            refine s_pureg hS hM (by decide) rfl rfl rfl rfl (gord_ok _ _ _) ?_; clear hS hM; intro a w hS hM
            refine s_valg hS (by decide) rfl rfl rfl rfl rfl (r_bv hS rfl (show ev _ _ = some (.int .i64 0) from rfl) gZ ((b_gtrZ _ _ _).trans (by rw [high_no hk1 hn]))) ?_; clear hS; intro a hS
            refine s_val hS (by decide) rfl rfl (r_pick hS rfl rfl) ?_; clear hS; intro a hS
            refine s_nil ?_
            refine k_seq ?_
            refine c_false hS rfl rfl ?_
            refine c_skip ?_
            refine k_in ?_
            refine k_seq ?_
            refine c_region ?_
            refine s_val hS (by decide) rfl rfl (r_move hS rfl) ?_; clear hS; intro a hS
            refine s_val hS (by decide) rfl rfl (r_bv hS rfl (show ev _ _ = some (N 1) from rfl) gN (b_addN _ _ _ (by omega))) ?_; clear hS; intro a hS
            refine s_val hS (by decide) rfl rfl (r_assign hS rfl) ?_; clear hS; intro a hS
            refine s_nil ?_
            refine k_then ?_
            refine ⟨k + 1, by omega, by omega, hS.to _ ⟨rfl, rfl, rfl, congrArg (fun q => some (Value.bool q)) (by first | exact sm_no hn | exact sm_yes hn), congrArg (fun q => some (Value.bool q)) (by first | exact att_no hn | exact att_had hl | exact att_new hl hn), congrArg (fun q => some (Value.bool q)) (by first | exact att_no hn | exact att_had hh | exact att_new hh hn), rfl, trivial⟩, hM⟩
          · rw [hh] at hS
            refine c_region ?_
            refine s_val hS (by decide) rfl rfl (r_move hS rfl) ?_; clear hS; intro a hS
            refine s_val hS (by decide) rfl rfl (r_move hS rfl) ?_; clear hS; intro a hS
            refine s_skip hS (by decide) rfl rfl rfl rfl rfl ?_; clear hS; intro a hS
            refine s_skip hS (by decide) rfl rfl rfl rfl rfl ?_; clear hS; intro a hS
            refine s_skip hS (by decide) rfl rfl rfl rfl rfl ?_; clear hS; intro a hS
            refine s_skip hS (by decide) rfl rfl rfl rfl rfl ?_; clear hS; intro a hS
            refine s_skip hS (by decide) rfl rfl rfl rfl rfl ?_; clear hS; intro a hS
            refine s_skip hS (by decide) rfl rfl rfl rfl rfl ?_; clear hS; intro a hS
            refine s_skip hS (by decide) rfl rfl rfl rfl rfl ?_; clear hS; intro a hS
            refine s_val hS (by decide) rfl rfl (r_pick hS rfl rfl) ?_; clear hS; intro a hS
            refine s_val hS (by decide) rfl rfl (r_assign hS rfl) ?_; clear hS; intro a hS
            refine s_nil ?_
            refine k_seq ?_
            refine c_seq ?_
            refine c_region ?_
            refine s_val hS (by decide) rfl rfl (r_move hS rfl) ?_; clear hS; intro a hS
            refine s_val hS (by decide) rfl rfl (r_move hS rfl) ?_; clear hS; intro a hS
            refine s_val hS (by decide) rfl rfl (r_indexR hS rfl (hr.keepGe hM trivial) rfl Tryd.underlying31 sz22 (by omega)) ?_; clear hS; intro a hS
            refine s_val hS (by decide) rfl rfl (r_loadR hS rfl (hr.keepGe hM trivial) (by omega) Tryd.underlying22 rfl) ?_; clear hS; intro a hS
            refine s_val hS (by decide) rfl rfl (r_move hS rfl) ?_; clear hS; intro a hS
            refine s_pure hS hM (by decide) rfl (gord_ok _ _ _) ?_; clear hS hM; intro a w hS hM
            refine s_val hS (by decide) rfl rfl (r_bv hS rfl (show ev _ _ = some (.int .i64 0) from rfl) gZ ((b_lssZ _ _ _).trans (by rw [low_no hk1 hn]))) ?_; clear hS; intro a hS
            refine s_val hS (by decide) rfl rfl (r_move hS rfl) ?_; clear hS; intro a hS
            refine s_valg hS (by decide) rfl rfl rfl rfl rfl (r_move hS rfl) ?_; clear hS; intro a hS
            refine s_valg hS (by decide) rfl rfl rfl rfl rfl (r_move hS rfl) ?_; clear hS; intro a hS
            refine s_valg hS (by decide) rfl rfl rfl rfl rfl (r_indexR hS rfl (hr.keepGe hM trivial) rfl Tryd.underlying31 sz22 (by omega)) ?_; clear hS; intro a hS
            refine s_valg hS (by decide) rfl rfl rfl rfl rfl (r_loadR hS rfl (hr.keepGe hM trivial) (by omega) Tryd.underlying22 rfl) ?_; clear hS; intro a hS
            refine s_valg hS (by decide) rfl rfl rfl rfl rfl (r_move hS rfl) ?_; clear hS; intro a hS
            refine s_pureg hS hM (by decide) rfl rfl rfl rfl (gord_ok _ _ _) ?_; clear hS hM; intro a w hS hM
            refine s_valg hS (by decide) rfl rfl rfl rfl rfl (r_bv hS rfl (show ev _ _ = some (.int .i64 0) from rfl) gZ ((b_gtrZ _ _ _).trans (by rw [high_no hk1 hn]))) ?_; clear hS; intro a hS
            refine s_val hS (by decide) rfl rfl (r_pick hS rfl rfl) ?_; clear hS; intro a hS
            refine s_nil ?_
            refine k_seq ?_
            refine c_false hS rfl rfl ?_
            refine c_skip ?_
            refine k_in ?_
            refine k_seq ?_
            refine c_region ?_
            refine s_val hS (by decide) rfl rfl (r_move hS rfl) ?_; clear hS; intro a hS
            refine s_val hS (by decide) rfl rfl (r_bv hS rfl (show ev _ _ = some (N 1) from rfl) gN (b_addN _ _ _ (by omega))) ?_; clear hS; intro a hS
            refine s_val hS (by decide) rfl rfl (r_assign hS rfl) ?_; clear hS; intro a hS
            refine s_nil ?_
            refine k_then ?_
            refine ⟨k + 1, by omega, by omega, hS.to _ ⟨rfl, rfl, rfl, congrArg (fun q => some (Value.bool q)) (by first | exact sm_no hn | exact sm_yes hn), congrArg (fun q => some (Value.bool q)) (by first | exact att_no hn | exact att_had hl | exact att_new hl hn), congrArg (fun q => some (Value.bool q)) (by first | exact att_no hn | exact att_had hh | exact att_new hh hn), rfl, trivial⟩, hM⟩
        · rw [hl] at hS
          refine c_region ?_
          refine s_val hS (by decide) rfl rfl (r_move hS rfl) ?_; clear hS; intro a hS
          refine s_val hS (by decide) rfl rfl (r_move hS rfl) ?_; clear hS; intro a hS
          refine s_skip hS (by decide) rfl rfl rfl rfl rfl ?_; clear hS; intro a hS
          refine s_skip hS (by decide) rfl rfl rfl rfl rfl ?_; clear hS; intro a hS
          refine s_skip hS (by decide) rfl rfl rfl rfl rfl ?_; clear hS; intro a hS
          refine s_skip hS (by decide) rfl rfl rfl rfl rfl ?_; clear hS; intro a hS
          refine s_skip hS (by decide) rfl rfl rfl rfl rfl ?_; clear hS; intro a hS
          refine s_skip hS (by decide) rfl rfl rfl rfl rfl ?_; clear hS; intro a hS
          refine s_skip hS (by decide) rfl rfl rfl rfl rfl ?_; clear hS; intro a hS
          refine s_val hS (by decide) rfl rfl (r_pick hS rfl rfl) ?_; clear hS; intro a hS
          refine s_val hS (by decide) rfl rfl (r_assign hS rfl) ?_; clear hS; intro a hS
          refine s_nil ?_
          refine k_seq ?_
          refine c_seq ?_
          cases hh : att f (bs f 1 m) k
          · rw [hh] at hS
            refine c_region ?_
            refine s_val hS (by decide) rfl rfl (r_move hS rfl) ?_; clear hS; intro a hS
            refine s_val hS (by decide) rfl rfl (r_move hS rfl) ?_; clear hS; intro a hS
            refine s_valg hS (by decide) rfl rfl rfl rfl rfl (r_move hS rfl) ?_; clear hS; intro a hS
            refine s_valg hS (by decide) rfl rfl rfl rfl rfl (r_move hS rfl) ?_; clear hS; intro a hS
            refine s_valg hS (by decide) rfl rfl rfl rfl rfl (r_indexR hS rfl (hr.keepGe hM trivial) rfl Tryd.underlying31 sz22 (by omega)) ?_; clear hS; intro a hS
            refine s_valg hS (by decide) rfl rfl rfl rfl rfl (r_loadR hS rfl (hr.keepGe hM trivial) (by omega) Tryd.underlying22 rfl) ?_; clear hS; intro a hS
            refine s_valg hS (by decide) rfl rfl rfl rfl rfl (r_move hS rfl) ?_; clear hS; intro a hS
            refine s_pureg hS hM (by decide) rfl rfl rfl rfl (gord_ok _ _ _) ?_; clear hS hM; intro a w hS hM
            refine s_valg hS (by decide) rfl rfl rfl rfl rfl (r_bv hS rfl (show ev _ _ = some (.int .i64 (0)) from rfl) gZ (b_eqlZ _ _ _)) ?_; clear hS; intro a hS
            refine s_val hS (by decide) rfl rfl (r_pick hS rfl rfl) ?_; clear hS; intro a hS
            refine s_val hS (by decide) rfl rfl (r_assign hS rfl) ?_; clear hS; intro a hS
            refine s_nil ?_
            refine k_seq ?_
            refine c_seq ?_
            refine c_region ?_
            refine s_val hS (by decide) rfl rfl (r_move hS rfl) ?_; clear hS; intro a hS
            refine s_val hS (by decide) rfl rfl (r_move hS rfl) ?_; clear hS; intro a hS
            refine s_val hS (by decide) rfl rfl (r_indexR hS rfl (hr.keepGe hM trivial) rfl Tryd.underlying31 sz22 (by omega)) ?_; clear hS; intro a hS
            refine s_val hS (by decide) rfl rfl (r_loadR hS rfl (hr.keepGe hM trivial) (by omega) Tryd.underlying22 rfl) ?_; clear hS; intro a hS
            refine s_val hS (by decide) rfl rfl (r_move hS rfl) ?_; clear hS; intro a hS
            refine s_pure hS hM (by decide) rfl (gord_ok _ _ _) ?_; clear hS hM; intro a w hS hM
            refine s_val hS (by decide) rfl rfl (r_bv hS rfl (show ev _ _ = some (.int .i64 0) from rfl) gZ ((b_lssZ _ _ _).trans (by rw [low_no hk1 hn]))) ?_; clear hS; intro a hS
            refine s_val hS (by decide) rfl rfl (r_move hS rfl) ?_; clear hS; intro a hS
            refine s_valg hS (by decide) rfl rfl rfl rfl rfl (r_move hS rfl) ?_; clear hS; intro a hS
            refine s_valg hS (by decide) rfl rfl rfl rfl rfl (r_move hS rfl) ?_; clear hS; intro a hS
            refine s_valg hS (by decide) rfl rfl rfl rfl rfl (r_indexR hS rfl (hr.keepGe hM trivial) rfl Tryd.underlying31 sz22 (by omega)) ?_; clear hS; intro a hS
            refine s_valg hS (by decide) rfl rfl rfl rfl rfl (r_loadR hS rfl (hr.keepGe hM trivial) (by omega) Tryd.underlying22 rfl) ?_; clear hS; intro a hS
            refine s_valg hS (by decide) rfl rfl rfl rfl rfl (r_move hS rfl) ?_; clear hS; intro a hS
            refine s_pureg hS hM (by decide) rfl rfl rfl rfl (gord_ok _ _ _) ?_; clear hS hM; intro a w hS hM
            refine s_valg hS (by decide) rfl rfl rfl rfl rfl (r_bv hS rfl (show ev _ _ = some (.int .i64 0) from rfl) gZ ((b_gtrZ _ _ _).trans (by rw [high_no hk1 hn]))) ?_; clear hS; intro a hS
            refine s_val hS (by decide) rfl rfl (r_pick hS rfl rfl) ?_; clear hS; intro a hS
            refine s_nil ?_
            refine k_seq ?_
            refine c_false hS rfl rfl ?_
            refine c_skip ?_
            refine k_in ?_
            refine k_seq ?_
            refine c_region ?_
            refine s_val hS (by decide) rfl rfl (r_move hS rfl) ?_; clear hS; intro a hS
            refine s_val hS (by decide) rfl rfl (r_bv hS rfl (show ev _ _ = some (N 1) from rfl) gN (b_addN _ _ _ (by omega))) ?_; clear hS; intro a hS
            refine s_val hS (by decide) rfl rfl (r_assign hS rfl) ?_; clear hS; intro a hS
            refine s_nil ?_
            refine k_then ?_
            refine ⟨k + 1, by omega, by omega, hS.to _ ⟨rfl, rfl, rfl, congrArg (fun q => some (Value.bool q)) (by first | exact sm_no hn | exact sm_yes hn), congrArg (fun q => some (Value.bool q)) (by first | exact att_no hn | exact att_had hl | exact att_new hl hn), congrArg (fun q => some (Value.bool q)) (by first | exact att_no hn | exact att_had hh | exact att_new hh hn), rfl, trivial⟩, hM⟩
          · rw [hh] at hS
            refine c_region ?_
            refine s_val hS (by decide) rfl rfl (r_move hS rfl) ?_; clear hS; intro a hS
            refine s_val hS (by decide) rfl rfl (r_move hS rfl) ?_; clear hS; intro a hS
            refine s_skip hS (by decide) rfl rfl rfl rfl rfl ?_; clear hS; intro a hS
            refine s_skip hS (by decide) rfl rfl rfl rfl rfl ?_; clear hS; intro a hS
            refine s_skip hS (by decide) rfl rfl rfl rfl rfl ?_; clear hS; intro a hS
            refine s_skip hS (by decide) rfl rfl rfl rfl rfl ?_; clear hS; intro a hS
            refine s_skip hS (by decide) rfl rfl rfl rfl rfl ?_; clear hS; intro a hS
            refine s_skip hS (by decide) rfl rfl rfl rfl rfl ?_; clear hS; intro a hS
            refine s_skip hS (by decide) rfl rfl rfl rfl rfl ?_; clear hS; intro a hS
            refine s_val hS (by decide) rfl rfl (r_pick hS rfl rfl) ?_; clear hS; intro a hS
            refine s_val hS (by decide) rfl rfl (r_assign hS rfl) ?_; clear hS; intro a hS
            refine s_nil ?_
            refine k_seq ?_
            refine c_seq ?_
            refine c_region ?_
            refine s_val hS (by decide) rfl rfl (r_move hS rfl) ?_; clear hS; intro a hS
            refine s_val hS (by decide) rfl rfl (r_move hS rfl) ?_; clear hS; intro a hS
            refine s_val hS (by decide) rfl rfl (r_indexR hS rfl (hr.keepGe hM trivial) rfl Tryd.underlying31 sz22 (by omega)) ?_; clear hS; intro a hS
            refine s_val hS (by decide) rfl rfl (r_loadR hS rfl (hr.keepGe hM trivial) (by omega) Tryd.underlying22 rfl) ?_; clear hS; intro a hS
            refine s_val hS (by decide) rfl rfl (r_move hS rfl) ?_; clear hS; intro a hS
            refine s_pure hS hM (by decide) rfl (gord_ok _ _ _) ?_; clear hS hM; intro a w hS hM
            refine s_val hS (by decide) rfl rfl (r_bv hS rfl (show ev _ _ = some (.int .i64 0) from rfl) gZ ((b_lssZ _ _ _).trans (by rw [low_no hk1 hn]))) ?_; clear hS; intro a hS
            refine s_val hS (by decide) rfl rfl (r_move hS rfl) ?_; clear hS; intro a hS
            refine s_valg hS (by decide) rfl rfl rfl rfl rfl (r_move hS rfl) ?_; clear hS; intro a hS
            refine s_valg hS (by decide) rfl rfl rfl rfl rfl (r_move hS rfl) ?_; clear hS; intro a hS
            refine s_valg hS (by decide) rfl rfl rfl rfl rfl (r_indexR hS rfl (hr.keepGe hM trivial) rfl Tryd.underlying31 sz22 (by omega)) ?_; clear hS; intro a hS
            refine s_valg hS (by decide) rfl rfl rfl rfl rfl (r_loadR hS rfl (hr.keepGe hM trivial) (by omega) Tryd.underlying22 rfl) ?_; clear hS; intro a hS
            refine s_valg hS (by decide) rfl rfl rfl rfl rfl (r_move hS rfl) ?_; clear hS; intro a hS
            refine s_pureg hS hM (by decide) rfl rfl rfl rfl (gord_ok _ _ _) ?_; clear hS hM; intro a w hS hM
            refine s_valg hS (by decide) rfl rfl rfl rfl rfl (r_bv hS rfl (show ev _ _ = some (.int .i64 0) from rfl) gZ ((b_gtrZ _ _ _).trans (by rw [high_no hk1 hn]))) ?_; clear hS; intro a hS
            refine s_val hS (by decide) rfl rfl (r_pick hS rfl rfl) ?_; clear hS; intro a hS
            refine s_nil ?_
            refine k_seq ?_
            refine c_false hS rfl rfl ?_
            refine c_skip ?_
            refine k_in ?_
            refine k_seq ?_
            refine c_region ?_
            refine s_val hS (by decide) rfl rfl (r_move hS rfl) ?_; clear hS; intro a hS
            refine s_val hS (by decide) rfl rfl (r_bv hS rfl (show ev _ _ = some (N 1) from rfl) gN (b_addN _ _ _ (by omega))) ?_; clear hS; intro a hS
            refine s_val hS (by decide) rfl rfl (r_assign hS rfl) ?_; clear hS; intro a hS
            refine s_nil ?_
            refine k_then ?_
            refine ⟨k + 1, by omega, by omega, hS.to _ ⟨rfl, rfl, rfl, congrArg (fun q => some (Value.bool q)) (by first | exact sm_no hn | exact sm_yes hn), congrArg (fun q => some (Value.bool q)) (by first | exact att_no hn | exact att_had hl | exact att_new hl hn), congrArg (fun q => some (Value.bool q)) (by first | exact att_no hn | exact att_had hh | exact att_new hh hn), rfl, trivial⟩, hM⟩
    · have hkm : k = m := (by have := of_decide_eq_false hc; omega); rw [hkm] at hS
      refine c_exit ?_
      refine k_thenx ?_
      refine k_thenx ?_
      refine k_inx ?_
      refine k_seq ?_
      refine c_seq ?_
      refine c_region ?_
      refine s_val hS (by decide) rfl rfl (r_move hS rfl) ?_; clear hS; intro a hS
      refine s_tells hS hM (by decide) rfl (mean_ok _ (hr.keepGe hM trivial) hm) ?_; clear hS hM; intro a w v76 hv76 hS hM
      refine s_val hS (by decide) rfl rfl (r_assign hS rfl) ?_; clear hS; intro a hS
      refine s_nil ?_
      refine k_seq ?_
      refine c_seq ?_
      refine c_seq ?_
      refine c_region ?_
      refine s_val hS (by decide) rfl rfl (r_move hS rfl) ?_; clear hS; intro a hS
      refine s_val hS (by decide) rfl rfl (r_not hS rfl) ?_; clear hS; intro a hS
      refine s_nil ?_
      refine k_seq ?_
      refine c_cond hS rfl (fun hc => ?_) (fun hc => ?_)
      · have hsm : sm f m = false := (by simpa using hc); obtain ⟨rm, rfl, hrn⟩ := none_mean (sm_false hsm) hv76
        refine c_seq ?_
        refine c_region ?_
        refine s_val hS (by decide) rfl rfl (r_move hS rfl) ?_; clear hS; intro a hS
        refine s_val hS (by decide) rfl rfl (r_move hS rfl) ?_; clear hS; intro a hS
        refine s_val hS (by decide) rfl rfl (r_bv hS rfl rfl gF (b_neqFn _ (none_bs (sm_false hsm)))) ?_; clear hS; intro a hS
        refine s_val hS (by decide) rfl rfl (r_move hS rfl) ?_; clear hS; intro a hS
        refine s_valg hS (by decide) rfl rfl rfl rfl rfl (r_move hS rfl) ?_; clear hS; intro a hS
        refine s_valg hS (by decide) rfl rfl rfl rfl rfl (r_move hS rfl) ?_; clear hS; intro a hS
        refine s_valg hS (by decide) rfl rfl rfl rfl rfl (r_bv hS rfl rfl gF (b_neqFn _ (none_bs (sm_false hsm)))) ?_; clear hS; intro a hS
        refine s_val hS (by decide) rfl rfl (r_pick hS rfl rfl) ?_; clear hS; intro a hS
        refine s_val hS (by decide) rfl rfl (r_move hS rfl) ?_; clear hS; intro a hS
        refine s_valg hS (by decide) rfl rfl rfl rfl rfl (r_move hS rfl) ?_; clear hS; intro a hS
        refine s_valg hS (by decide) rfl rfl rfl rfl rfl (r_move hS rfl) ?_; clear hS; intro a hS
        refine s_valg hS (by decide) rfl rfl rfl rfl rfl (r_bv hS rfl rfl gF (b_neqFn _ hrn)) ?_; clear hS; intro a hS
        refine s_val hS (by decide) rfl rfl (r_pick hS rfl rfl) ?_; clear hS; intro a hS
        refine s_val hS (by decide) rfl rfl (r_assign hS rfl) ?_; clear hS; intro a hS
        refine s_nil ?_
        refine k_seq ?_
        refine c_ret ?_
        refine k_thenr ?_
        exact k_res1 hS rfl (RV.tmp rfl) ⟨rfl, hM.done trivial⟩
      · have hsm : sm f m = true := by simpa using hc
        refine c_skip ?_
        refine k_seq ?_
        refine c_seq ?_
        have e1 := low_at hsm; have e2 := high_at hsm; rw [e1, e2] at hS; all_goals skip
        · skip
          refine c_region ?_
          refine s_val hS (by decide) rfl rfl (r_move hS rfl) ?_; clear hS; intro a hS
          refine s_val hS (by decide) rfl rfl (r_move hS rfl) ?_; clear hS; intro a hS
          refine s_valg hS (by decide) rfl rfl rfl rfl rfl (r_move hS rfl) ?_; clear hS; intro a hS
          refine s_val hS (by decide) rfl rfl (r_pick hS rfl rfl) ?_; clear hS; intro a hS
          refine s_val hS (by decide) rfl rfl (r_assign hS rfl) ?_; clear hS; intro a hS
          refine s_nil ?_
          refine k_seq ?_
          refine c_ret ?_
          exact k_res1 hS rfl (RV.tmp rfl) ⟨rfl, hM.done trivial⟩
end Go.Proofs.YtbfiaoemoookcaaDoor
