/- The walks of the decimal print of whole numbers and of thousandths. Printed by a program of mine (walk.py). -/
import Derived.Test.YtbfiaoemoookcaaDoorGmul
namespace Go.Proofs.YtbfiaoemoookcaaDoor
open Go Go.Sym
attribute [local irreducible] dsF blen nd

theorem rep_ok (k : Nat) (h : 1 ≤ k ∧ k ≤ 3) (w0 : World) : Pure Tryd.prog 38 #[SV [48], N k] w0 (SV (List.replicate k 48)) := by
  obtain rfl | rfl | rfl : k = 1 ∨ k = 2 ∨ k = 3 := by omega
  · exact rep1_ok w0
  · exact rep2_ok w0
  · exact rep3_ok w0
theorem zero66 : Zero Tryd.prog 66 (cB 24 (fun _ => 0)) := fun _ => by kernel_rfl

set_option maxRecDepth 100000 in
theorem fmt40_ok (w0 : World) (hG : PW w0) (n : Nat) (hn : n < 18446744073709551616) : Pure Tryd.prog 40 #[X n, N 10] w0 (SV (ds n)) := by
  refine ⟨by kernel_rfl, ?_⟩
  refine calls_sym Tryd.func40 rfl (by kernel_rfl) ?_
  intro a hS
  have hM : Mem w0 w0 [] := Mem.refl w0
  refine c_seq ?_
  refine c_region ?_
  refine s_val hS (by decide) rfl rfl (r_assign hS (show ev _ _ = some (SV []) from rfl)) ?_; clear hS; intro a hS
  refine s_nil ?_
  refine k_seq ?_
  refine c_seq ?_
  refine c_seq ?_
  refine c_region ?_
  refine s_val hS (by decide) rfl rfl (r_move hS rfl) ?_; clear hS; intro a hS
  refine s_val hS (by decide) rfl rfl (r_bv hS rfl (show ev _ _ = some (N 10) from rfl) gN (b_eqlN _ _ _)) ?_; clear hS; intro a hS
  refine s_nil ?_
  refine k_seq ?_
  refine c_true hS rfl rfl ?_
  refine c_seq ?_
  refine c_seq ?_
  refine c_region ?_
  refine s_val hS (by decide) rfl rfl (r_move hS rfl) ?_; clear hS; intro a hS
  refine s_val hS (by decide) rfl rfl (r_bv hS rfl (show ev _ _ = some (X 100) from rfl) gX (b_lssX _ _ _)) ?_; clear hS; intro a hS
  refine s_nil ?_
  refine k_seq ?_
  refine c_cond hS rfl (fun hc => ?_) (fun hc => ?_)
  · have h12 := of_decide_eq_true hc
    refine c_seq ?_
    refine c_region ?_
    refine s_val hS (by decide) rfl rfl (r_move hS rfl) ?_; clear hS; intro a hS
    refine s_val hS (by decide) rfl rfl (r_conv hS rfl (by kernel_rfl) Tryd.underlying3 (cv_XN _ (by omega))) ?_; clear hS; intro a hS
    refine s_pure hS hM (by decide) rfl (small_ok _ _ (by omega)) ?_; clear hS hM; intro a w hS hM
    refine s_val hS (by decide) rfl rfl (r_assign hS rfl) ?_; clear hS; intro a hS
    refine s_nil ?_
    refine k_seq ?_
    refine c_ret ?_
    refine k_thenr ?_
    refine k_thenr ?_
    exact k_res1 hS rfl (RV.tmp rfl) ⟨(by first | rfl | exact congrArg (fun q => Ending.returned (SV q)) (bl_mk _ hd2 hd1 hd3 hd4)), hM.done trivial⟩
  · have h12 := of_decide_eq_false hc; obtain ⟨hd1, hd2, hd3, hd4⟩ := nd_spec hn (by omega)
    refine c_skip ?_
    refine k_seq ?_
    refine c_seq ?_
    refine c_region ?_
    refine s_alloc hS hM (by decide) zero66 ?_; clear hS hM; intro a b5 w hb5 hS hM
    refine s_nil ?_
    refine k_seq ?_
    refine c_seq ?_
    refine c_region ?_
    refine s_val hS (by decide) rfl rfl (r_move hS rfl) ?_; clear hS; intro a hS
    refine s_pure hS hM (by decide) rfl (numDigits_ok _ (hG.keep hM ⟨hb5, trivial⟩) n hn) ?_; clear hS hM; intro a w hS hM
    refine s_val hS (by decide) rfl rfl (r_assign hS rfl) ?_; clear hS; intro a hS
    refine s_nil ?_
    refine k_seq ?_
    refine c_seq ?_
    refine c_region ?_
    refine s_val hS (by decide) rfl rfl (r_move hS rfl) ?_; clear hS; intro a hS
    refine s_val hS (by decide) rfl rfl (r_sliceF hS rfl rfl Tryd.underlying66 sz5 (by omega) (by decide)) ?_; clear hS; intro a hS
    refine s_val hS (by decide) rfl rfl (r_move hS rfl) ?_; clear hS; intro a hS
    refine s_wrote hS hM (by decide) rfl (j := 0) rfl (fmt10_ok _ n (nd n) hd3 hd1 hn _ (hM.block (j := 0) rfl)) ?_; clear hS hM; intro a w hS hM
    refine s_nil ?_
    refine k_seq ?_
    refine c_seq ?_
    refine c_region ?_
    refine s_val hS (by decide) rfl rfl (r_move hS rfl) ?_; clear hS; intro a hS
    refine s_val hS (by decide) rfl rfl (r_sliceF hS rfl rfl Tryd.underlying66 sz5 (by omega) (by decide)) ?_; clear hS; intro a hS
    refine s_val hS (by decide) rfl rfl (r_convS hS rfl (Rd.of_mem hM (j := 0) rfl (by omega) (fun i hi => by rw [Nat.zero_add]; exact cells_get (by omega))) Tryd.underlying56 Tryd.underlying5 Tryd.underlying9) ?_; clear hS; intro a hS
    refine s_val hS (by decide) rfl rfl (r_assign hS rfl) ?_; clear hS; intro a hS
    refine s_nil ?_
    refine k_seq ?_
    refine c_ret ?_
    refine k_thenr ?_
    exact k_res1 hS rfl (RV.tmp rfl) ⟨(by first | rfl | exact congrArg (fun q => Ending.returned (SV q)) (bl_mk _ hd2 hd1 hd3 hd4)), hM.done ⟨hb5, trivial⟩⟩

set_option maxRecDepth 100000 in
theorem fmt37_ok (w0 : World) (hG : PW w0) (n : Nat) (hn : n < 18446744073709551616) : Pure Tryd.prog 37 #[X n, N 10] w0 (SV (ds n)) := by
  refine ⟨by kernel_rfl, ?_⟩
  refine calls_sym Tryd.func37 rfl (by kernel_rfl) ?_
  intro a hS
  have hM : Mem w0 w0 [] := Mem.refl w0
  refine c_seq ?_
  refine c_region ?_
  refine s_val hS (by decide) rfl rfl (r_assign hS (show ev _ _ = some (SV []) from rfl)) ?_; clear hS; intro a hS
  refine s_nil ?_
  refine k_seq ?_
  refine c_seq ?_
  refine c_region ?_
  refine s_val hS (by decide) rfl rfl (r_move hS rfl) ?_; clear hS; intro a hS
  refine s_val hS (by decide) rfl rfl (r_move hS rfl) ?_; clear hS; intro a hS
  refine s_pure hS hM (by decide) rfl (fmt40_ok _ (hG.keep hM trivial) _ hn) ?_; clear hS hM; intro a w hS hM
  refine s_val hS (by decide) rfl rfl (r_assign hS rfl) ?_; clear hS; intro a hS
  refine s_nil ?_
  refine k_seq ?_
  refine c_ret ?_
  exact k_res1 hS rfl (RV.tmp rfl) ⟨rfl, hM.done trivial⟩

set_option maxRecDepth 100000 in
theorem thou_ok (w0 : World) (hG : PW w0) (n : Nat) (hn : n < 18446744073709551616) : Pure Tryd.prog 30 #[X n] w0 (SV (th n)) := by
  refine ⟨by kernel_rfl, ?_⟩
  refine calls_sym Tryd.func30 rfl (by kernel_rfl) ?_
  intro a hS
  have hM : Mem w0 w0 [] := Mem.refl w0
  refine c_seq ?_
  refine c_region ?_
  refine s_val hS (by decide) rfl rfl (r_assign hS (show ev _ _ = some (SV []) from rfl)) ?_; clear hS; intro a hS
  refine s_nil ?_
  refine k_seq ?_
  refine c_seq ?_
  refine c_region ?_
  refine s_val hS (by decide) rfl rfl (r_move hS rfl) ?_; clear hS; intro a hS
  refine s_pure hS hM (by decide) (vs := [_, N 10]) rfl (fmt37_ok _ (hG.keep hM trivial) _ hn) ?_; clear hS hM; intro a w hS hM
  refine s_val hS (by decide) rfl rfl (r_assign hS rfl) ?_; clear hS; intro a hS
  refine s_nil ?_
  refine k_seq ?_
  refine c_seq ?_
  refine c_seq ?_
  refine c_region ?_
  refine s_val hS (by decide) rfl rfl (r_move hS rfl) ?_; clear hS; intro a hS
  refine s_val hS (by decide) rfl rfl (r_lenS hS rfl Tryd.underlying9) ?_; clear hS; intro a hS
  refine s_val hS (by decide) rfl rfl (r_bv hS rfl (show ev _ _ = some (N 3) from rfl) gN (b_leqN _ _ _)) ?_; clear hS; intro a hS
  refine s_nil ?_
  refine k_seq ?_
  refine c_cond hS rfl (fun hc => ?_) (fun hc => ?_)
  · have h8 := of_decide_eq_true hc; have hs := th_short (short_len hn h8)
    refine c_region ?_
    refine s_val hS (by decide) rfl rfl (r_move hS rfl) ?_; clear hS; intro a hS
    refine s_val hS (by decide) rfl rfl (r_lenS hS rfl Tryd.underlying9) ?_; clear hS; intro a hS
    refine s_val hS (by decide) rfl rfl (r_bv hS (show ev _ _ = some (N 4) from rfl) rfl gN (b_subN _ _ _ (by omega) (by decide))) ?_; clear hS; intro a hS
    refine s_pure hS hM (by decide) (vs := [SV [48], _]) rfl (rep_ok _ (by have := (ds_len n).1; omega) _) ?_; clear hS hM; intro a w hS hM
    refine s_val hS (by decide) rfl rfl (r_move hS rfl) ?_; clear hS; intro a hS
    refine s_val hS (by decide) rfl rfl (r_addS hS rfl rfl (by rw [List.length_replicate]; omega) (ds_short n)) ?_; clear hS; intro a hS
    refine s_val hS (by decide) rfl rfl (r_assign hS rfl) ?_; clear hS; intro a hS
    rw [hs] at hS
    refine s_nil ?_
    refine k_seq ?_
    refine c_seq ?_
    refine c_plan 13 (fun w => Mem w0 w _) [(3, _)] (by kernel_rfl) (by kernel_rfl) hS ⟨rfl, trivial⟩ (hM.drawn _) ?_; clear hS hM
    refine p_step rfl (fun a w hS hM => y_val rfl (r_move hS rfl)) ?_
    refine p_step rfl (fun a w hS hM => y_val rfl (r_move hS rfl)) ?_
    refine p_step rfl (fun a w hS hM => y_val rfl (r_lenS hS rfl Tryd.underlying9)) ?_
    refine p_step rfl (fun a w hS hM => y_val rfl (r_bv hS rfl (show ev _ _ = some (N 3) from rfl) gN (b_subN _ _ _ (tl_ge n) (tl_lt n)))) ?_
    refine p_step rfl (fun a w hS hM => y_val rfl (r_partS hS rfl rfl ⟨_, rfl⟩ Tryd.underlying9 (Nat.zero_le _) (Nat.sub_le _ _))) ?_
    refine p_step rfl (fun a w hS hM => y_val rfl (r_addS hS rfl (show ev _ _ = some (SV [46]) from rfl) (part_len n _ _) (by decide))) ?_
    refine p_step rfl (fun a w hS hM => y_val rfl (r_move hS rfl)) ?_
    refine p_step rfl (fun a w hS hM => y_val rfl (r_move hS rfl)) ?_
    refine p_step rfl (fun a w hS hM => y_val rfl (r_lenS hS rfl Tryd.underlying9)) ?_
    refine p_step rfl (fun a w hS hM => y_val rfl (r_bv hS rfl (show ev _ _ = some (N 3) from rfl) gN (b_subN _ _ _ (tl_ge n) (tl_lt n)))) ?_
    refine p_step rfl (fun a w hS hM => y_val rfl (r_partS hS rfl ⟨_, rfl⟩ rfl Tryd.underlying9 (Nat.sub_le _ _) (Nat.le_refl _))) ?_
    refine p_step rfl (fun a w hS hM => y_val rfl (r_addS hS rfl rfl (part_dot n _ _) (part_len n _ _))) ?_
    refine p_step rfl (fun a w hS hM => y_val rfl (r_assign hS rfl)) ?_
    refine p_nil rfl ?_; intro a w hS hM
    refine s_nil ?_
    refine k_seq ?_
    refine c_ret ?_
    exact k_res1 hS rfl (RV.tmp rfl) ⟨(congrArg (fun q => Ending.returned (SV q)) (th_eq n)), hM.done trivial⟩
  · have h8 := of_decide_eq_false hc; rw [th_long (long_len hn h8) hn] at hS
    refine c_skip ?_
    refine k_seq ?_
    refine c_seq ?_
    refine c_plan 13 (fun w => Mem w0 w _) [(3, _)] (by kernel_rfl) (by kernel_rfl) hS ⟨rfl, trivial⟩ (hM.drawn _) ?_; clear hS hM
    refine p_step rfl (fun a w hS hM => y_val rfl (r_move hS rfl)) ?_
    refine p_step rfl (fun a w hS hM => y_val rfl (r_move hS rfl)) ?_
    refine p_step rfl (fun a w hS hM => y_val rfl (r_lenS hS rfl Tryd.underlying9)) ?_
    refine p_step rfl (fun a w hS hM => y_val rfl (r_bv hS rfl (show ev _ _ = some (N 3) from rfl) gN (b_subN _ _ _ (tl_ge n) (tl_lt n)))) ?_
    refine p_step rfl (fun a w hS hM => y_val rfl (r_partS hS rfl rfl ⟨_, rfl⟩ Tryd.underlying9 (Nat.zero_le _) (Nat.sub_le _ _))) ?_
    refine p_step rfl (fun a w hS hM => y_val rfl (r_addS hS rfl (show ev _ _ = some (SV [46]) from rfl) (part_len n _ _) (by decide))) ?_
    refine p_step rfl (fun a w hS hM => y_val rfl (r_move hS rfl)) ?_
    refine p_step rfl (fun a w hS hM => y_val rfl (r_move hS rfl)) ?_
    refine p_step rfl (fun a w hS hM => y_val rfl (r_lenS hS rfl Tryd.underlying9)) ?_
    refine p_step rfl (fun a w hS hM => y_val rfl (r_bv hS rfl (show ev _ _ = some (N 3) from rfl) gN (b_subN _ _ _ (tl_ge n) (tl_lt n)))) ?_
    refine p_step rfl (fun a w hS hM => y_val rfl (r_partS hS rfl ⟨_, rfl⟩ rfl Tryd.underlying9 (Nat.sub_le _ _) (Nat.le_refl _))) ?_
    refine p_step rfl (fun a w hS hM => y_val rfl (r_addS hS rfl rfl (part_dot n _ _) (part_len n _ _))) ?_
    refine p_step rfl (fun a w hS hM => y_val rfl (r_assign hS rfl)) ?_
    refine p_nil rfl ?_; intro a w hS hM
    refine s_nil ?_
    refine k_seq ?_
    refine c_ret ?_
    exact k_res1 hS rfl (RV.tmp rfl) ⟨(congrArg (fun q => Ending.returned (SV q)) (th_eq n)), hM.done trivial⟩

set_option maxRecDepth 100000 in
theorem dec_ok (w0 : World) (n : Nat) (hn : n < 9223372036854775808) : Pure Tryd.prog 31 #[N n] w0 (SV (ds n)) := by
  revert hn; revert w0; induction n using Nat.strongRecOn; rename_i n ih; intro w0 hn
  refine ⟨by kernel_rfl, ?_⟩
  refine calls_sym Tryd.func31 rfl (by kernel_rfl) ?_
  intro a hS
  have hM : Mem w0 w0 [] := Mem.refl w0
  refine c_seq ?_
  refine c_region ?_
  refine s_val hS (by decide) rfl rfl (r_assign hS (show ev _ _ = some (SV []) from rfl)) ?_; clear hS; intro a hS
  refine s_nil ?_
  refine k_seq ?_
  refine c_seq ?_
  refine c_region ?_
  refine s_val hS (by decide) rfl rfl (r_move hS rfl) ?_; clear hS; intro a hS
  refine s_val hS (by decide) rfl rfl (r_bv hS rfl (show ev _ _ = some (N 10) from rfl) gN (b_remN _ _ _ (by omega))) ?_; clear hS; intro a hS
  refine s_val hS (by decide) rfl rfl (r_move hS rfl) ?_; clear hS; intro a hS
  refine s_val hS (by decide) rfl rfl (r_bv hS rfl (show ev _ _ = some (N 10) from rfl) gN (b_remN _ _ _ (by omega))) ?_; clear hS; intro a hS
  refine s_val hS (by decide) rfl rfl (r_bv hS rfl (show ev _ _ = some (N 1) from rfl) gN (b_addN _ _ _ (by omega))) ?_; clear hS; intro a hS
  refine s_val hS (by decide) rfl rfl (r_partS hS (show ev _ _ = some (SV dig) from rfl) ⟨_, rfl⟩ ⟨_, rfl⟩ Tryd.underlying9 (by omega) (by show n % 10 + 1 ≤ 10; omega)) ?_; clear hS; intro a hS
  refine s_val hS (by decide) rfl rfl (r_assign hS rfl) ?_; clear hS; intro a hS
  rw [dig_at n] at hS
  refine s_nil ?_
  refine k_seq ?_
  refine c_seq ?_
  refine c_seq ?_
  refine c_region ?_
  refine s_val hS (by decide) rfl rfl (r_move hS rfl) ?_; clear hS; intro a hS
  refine s_val hS (by decide) rfl rfl (r_bv hS rfl (show ev _ _ = some (N 9) from rfl) gN (b_gtrN _ _ _)) ?_; clear hS; intro a hS
  refine s_nil ?_
  refine k_seq ?_
  refine c_cond hS rfl (fun hc => ?_) (fun hc => ?_)
  · have h11 := of_decide_eq_true hc
    refine c_seq ?_
    refine c_region ?_
    refine s_val hS (by decide) rfl rfl (r_move hS rfl) ?_; clear hS; intro a hS
    refine s_val hS (by decide) rfl rfl (r_bv hS rfl (show ev _ _ = some (N 10) from rfl) gN (b_quoN _ _ _ (by omega) (by omega))) ?_; clear hS; intro a hS
    refine s_pure hS hM (by decide) rfl (ih _ (by omega) _ (by omega)) ?_; clear hS hM; intro a w hS hM
    refine s_val hS (by decide) rfl rfl (r_move hS rfl) ?_; clear hS; intro a hS
    refine s_val hS (by decide) rfl rfl (r_addS hS rfl rfl (ds_short _) (by show 1 ≤ _; decide)) ?_; clear hS; intro a hS
    refine s_val hS (by decide) rfl rfl (r_assign hS rfl) ?_; clear hS; intro a hS
    refine s_nil ?_
    refine k_seq ?_
    refine c_ret ?_
    refine k_thenr ?_
    exact k_res1 hS rfl (RV.tmp rfl) ⟨(congrArg (fun q => Ending.returned (SV q)) (by first | exact (ds_step (by omega) (by omega)).symm | exact (ds_small (by omega)).symm)), hM.done trivial⟩
  · have h11 := of_decide_eq_false hc
    refine c_skip ?_
    refine k_seq ?_
    refine c_seq ?_
    refine c_region ?_
    refine s_val hS (by decide) rfl rfl (r_move hS rfl) ?_; clear hS; intro a hS
    refine s_val hS (by decide) rfl rfl (r_assign hS rfl) ?_; clear hS; intro a hS
    refine s_nil ?_
    refine k_seq ?_
    refine c_ret ?_
    exact k_res1 hS rfl (RV.tmp rfl) ⟨(congrArg (fun q => Ending.returned (SV q)) (by first | exact (ds_step (by omega) (by omega)).symm | exact (ds_small (by omega)).symm)), hM.done trivial⟩
end Go.Proofs.YtbfiaoemoookcaaDoor
