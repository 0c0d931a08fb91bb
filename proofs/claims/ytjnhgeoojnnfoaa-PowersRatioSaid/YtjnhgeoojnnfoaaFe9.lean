/- The walks through the definition of chapter 9. Printed by a program of mine (walk.py). -/
import Derived.Test.YtjnhgeoojnnfoaaFe4
import Derived.Test.YtjnhgeoojnnfoaaFe10
namespace Go.Proofs.Ytjnhgeoojnnfoaa
open Go Go.Sym

theorem sz2 : (Try.prog.info? 2).map (·.size) = some 1 := by kernel_rfl
theorem sz37 : (Try.prog.info? 37).map (·.size) = some 16 := by kernel_rfl
theorem sz67 : (Try.prog.info? 67).map (·.size) = some 32 := by kernel_rfl
theorem zero37 : Zero Try.prog 37 (cI 16 (fun _ => 0)) := fun _ => by kernel_rfl
theorem zero67 : Zero Try.prog 67 (cI 32 (fun _ => 0)) := fun _ => by kernel_rfl

set_option maxRecDepth 100000 in
theorem prime_ok  (w0 : World) : Pure Try.prog 48 #[] w0 (.agg (cI 16 (dig pP)).toArray) := by
  refine ⟨by kernel_rfl, ?_⟩
  refine calls_sym Try.func48 rfl (by kernel_rfl) ?_
  intro a hS
  have hM : Mem w0 w0 [] := Mem.refl w0
  refine c_seq ?_
  refine c_region ?_
  refine s_alloc hS hM (by decide) zero37 ?_; clear hS hM; intro a b0 w hb0 hS hM
  refine s_nil ?_
  refine k_seq ?_
  refine c_seq ?_
  refine c_region ?_
  refine s_val hS (by decide) rfl rfl (r_build hS rfl (cs := cI 16 (fun _ => 0)) (fun _ => by kernel_rfl)) ?_; clear hS; intro a hS
  refine s_alloc hS hM (by decide) zero37 ?_; clear hS hM; intro a b1 w hb1 hS hM
  refine s_storeAll hS hM rfl rfl (j := 0) rfl sz37 cells_len cells_len cI_one ?_; clear hS hM; intro a w hS hM
  refine s_nil ?_
  refine k_seq ?_
  refine c_seq ?_
  refine c_seq ?_
  refine c_region ?_
  refine s_val hS (by decide) rfl rfl (r_assign hS (show ev _ _ = some (N 0) from rfl)) ?_; clear hS; intro a hS
  refine s_nil ?_
  refine k_seq ?_
  refine c_block ?_
  refine c_loop (σ := Nat) (fun k a w => (k ≤ 16) ∧ Slots a 13 (env [(0, ptr b0 0), (1, ptr b1 0), (2, N k)]) ∧ Mem w0 w ([⟨b1, 37, cI 16 (fil 0 (fun _ => 65535#64) k)⟩, ⟨b0, 37, cI 16 (fun _ => 0)⟩])) (fun k => 16 - k) (0) ⟨by omega, hS.to _ ⟨rfl, rfl, rfl, trivial⟩, hM⟩ ?_
  clear hS hM; rintro k a w ⟨hk, hS, hM⟩
  refine c_seq ?_
  refine c_seq ?_
  refine c_region ?_
  refine s_val hS (by decide) rfl rfl (r_move hS rfl) ?_; clear hS; intro a hS
  refine s_val hS (by decide) rfl rfl (r_bv hS rfl (show ev _ _ = some (N 16) from rfl) gN (b_lssN _ _ _)) ?_; clear hS; intro a hS
  refine s_nil ?_
  refine k_seq ?_
  refine c_cond hS rfl (fun hc => ?_) (fun hc => ?_)
  · have hk1 := of_decide_eq_true hc
    refine c_skip ?_
    refine k_seq ?_
    refine c_seq ?_
    refine c_block ?_
    refine c_region ?_
    refine s_val hS (by decide) rfl rfl (r_move hS rfl) ?_; clear hS; intro a hS
    refine s_val hS (by decide) rfl rfl (r_index0 hS rfl rfl Try.underlying37 sz2 (by omega)) ?_; clear hS; intro a hS
    refine s_storeI hS hM rfl (show ev _ _ = some (I 65535#64) from rfl) (j := 0) rfl sz2 (by omega) ?_; clear hS hM; intro a w hS hM
    refine s_nil ?_
    refine k_in ?_
    refine k_seq ?_
    refine c_region ?_
    refine s_val hS (by decide) rfl rfl (r_move hS rfl) ?_; clear hS; intro a hS
    refine s_val hS (by decide) rfl rfl (r_bv hS rfl (show ev _ _ = some (N 1) from rfl) gN (b_addN _ _ _ (by omega))) ?_; clear hS; intro a hS
    refine s_val hS (by decide) rfl rfl (r_assign hS rfl) ?_; clear hS; intro a hS
    refine s_nil ?_
    refine k_then ?_
    refine ⟨k + 1, by omega, by omega, hS.to _ ⟨rfl, rfl, rfl, trivial⟩, hM⟩
  · obtain rfl : k = 16 := by have := of_decide_eq_false hc; omega
    refine c_exit ?_
    refine k_thenx ?_
    refine k_thenx ?_
    refine k_inx ?_
    refine k_seq ?_
    refine c_seq ?_
    refine c_region ?_
    refine s_val hS (by decide) rfl rfl (r_index0 hS rfl (show ev _ _ = some (.int .i64 ((0 : Nat) : Int)) from rfl) Try.underlying37 sz2 (by decide)) ?_; clear hS; intro a hS
    refine s_storeI hS hM rfl (show ev _ _ = some (I 65517#64) from rfl) (j := 0) rfl sz2 (by omega) ?_; clear hS hM; intro a w hS hM
    refine s_nil ?_
    refine k_seq ?_
    refine c_seq ?_
    refine c_region ?_
    refine s_val hS (by decide) rfl rfl (r_index0 hS rfl (show ev _ _ = some (.int .i64 ((15 : Nat) : Int)) from rfl) Try.underlying37 sz2 (by decide)) ?_; clear hS; intro a hS
    refine s_storeI hS hM rfl (show ev _ _ = some (I 32767#64) from rfl) (j := 0) rfl sz2 (by omega) ?_; clear hS hM; intro a w hS hM
    rw [top_digit] at hM
    refine s_nil ?_
    refine k_seq ?_
    refine c_seq ?_
    refine c_region ?_
    refine s_val hS (by decide) rfl rfl (r_loadAll hS hM rfl (j := 0) rfl Try.underlying37 rfl sz37 cells_len) ?_; clear hS; intro a hS
    refine s_storeAll hS hM rfl rfl (j := 1) rfl sz37 cells_len cells_len cI_one ?_; clear hS hM; intro a w hS hM
    refine s_nil ?_
    refine k_seq ?_
    refine c_ret ?_
    exact k_res1 hS rfl (RV.row rfl (hM.have_ _ (mem_of_get (j := 1) rfl)) Try.underlying37 rfl (by rw [sz37]; exact congrArg some cells_len.symm)) ⟨rfl, hM.done ⟨hb1, hb0, trivial⟩⟩

set_option maxRecDepth 100000 in
theorem below_ok (m n : Nat) (hm : m < 2 ^ (16 * 16)) (hn : n < 2 ^ (16 * 16)) (w0 : World) : Pure Try.prog 53 #[.agg (cI 16 (dig m)).toArray, .agg (cI 16 (dig n)).toArray] w0 (.bool (decide (m < n))) := by
  refine ⟨by kernel_rfl, ?_⟩
  refine calls_sym Try.func53 rfl (by kernel_rfl) ?_
  intro a hS
  have hM : Mem w0 w0 [] := Mem.refl w0
  refine c_seq ?_
  refine c_region ?_
  refine s_box hS hM (by decide) rfl rfl ?_; clear hS hM; intro a b2 w hb2 hS hM
  refine s_box hS hM (by decide) rfl rfl ?_; clear hS hM; intro a b3 w hb3 hS hM
  refine s_val hS (by decide) rfl rfl (r_assign hS rfl) ?_; clear hS; intro a hS
  refine s_nil ?_
  refine k_seq ?_
  refine c_seq ?_
  refine c_seq ?_
  refine c_region ?_
  refine s_val hS (by decide) rfl rfl (r_assign hS (show ev _ _ = some (N 15) from rfl)) ?_; clear hS; intro a hS
  refine s_nil ?_
  refine k_seq ?_
  refine c_block ?_
  refine c_loop (σ := Nat) (fun k a w => (k ≤ 16 ∧ ∀ i, k ≤ i → i < 16 → dig m i = dig n i) ∧ Slots a 24 (env [(2, ptr b2 0), (3, ptr b3 0), (5, .int .i64 ((k : Int) - 1))]) ∧ Mem w0 w ([⟨b3, 37, cI 16 (dig n)⟩, ⟨b2, 37, cI 16 (dig m)⟩])) (fun k => k) (16) ⟨⟨by omega, fun i h1 h2 => by omega⟩, hS.to _ ⟨rfl, rfl, rfl, trivial⟩, hM⟩ ?_
  clear hS hM; rintro k a w ⟨hk, hS, hM⟩
  refine c_seq ?_
  refine c_seq ?_
  refine c_region ?_
  refine s_val hS (by decide) rfl rfl (r_move hS rfl) ?_; clear hS; intro a hS
  refine s_val hS (by decide) rfl rfl (r_bv hS rfl (show ev _ _ = some (.int .i64 (0)) from rfl) gZ (b_geqZ _ _ _)) ?_; clear hS; intro a hS
  refine s_nil ?_
  refine k_seq ?_
  refine c_cond hS rfl (fun hc => ?_) (fun hc => ?_)
  · have hk1 := of_decide_eq_true hc; obtain ⟨j, rfl⟩ : ∃ j : Nat, k = j + 1 := ⟨k - 1, by omega⟩; rw [show ((j + 1 : Nat) : Int) - 1 = (j : Int) by omega] at hS
    refine c_skip ?_
    refine k_seq ?_
    refine c_seq ?_
    refine c_block ?_
    refine c_seq ?_
    refine c_plan 7 (fun w => Mem w0 w _) [(5, _), (2, _), (3, _), (6, _), (7, _)] (by kernel_rfl) (by kernel_rfl) hS ⟨rfl, rfl, rfl, rfl, rfl, trivial⟩ (hM.drawn _) ?_; clear hS hM
    refine p_step rfl (fun a w hS hM => y_val rfl (r_move hS rfl)) ?_
    refine p_step rfl (fun a w hS hM => y_val rfl (r_index0 hS rfl rfl Try.underlying37 sz2 (by omega))) ?_
    refine p_step rfl (fun a w hS hM => y_val rfl (r_load hS hM rfl (j := 1) rfl Try.underlying2 rfl (cells_get (by omega)))) ?_
    refine p_step rfl (fun a w hS hM => y_val rfl (r_move hS rfl)) ?_
    refine p_step rfl (fun a w hS hM => y_val rfl (r_index0 hS rfl rfl Try.underlying37 sz2 (by omega))) ?_
    refine p_step rfl (fun a w hS hM => y_val rfl (r_load hS hM rfl (j := 0) rfl Try.underlying2 rfl (cells_get (by omega)))) ?_
    refine p_step rfl (fun a w hS hM => y_val rfl (r_bv hS rfl rfl gI (b_neqI _ _ _))) ?_
    refine p_nil rfl ?_; intro a w hS hM
    refine s_nil ?_
    refine k_seq ?_
    refine c_cond hS rfl (fun hc => ?_) (fun hc => ?_)
    · have hk2 : dig m j ≠ dig n j := by simpa using hc
      refine c_seq ?_
      refine c_plan 8 (fun w => Mem w0 w _) [(5, _), (2, _), (3, _), (6, _), (7, _), (10, _), (11, _), (12, _), (13, _), (14, _), (15, _), (16, _)] (by kernel_rfl) (by kernel_rfl) hS ⟨rfl, rfl, rfl, rfl, rfl, rfl, rfl, rfl, rfl, rfl, rfl, rfl, trivial⟩ (hM.drawn _) ?_; clear hS hM
      refine p_step rfl (fun a w hS hM => y_val rfl (r_move hS rfl)) ?_
      refine p_step rfl (fun a w hS hM => y_val rfl (r_index0 hS rfl rfl Try.underlying37 sz2 (by omega))) ?_
      refine p_step rfl (fun a w hS hM => y_val rfl (r_load hS hM rfl (j := 1) rfl Try.underlying2 rfl (cells_get (by omega)))) ?_
      refine p_step rfl (fun a w hS hM => y_val rfl (r_move hS rfl)) ?_
      refine p_step rfl (fun a w hS hM => y_val rfl (r_index0 hS rfl rfl Try.underlying37 sz2 (by omega))) ?_
      refine p_step rfl (fun a w hS hM => y_val rfl (r_load hS hM rfl (j := 0) rfl Try.underlying2 rfl (cells_get (by omega)))) ?_
      refine p_step rfl (fun a w hS hM => y_val rfl (r_bv hS rfl rfl gI (b_lssI _ _ _))) ?_
      refine p_step rfl (fun a w hS hM => y_val rfl (r_assign hS rfl)) ?_
      refine p_nil rfl ?_; intro a w hS hM
      refine s_nil ?_
      refine k_seq ?_
      refine c_ret ?_
      refine k_inr ?_
      refine k_thenr ?_
      refine k_thenr ?_
      refine k_inr ?_
      refine k_thenr ?_
      exact k_res1 hS rfl (RV.tmp rfl) ⟨(congrArg (fun q => Ending.returned (.bool q)) (by first | exact below_at hm hn (fun i h1 h2 => hk.2 i (by omega) h2) hk2 (by omega) | exact below_end hm hn (fun i h2 => hk.2 i (by omega) h2))), hM.done ⟨hb3, hb2, trivial⟩⟩
    · have hk2 : dig m j = dig n j := by simpa using hc
      refine c_skip ?_
      refine k_in ?_
      refine k_seq ?_
      refine c_region ?_
      refine s_val hS (by decide) rfl rfl (r_move hS rfl) ?_; clear hS; intro a hS
      refine s_val hS (by decide) rfl rfl (r_bv hS rfl (show ev _ _ = some (.int .i64 (1)) from rfl) gZ (b_subZ _ _ _ (by omega))) ?_; clear hS; intro a hS
      refine s_val hS (by decide) rfl rfl (r_assign hS rfl) ?_; clear hS; intro a hS
      refine s_nil ?_
      refine k_then ?_
      refine ⟨j, by omega, ⟨by omega, fun i h1 h2 => by rcases Nat.lt_or_ge j i with h3 | h3; exact hk.2 i h3 h2; rw [show i = j by omega]; exact hk2⟩, hS.to _ ⟨rfl, rfl, rfl, trivial⟩, hM⟩
  · obtain rfl : k = 0 := by have := of_decide_eq_false hc; omega
    refine c_exit ?_
    refine k_thenx ?_
    refine k_thenx ?_
    refine k_inx ?_
    refine k_seq ?_
    refine c_seq ?_
    refine c_region ?_
    refine s_val hS (by decide) rfl rfl (r_assign hS rfl) ?_; clear hS; intro a hS
    refine s_nil ?_
    refine k_seq ?_
    refine c_ret ?_
    exact k_res1 hS rfl (RV.tmp rfl) ⟨(congrArg (fun q => Ending.returned (.bool q)) (by first | exact below_at hm hn (fun i h1 h2 => hk.2 i (by omega) h2) hk2 (by omega) | exact below_end hm hn (fun i h2 => hk.2 i (by omega) h2))), hM.done ⟨hb3, hb2, trivial⟩⟩

set_option maxRecDepth 100000 in
theorem norm_ok {f : Nat → BitVec 64} {b : Int} {T : Nat} (hb : 131072 ≤ b ∧ b ≤ 1152921504606846976) (hf : ∀ i, -b ≤ (f i).toInt ∧ (f i).toInt ≤ b) (hs : sumI f 16 = (T : Int)) (hT : T < 2 ^ 300) (w0 : World) : Pure Try.prog 47 #[.agg (cI 16 f).toArray] w0 (.agg (cI 16 (dig (T % pP))).toArray) := by
  obtain ⟨hn1, hn2⟩ := fold4 hT
  have hn4 := norm4 hb hf hs hT
  rw [← hn2]
  generalize foldK T 4 = n at *
  have hn16 : n < 2 ^ (16 * 16) := Nat.lt_trans hn1 (by decide +kernel)
  have hp16 : pP < 2 ^ (16 * 16) := by decide +kernel
  refine ⟨by kernel_rfl, ?_⟩
  refine calls_sym Try.func47 rfl (by kernel_rfl) ?_
  intro a hS
  have hM : Mem w0 w0 [] := Mem.refl w0
  refine c_seq ?_
  refine c_region ?_
  refine s_box hS hM (by decide) rfl rfl ?_; clear hS hM; intro a b1 w hb1 hS hM
  refine s_alloc hS hM (by decide) zero37 ?_; clear hS hM; intro a b2 w hb2 hS hM
  refine s_nil ?_
  refine k_seq ?_
  refine c_seq ?_
  refine c_seq ?_
  refine c_region ?_
  refine s_val hS (by decide) rfl rfl (r_assign hS (show ev _ _ = some (N 0) from rfl)) ?_; clear hS; intro a hS
  refine s_nil ?_
  refine k_seq ?_
  refine c_block ?_
  refine c_loop (σ := Nat) (fun k a w => (k ≤ 4) ∧ Slots a 110 (env [(1, ptr b1 0), (2, ptr b2 0), (3, N k)]) ∧ Mem w0 w ([⟨b2, 37, cI 16 (fun _ => 0)⟩, ⟨b1, 37, cI 16 (passD f k)⟩])) (fun k => 4 - k) (0) ⟨by omega, hS.to _ ⟨rfl, rfl, rfl, trivial⟩, hM⟩ ?_
  clear hS hM; rintro k a w ⟨hk, hS, hM⟩
  refine c_seq ?_
  refine c_seq ?_
  refine c_region ?_
  refine s_val hS (by decide) rfl rfl (r_move hS rfl) ?_; clear hS; intro a hS
  refine s_val hS (by decide) rfl rfl (r_bv hS rfl (show ev _ _ = some (N 4) from rfl) gN (b_lssN _ _ _)) ?_; clear hS; intro a hS
  refine s_nil ?_
  refine k_seq ?_
  refine c_cond hS rfl (fun hc => ?_) (fun hc => ?_)
  · have hk1 := of_decide_eq_true hc
    refine c_skip ?_
    refine k_seq ?_
    refine c_seq ?_
    refine c_block ?_
    refine c_seq ?_
    refine c_seq ?_
    refine c_region ?_
    refine s_val hS (by decide) rfl rfl (r_assign hS (show ev _ _ = some (N 0) from rfl)) ?_; clear hS; intro a hS
    refine s_nil ?_
    refine k_seq ?_
    refine c_block ?_
    refine c_loop (σ := Nat) (fun j a w => (j ≤ 15) ∧ Slots a 110 (env [(1, ptr b1 0), (2, ptr b2 0), (3, N k), (4, N j)]) ∧ Mem w0 w ([⟨b2, 37, cI 16 (fun _ => 0)⟩, ⟨b1, 37, cI 16 (nrmTo (passD f k) j)⟩])) (fun j => 15 - j) (0) ⟨by omega, hS.to _ ⟨rfl, rfl, rfl, rfl, trivial⟩, hM⟩ ?_
    clear hS hM; rintro j a w ⟨hk, hS, hM⟩
    refine c_seq ?_
    refine c_seq ?_
    refine c_region ?_
    refine s_val hS (by decide) rfl rfl (r_move hS rfl) ?_; clear hS; intro a hS
    refine s_val hS (by decide) rfl rfl (r_bv hS rfl (show ev _ _ = some (N 15) from rfl) gN (b_lssN _ _ _)) ?_; clear hS; intro a hS
    refine s_nil ?_
    refine k_seq ?_
    refine c_cond hS rfl (fun hc => ?_) (fun hc => ?_)
    · have hk1 := of_decide_eq_true hc
      refine c_skip ?_
      refine k_seq ?_
      refine c_seq ?_
      refine c_block ?_
      refine c_seq ?_
      refine c_plan 12 (fun w => Mem w0 w _) [(4, _), (1, _), (2, _), (3, _), (13, _), (14, _)] (by kernel_rfl) (by kernel_rfl) hS ⟨rfl, rfl, rfl, rfl, rfl, rfl, trivial⟩ (hM.drawn _) ?_; clear hS hM
      refine p_step rfl (fun a w hS hM => y_val rfl (r_move hS rfl)) ?_
      refine p_step rfl (fun a w hS hM => y_val rfl (r_bv hS rfl (show ev _ _ = some (N 1) from rfl) gN (b_addN _ _ _ (by omega)))) ?_
      refine p_step rfl (fun a w hS hM => y_val rfl (r_move hS rfl)) ?_
      refine p_step rfl (fun a w hS hM => y_val rfl (r_bv hS rfl (show ev _ _ = some (N 1) from rfl) gN (b_addN _ _ _ (by omega)))) ?_
      refine p_step rfl (fun a w hS hM => y_val rfl (r_index0 hS rfl rfl Try.underlying37 sz2 (by omega))) ?_
      refine p_step rfl (fun a w hS hM => y_val rfl (r_load hS hM rfl (j := 1) rfl Try.underlying2 rfl (cells_get (by omega)))) ?_
      refine p_step rfl (fun a w hS hM => y_val rfl (r_move hS rfl)) ?_
      refine p_step rfl (fun a w hS hM => y_val rfl (r_index0 hS rfl rfl Try.underlying37 sz2 (by omega))) ?_
      refine p_step rfl (fun a w hS hM => y_val rfl (r_load hS hM rfl (j := 1) rfl Try.underlying2 rfl (cells_get (by omega)))) ?_
      refine p_step rfl (fun a w hS hM => y_val rfl (r_bv hS rfl (show ev _ _ = some (.int .u64 ((16 : Nat) : Int)) from rfl) gI (b_shrI _ _ _ 16))) ?_
      refine p_step rfl (fun a w hS hM => y_val rfl (r_bv hS rfl rfl gI (b_addI _ _ _))) ?_
      refine p_step rfl (fun a w hS hM => y_val rfl (r_index0 hS rfl rfl Try.underlying37 sz2 (by omega))) ?_
      refine p_nil rfl ?_; intro a w hS hM
      refine s_storeI hS hM rfl rfl (j := 1) rfl sz2 (by omega) ?_; clear hS hM; intro a w hS hM
      refine s_nil ?_
      refine k_seq ?_
      refine c_region ?_
      refine s_val hS (by decide) rfl rfl (r_move hS rfl) ?_; clear hS; intro a hS
      refine s_val hS (by decide) rfl rfl (r_move hS rfl) ?_; clear hS; intro a hS
      refine s_val hS (by decide) rfl rfl (r_index0 hS rfl rfl Try.underlying37 sz2 (by omega)) ?_; clear hS; intro a hS
      refine s_val hS (by decide) rfl rfl (r_load hS hM rfl (j := 1) rfl Try.underlying2 rfl (cells_get (by omega))) ?_; clear hS; intro a hS
      refine s_val hS (by decide) rfl rfl (r_bv hS rfl (show ev _ _ = some (I 65535#64) from rfl) gI (b_andI _ _ _)) ?_; clear hS; intro a hS
      refine s_val hS (by decide) rfl rfl (r_index0 hS rfl rfl Try.underlying37 sz2 (by omega)) ?_; clear hS; intro a hS
      refine s_storeI hS hM rfl rfl (j := 1) rfl sz2 (by omega) ?_; clear hS hM; intro a w hS hM
      refine s_nil ?_
      refine k_in ?_
      refine k_seq ?_
      refine c_region ?_
      refine s_val hS (by decide) rfl rfl (r_move hS rfl) ?_; clear hS; intro a hS
      refine s_val hS (by decide) rfl rfl (r_bv hS rfl (show ev _ _ = some (N 1) from rfl) gN (b_addN _ _ _ (by omega))) ?_; clear hS; intro a hS
      refine s_val hS (by decide) rfl rfl (r_assign hS rfl) ?_; clear hS; intro a hS
      refine s_nil ?_
      refine k_then ?_
      refine ⟨j + 1, by omega, by omega, hS.to _ ⟨rfl, rfl, rfl, rfl, trivial⟩, (hM.congr (by rw [upd_ne _ _ (show j ≠ j + 1 by omega)]; rfl))⟩
    · obtain rfl : j = 15 := by have := of_decide_eq_false hc; omega
      refine c_exit ?_
      refine k_thenx ?_
      refine k_thenx ?_
      refine k_inx ?_
      refine k_seq ?_
      refine c_seq ?_
      refine c_region ?_
      refine s_val hS (by decide) rfl rfl (r_index0 hS rfl (show ev _ _ = some (.int .i64 ((0 : Nat) : Int)) from rfl) Try.underlying37 sz2 (by decide)) ?_; clear hS; intro a hS
      refine s_val hS (by decide) rfl rfl (r_load hS hM rfl (j := 1) rfl Try.underlying2 rfl (cells_get (by omega))) ?_; clear hS; intro a hS
      refine s_val hS (by decide) rfl rfl (r_index0 hS rfl (show ev _ _ = some (.int .i64 ((15 : Nat) : Int)) from rfl) Try.underlying37 sz2 (by decide)) ?_; clear hS; intro a hS
      refine s_val hS (by decide) rfl rfl (r_load hS hM rfl (j := 1) rfl Try.underlying2 rfl (cells_get (by omega))) ?_; clear hS; intro a hS
      refine s_val hS (by decide) rfl rfl (r_bv hS rfl (show ev _ _ = some (.int .u64 ((15 : Nat) : Int)) from rfl) gI (b_shrI _ _ _ 15)) ?_; clear hS; intro a hS
      refine s_val hS (by decide) rfl rfl (r_bv hS (show ev _ _ = some (I 19#64) from rfl) rfl gI (b_mulI _ _ _)) ?_; clear hS; intro a hS
      refine s_val hS (by decide) rfl rfl (r_bv hS rfl rfl gI (b_addI _ _ _)) ?_; clear hS; intro a hS
      refine s_val hS (by decide) rfl rfl (r_index0 hS rfl (show ev _ _ = some (.int .i64 ((0 : Nat) : Int)) from rfl) Try.underlying37 sz2 (by decide)) ?_; clear hS; intro a hS
      refine s_storeI hS hM rfl rfl (j := 1) rfl sz2 (by omega) ?_; clear hS hM; intro a w hS hM
      refine s_nil ?_
      refine k_seq ?_
      refine c_region ?_
      refine s_val hS (by decide) rfl rfl (r_index0 hS rfl (show ev _ _ = some (.int .i64 ((15 : Nat) : Int)) from rfl) Try.underlying37 sz2 (by decide)) ?_; clear hS; intro a hS
      refine s_val hS (by decide) rfl rfl (r_load hS hM rfl (j := 1) rfl Try.underlying2 rfl (cells_get (by omega))) ?_; clear hS; intro a hS
      refine s_val hS (by decide) rfl rfl (r_bv hS rfl (show ev _ _ = some (I 32767#64) from rfl) gI (b_andI _ _ _)) ?_; clear hS; intro a hS
      refine s_val hS (by decide) rfl rfl (r_index0 hS rfl (show ev _ _ = some (.int .i64 ((15 : Nat) : Int)) from rfl) Try.underlying37 sz2 (by decide)) ?_; clear hS; intro a hS
      refine s_storeI hS hM rfl rfl (j := 1) rfl sz2 (by omega) ?_; clear hS hM; intro a w hS hM
      refine s_nil ?_
      refine k_in ?_
      refine k_seq ?_
      refine c_region ?_
      refine s_val hS (by decide) rfl rfl (r_move hS rfl) ?_; clear hS; intro a hS
      refine s_val hS (by decide) rfl rfl (r_bv hS rfl (show ev _ _ = some (N 1) from rfl) gN (b_addN _ _ _ (by omega))) ?_; clear hS; intro a hS
      refine s_val hS (by decide) rfl rfl (r_assign hS rfl) ?_; clear hS; intro a hS
      refine s_nil ?_
      refine k_then ?_
      refine ⟨k + 1, by omega, by omega, hS.to _ ⟨rfl, rfl, rfl, trivial⟩, hM⟩
  · obtain rfl : k = 4 := by have := of_decide_eq_false hc; omega
    refine c_exit ?_
    refine k_thenx ?_
    refine k_thenx ?_
    refine k_inx ?_
    refine k_seq ?_
    refine c_seq ?_
    refine c_seq ?_
    refine c_region ?_
    refine s_val hS (by decide) rfl rfl (r_assign hS (show ev _ _ = some (N 0) from rfl)) ?_; clear hS; intro a hS
    refine s_nil ?_
    refine k_seq ?_
    refine c_block ?_
    refine c_loop (σ := Nat) (fun j a w => (j ≤ 15) ∧ Slots a 110 (env [(1, ptr b1 0), (2, ptr b2 0), (5, N j)]) ∧ Mem w0 w ([⟨b2, 37, cI 16 (fun _ => 0)⟩, ⟨b1, 37, cI 16 (nrmTo (passD f 4) j)⟩])) (fun j => 15 - j) (0) ⟨by omega, hS.to _ ⟨rfl, rfl, rfl, trivial⟩, hM⟩ ?_
    clear hS hM; rintro j a w ⟨hk, hS, hM⟩
    refine c_seq ?_
    refine c_seq ?_
    refine c_region ?_
    refine s_val hS (by decide) rfl rfl (r_move hS rfl) ?_; clear hS; intro a hS
    refine s_val hS (by decide) rfl rfl (r_bv hS rfl (show ev _ _ = some (N 15) from rfl) gN (b_lssN _ _ _)) ?_; clear hS; intro a hS
    refine s_nil ?_
    refine k_seq ?_
    refine c_cond hS rfl (fun hc => ?_) (fun hc => ?_)
    · have hk1 := of_decide_eq_true hc
      refine c_skip ?_
      refine k_seq ?_
      refine c_seq ?_
      refine c_block ?_
      refine c_seq ?_
      refine c_plan 12 (fun w => Mem w0 w _) [(5, _), (1, _), (2, _), (47, _), (48, _)] (by kernel_rfl) (by kernel_rfl) hS ⟨rfl, rfl, rfl, rfl, rfl, trivial⟩ (hM.drawn _) ?_; clear hS hM
      refine p_step rfl (fun a w hS hM => y_val rfl (r_move hS rfl)) ?_
      refine p_step rfl (fun a w hS hM => y_val rfl (r_bv hS rfl (show ev _ _ = some (N 1) from rfl) gN (b_addN _ _ _ (by omega)))) ?_
      refine p_step rfl (fun a w hS hM => y_val rfl (r_move hS rfl)) ?_
      refine p_step rfl (fun a w hS hM => y_val rfl (r_bv hS rfl (show ev _ _ = some (N 1) from rfl) gN (b_addN _ _ _ (by omega)))) ?_
      refine p_step rfl (fun a w hS hM => y_val rfl (r_index0 hS rfl rfl Try.underlying37 sz2 (by omega))) ?_
      refine p_step rfl (fun a w hS hM => y_val rfl (r_load hS hM rfl (j := 1) rfl Try.underlying2 rfl (cells_get (by omega)))) ?_
      refine p_step rfl (fun a w hS hM => y_val rfl (r_move hS rfl)) ?_
      refine p_step rfl (fun a w hS hM => y_val rfl (r_index0 hS rfl rfl Try.underlying37 sz2 (by omega))) ?_
      refine p_step rfl (fun a w hS hM => y_val rfl (r_load hS hM rfl (j := 1) rfl Try.underlying2 rfl (cells_get (by omega)))) ?_
      refine p_step rfl (fun a w hS hM => y_val rfl (r_bv hS rfl (show ev _ _ = some (.int .u64 ((16 : Nat) : Int)) from rfl) gI (b_shrI _ _ _ 16))) ?_
      refine p_step rfl (fun a w hS hM => y_val rfl (r_bv hS rfl rfl gI (b_addI _ _ _))) ?_
      refine p_step rfl (fun a w hS hM => y_val rfl (r_index0 hS rfl rfl Try.underlying37 sz2 (by omega))) ?_
      refine p_nil rfl ?_; intro a w hS hM
      refine s_storeI hS hM rfl rfl (j := 1) rfl sz2 (by omega) ?_; clear hS hM; intro a w hS hM
      refine s_nil ?_
      refine k_seq ?_
      refine c_region ?_
      refine s_val hS (by decide) rfl rfl (r_move hS rfl) ?_; clear hS; intro a hS
      refine s_val hS (by decide) rfl rfl (r_move hS rfl) ?_; clear hS; intro a hS
      refine s_val hS (by decide) rfl rfl (r_index0 hS rfl rfl Try.underlying37 sz2 (by omega)) ?_; clear hS; intro a hS
      refine s_val hS (by decide) rfl rfl (r_load hS hM rfl (j := 1) rfl Try.underlying2 rfl (cells_get (by omega))) ?_; clear hS; intro a hS
      refine s_val hS (by decide) rfl rfl (r_bv hS rfl (show ev _ _ = some (I 65535#64) from rfl) gI (b_andI _ _ _)) ?_; clear hS; intro a hS
      refine s_val hS (by decide) rfl rfl (r_index0 hS rfl rfl Try.underlying37 sz2 (by omega)) ?_; clear hS; intro a hS
      refine s_storeI hS hM rfl rfl (j := 1) rfl sz2 (by omega) ?_; clear hS hM; intro a w hS hM
      refine s_nil ?_
      refine k_in ?_
      refine k_seq ?_
      refine c_region ?_
      refine s_val hS (by decide) rfl rfl (r_move hS rfl) ?_; clear hS; intro a hS
      refine s_val hS (by decide) rfl rfl (r_bv hS rfl (show ev _ _ = some (N 1) from rfl) gN (b_addN _ _ _ (by omega))) ?_; clear hS; intro a hS
      refine s_val hS (by decide) rfl rfl (r_assign hS rfl) ?_; clear hS; intro a hS
      refine s_nil ?_
      refine k_then ?_
      refine ⟨j + 1, by omega, by omega, hS.to _ ⟨rfl, rfl, rfl, trivial⟩, (hM.congr (by rw [upd_ne _ _ (show j ≠ j + 1 by omega)]; rfl))⟩
    · obtain rfl : j = 15 := (by have := of_decide_eq_false hc; omega); rw [cI_congr hn4] at hM
      refine c_exit ?_
      refine k_thenx ?_
      refine k_thenx ?_
      refine k_inx ?_
      refine k_seq ?_
      refine c_seq ?_
      refine c_seq ?_
      refine c_plan 4 (fun w => Mem w0 w _) [(1, _), (2, _)] (by kernel_rfl) (by kernel_rfl) hS ⟨rfl, rfl, trivial⟩ (hM.drawn _) ?_; clear hS hM
      refine p_step rfl (fun a w hS hM => y_val rfl (r_loadAll hS hM rfl (j := 1) rfl Try.underlying37 rfl sz37 cells_len)) ?_
      refine p_step rfl (fun a w hS hM => y_call (by kernel_rfl) hS rfl ((prime_ok _).mem hM)) ?_
      refine p_step rfl (fun a w hS hM => y_call (by kernel_rfl) hS rfl ((below_ok _ _ (by assumption) (by assumption) _).mem hM)) ?_
      refine p_step rfl (fun a w hS hM => y_val rfl (r_not hS rfl)) ?_
      refine p_nil rfl ?_; intro a w hS hM
      refine s_nil ?_
      refine k_seq ?_
      refine c_cond hS rfl (fun hc => ?_) (fun hc => ?_)
      · have hk3 : ¬ n < pP := by simpa using hc
        refine c_seq ?_
        refine c_region ?_
        refine s_pure hS hM (by decide) rfl (prime_ok _) ?_; clear hS hM; intro a w hS hM
        refine s_alloc hS hM (by decide) zero37 ?_; clear hS hM; intro a b6 w hb6 hS hM
        refine s_storeAll hS hM rfl rfl (j := 0) rfl sz37 cells_len cells_len cI_one ?_; clear hS hM; intro a w hS hM
        refine s_nil ?_
        refine k_seq ?_
        refine c_seq ?_
        refine c_seq ?_
        refine c_region ?_
        refine s_val hS (by decide) rfl rfl (r_assign hS (show ev _ _ = some (N 0) from rfl)) ?_; clear hS; intro a hS
        refine s_nil ?_
        refine k_seq ?_
        refine c_block ?_
        refine c_loop (σ := Nat) (fun j a w => (j ≤ 16) ∧ Slots a 110 (env [(1, ptr b1 0), (2, ptr b2 0), (6, ptr b6 0), (7, N j)]) ∧ Mem w0 w ([⟨b6, 37, cI 16 (dig pP)⟩, ⟨b2, 37, cI 16 (fun _ => 0)⟩, ⟨b1, 37, cI 16 (mixS n pP j)⟩])) (fun j => 16 - j) (0) ⟨by omega, hS.to _ ⟨rfl, rfl, rfl, rfl, trivial⟩, (by rw [mixS_zero]; exact hM)⟩ ?_
        clear hS hM; rintro j a w ⟨hk, hS, hM⟩
        refine c_seq ?_
        refine c_seq ?_
        refine c_region ?_
        refine s_val hS (by decide) rfl rfl (r_move hS rfl) ?_; clear hS; intro a hS
        refine s_val hS (by decide) rfl rfl (r_bv hS rfl (show ev _ _ = some (N 16) from rfl) gN (b_lssN _ _ _)) ?_; clear hS; intro a hS
        refine s_nil ?_
        refine k_seq ?_
        refine c_cond hS rfl (fun hc => ?_) (fun hc => ?_)
        · have hk1 := of_decide_eq_true hc
          refine c_skip ?_
          refine k_seq ?_
          refine c_seq ?_
          refine c_block ?_
          refine c_plan 9 (fun w => Mem w0 w _) [(7, _), (1, _), (6, _), (2, _), (74, _), (75, _)] (by kernel_rfl) (by kernel_rfl) hS ⟨rfl, rfl, rfl, rfl, rfl, rfl, trivial⟩ (hM.drawn _) ?_; clear hS hM
          refine p_step rfl (fun a w hS hM => y_val rfl (r_move hS rfl)) ?_
          refine p_step rfl (fun a w hS hM => y_val rfl (r_move hS rfl)) ?_
          refine p_step rfl (fun a w hS hM => y_val rfl (r_index0 hS rfl rfl Try.underlying37 sz2 (by omega))) ?_
          refine p_step rfl (fun a w hS hM => y_val rfl (r_load hS hM rfl (j := 2) rfl Try.underlying2 rfl (cells_get (by omega)))) ?_
          refine p_step rfl (fun a w hS hM => y_val rfl (r_move hS rfl)) ?_
          refine p_step rfl (fun a w hS hM => y_val rfl (r_index0 hS rfl rfl Try.underlying37 sz2 (by omega))) ?_
          refine p_step rfl (fun a w hS hM => y_val rfl (r_load hS hM rfl (j := 0) rfl Try.underlying2 rfl (cells_get (by omega)))) ?_
          refine p_step rfl (fun a w hS hM => y_val rfl (r_bv hS rfl rfl gI (b_subI _ _ _))) ?_
          refine p_step rfl (fun a w hS hM => y_val rfl (r_index0 hS rfl rfl Try.underlying37 sz2 (by omega))) ?_
          refine p_nil rfl ?_; intro a w hS hM
          refine s_storeI hS hM rfl rfl (j := 2) rfl sz2 (by omega) ?_; clear hS hM; intro a w hS hM
          refine s_nil ?_
          refine k_in ?_
          refine k_seq ?_
          refine c_region ?_
          refine s_val hS (by decide) rfl rfl (r_move hS rfl) ?_; clear hS; intro a hS
          refine s_val hS (by decide) rfl rfl (r_bv hS rfl (show ev _ _ = some (N 1) from rfl) gN (b_addN _ _ _ (by omega))) ?_; clear hS; intro a hS
          refine s_val hS (by decide) rfl rfl (r_assign hS rfl) ?_; clear hS; intro a hS
          refine s_nil ?_
          refine k_then ?_
          refine ⟨j + 1, by omega, by omega, hS.to _ ⟨rfl, rfl, rfl, rfl, trivial⟩, (hM.congr (by rw [← mixS_step]; rfl))⟩
        · obtain rfl : j = 16 := (by have := of_decide_eq_false hc; omega); rw [cI_mixS] at hM
          refine c_exit ?_
          refine k_thenx ?_
          refine k_thenx ?_
          refine k_inx ?_
          refine k_seq ?_
          refine c_seq ?_
          refine c_region ?_
          refine s_val hS (by decide) rfl rfl (r_assign hS (show ev _ _ = some (N 0) from rfl)) ?_; clear hS; intro a hS
          refine s_nil ?_
          refine k_seq ?_
          refine c_block ?_
          refine c_loop (σ := Nat) (fun j a w => (j ≤ 15) ∧ Slots a 110 (env [(1, ptr b1 0), (2, ptr b2 0), (8, N j)]) ∧ Mem w0 w ([⟨b6, 37, cI 16 (dig pP)⟩, ⟨b2, 37, cI 16 (fun _ => 0)⟩, ⟨b1, 37, cI 16 (nrmTo (subD n pP) j)⟩])) (fun j => 15 - j) (0) ⟨by omega, hS.to _ ⟨rfl, rfl, rfl, trivial⟩, hM⟩ ?_
          clear hS hM; rintro j a w ⟨hk, hS, hM⟩
          refine c_seq ?_
          refine c_seq ?_
          refine c_region ?_
          refine s_val hS (by decide) rfl rfl (r_move hS rfl) ?_; clear hS; intro a hS
          refine s_val hS (by decide) rfl rfl (r_bv hS rfl (show ev _ _ = some (N 15) from rfl) gN (b_lssN _ _ _)) ?_; clear hS; intro a hS
          refine s_nil ?_
          refine k_seq ?_
          refine c_cond hS rfl (fun hc => ?_) (fun hc => ?_)
          · have hk1 := of_decide_eq_true hc
            refine c_skip ?_
            refine k_seq ?_
            refine c_seq ?_
            refine c_block ?_
            refine c_seq ?_
            refine c_plan 12 (fun w => Mem w0 w _) [(8, _), (1, _), (2, _), (87, _), (88, _)] (by kernel_rfl) (by kernel_rfl) hS ⟨rfl, rfl, rfl, rfl, rfl, trivial⟩ (hM.drawn _) ?_; clear hS hM
            refine p_step rfl (fun a w hS hM => y_val rfl (r_move hS rfl)) ?_
            refine p_step rfl (fun a w hS hM => y_val rfl (r_bv hS rfl (show ev _ _ = some (N 1) from rfl) gN (b_addN _ _ _ (by omega)))) ?_
            refine p_step rfl (fun a w hS hM => y_val rfl (r_move hS rfl)) ?_
            refine p_step rfl (fun a w hS hM => y_val rfl (r_bv hS rfl (show ev _ _ = some (N 1) from rfl) gN (b_addN _ _ _ (by omega)))) ?_
            refine p_step rfl (fun a w hS hM => y_val rfl (r_index0 hS rfl rfl Try.underlying37 sz2 (by omega))) ?_
            refine p_step rfl (fun a w hS hM => y_val rfl (r_load hS hM rfl (j := 2) rfl Try.underlying2 rfl (cells_get (by omega)))) ?_
            refine p_step rfl (fun a w hS hM => y_val rfl (r_move hS rfl)) ?_
            refine p_step rfl (fun a w hS hM => y_val rfl (r_index0 hS rfl rfl Try.underlying37 sz2 (by omega))) ?_
            refine p_step rfl (fun a w hS hM => y_val rfl (r_load hS hM rfl (j := 2) rfl Try.underlying2 rfl (cells_get (by omega)))) ?_
            refine p_step rfl (fun a w hS hM => y_val rfl (r_bv hS rfl (show ev _ _ = some (.int .u64 ((16 : Nat) : Int)) from rfl) gI (b_shrI _ _ _ 16))) ?_
            refine p_step rfl (fun a w hS hM => y_val rfl (r_bv hS rfl rfl gI (b_addI _ _ _))) ?_
            refine p_step rfl (fun a w hS hM => y_val rfl (r_index0 hS rfl rfl Try.underlying37 sz2 (by omega))) ?_
            refine p_nil rfl ?_; intro a w hS hM
            refine s_storeI hS hM rfl rfl (j := 2) rfl sz2 (by omega) ?_; clear hS hM; intro a w hS hM
            refine s_nil ?_
            refine k_seq ?_
            refine c_region ?_
            refine s_val hS (by decide) rfl rfl (r_move hS rfl) ?_; clear hS; intro a hS
            refine s_val hS (by decide) rfl rfl (r_move hS rfl) ?_; clear hS; intro a hS
            refine s_val hS (by decide) rfl rfl (r_index0 hS rfl rfl Try.underlying37 sz2 (by omega)) ?_; clear hS; intro a hS
            refine s_val hS (by decide) rfl rfl (r_load hS hM rfl (j := 2) rfl Try.underlying2 rfl (cells_get (by omega))) ?_; clear hS; intro a hS
            refine s_val hS (by decide) rfl rfl (r_bv hS rfl (show ev _ _ = some (I 65535#64) from rfl) gI (b_andI _ _ _)) ?_; clear hS; intro a hS
            refine s_val hS (by decide) rfl rfl (r_index0 hS rfl rfl Try.underlying37 sz2 (by omega)) ?_; clear hS; intro a hS
            refine s_storeI hS hM rfl rfl (j := 2) rfl sz2 (by omega) ?_; clear hS hM; intro a w hS hM
            refine s_nil ?_
            refine k_in ?_
            refine k_seq ?_
            refine c_region ?_
            refine s_val hS (by decide) rfl rfl (r_move hS rfl) ?_; clear hS; intro a hS
            refine s_val hS (by decide) rfl rfl (r_bv hS rfl (show ev _ _ = some (N 1) from rfl) gN (b_addN _ _ _ (by omega))) ?_; clear hS; intro a hS
            refine s_val hS (by decide) rfl rfl (r_assign hS rfl) ?_; clear hS; intro a hS
            refine s_nil ?_
            refine k_then ?_
            refine ⟨j + 1, by omega, by omega, hS.to _ ⟨rfl, rfl, rfl, trivial⟩, (hM.congr (by rw [upd_ne _ _ (show j ≠ j + 1 by omega)]; rfl))⟩
          · obtain rfl : j = 15 := (by have := of_decide_eq_false hc; omega); rw [norm_no hn1 hk3] at hM
            refine c_exit ?_
            refine k_thenx ?_
            refine k_thenx ?_
            refine k_inx ?_
            refine k_seq ?_
            refine c_seq ?_
            refine c_region ?_
            refine s_val hS (by decide) rfl rfl (r_loadAll hS hM rfl (j := 2) rfl Try.underlying37 rfl sz37 cells_len) ?_; clear hS; intro a hS
            refine s_storeAll hS hM rfl rfl (j := 1) rfl sz37 cells_len cells_len cI_one ?_; clear hS hM; intro a w hS hM
            refine s_nil ?_
            refine k_seq ?_
            refine c_ret ?_
            exact k_res1 hS rfl (RV.row rfl (hM.have_ _ (mem_of_get (j := 1) rfl)) Try.underlying37 rfl (by rw [sz37]; exact congrArg some cells_len.symm)) ⟨(by first | rfl | rw [Nat.mod_eq_of_lt hk3]), hM.done ⟨hb6, hb2, hb1, trivial⟩⟩
      · have hk3 : n < pP := by simpa using hc
        refine c_skip ?_
        refine k_seq ?_
        refine c_seq ?_
        refine c_region ?_
        refine s_val hS (by decide) rfl rfl (r_loadAll hS hM rfl (j := 1) rfl Try.underlying37 rfl sz37 cells_len) ?_; clear hS; intro a hS
        refine s_storeAll hS hM rfl rfl (j := 0) rfl sz37 cells_len cells_len cI_one ?_; clear hS hM; intro a w hS hM
        refine s_nil ?_
        refine k_seq ?_
        refine c_ret ?_
        exact k_res1 hS rfl (RV.row rfl (hM.have_ _ (mem_of_get (j := 0) rfl)) Try.underlying37 rfl (by rw [sz37]; exact congrArg some cells_len.symm)) ⟨(by first | rfl | rw [Nat.mod_eq_of_lt hk3]), hM.done ⟨hb2, hb1, trivial⟩⟩

set_option maxRecDepth 100000 in
theorem radd_ok (m n : Nat) (hm : m < pP) (hn : n < pP) (w0 : World) : Pure Try.prog 22 #[.agg (cI 16 (dig m)).toArray, .agg (cI 16 (dig n)).toArray] w0 (.agg (cI 16 (dig ((m + n) % pP))).toArray) := by
  refine ⟨by kernel_rfl, ?_⟩
  refine calls_sym Try.func22 rfl (by kernel_rfl) ?_
  intro a hS
  have hM : Mem w0 w0 [] := Mem.refl w0
  refine c_seq ?_
  refine c_region ?_
  refine s_box hS hM (by decide) rfl rfl ?_; clear hS hM; intro a b2 w hb2 hS hM
  refine s_box hS hM (by decide) rfl rfl ?_; clear hS hM; intro a b3 w hb3 hS hM
  refine s_alloc hS hM (by decide) zero37 ?_; clear hS hM; intro a b4 w hb4 hS hM
  refine s_nil ?_
  refine k_seq ?_
  refine c_seq ?_
  refine c_seq ?_
  refine c_region ?_
  refine s_val hS (by decide) rfl rfl (r_assign hS (show ev _ _ = some (N 0) from rfl)) ?_; clear hS; intro a hS
  refine s_nil ?_
  refine k_seq ?_
  refine c_block ?_
  refine c_loop (σ := Nat) (fun k a w => (k ≤ 16) ∧ Slots a 21 (env [(2, ptr b2 0), (3, ptr b3 0), (4, ptr b4 0), (5, N k)]) ∧ Mem w0 w ([⟨b4, 37, cI 16 (fun _ => 0)⟩, ⟨b3, 37, cI 16 (dig n)⟩, ⟨b2, 37, cI 16 (mixA m n k)⟩])) (fun k => 16 - k) (0) ⟨by omega, hS.to _ ⟨rfl, rfl, rfl, rfl, trivial⟩, (by rw [mixA_zero]; exact hM)⟩ ?_
  clear hS hM; rintro k a w ⟨hk, hS, hM⟩
  refine c_seq ?_
  refine c_seq ?_
  refine c_region ?_
  refine s_val hS (by decide) rfl rfl (r_move hS rfl) ?_; clear hS; intro a hS
  refine s_val hS (by decide) rfl rfl (r_bv hS rfl (show ev _ _ = some (N 16) from rfl) gN (b_lssN _ _ _)) ?_; clear hS; intro a hS
  refine s_nil ?_
  refine k_seq ?_
  refine c_cond hS rfl (fun hc => ?_) (fun hc => ?_)
  · have hk1 := of_decide_eq_true hc
    refine c_skip ?_
    refine k_seq ?_
    refine c_seq ?_
    refine c_block ?_
    refine c_plan 9 (fun w => Mem w0 w _) [(5, _), (2, _), (3, _), (4, _), (6, _), (7, _)] (by kernel_rfl) (by kernel_rfl) hS ⟨rfl, rfl, rfl, rfl, rfl, rfl, trivial⟩ (hM.drawn _) ?_; clear hS hM
    refine p_step rfl (fun a w hS hM => y_val rfl (r_move hS rfl)) ?_
    refine p_step rfl (fun a w hS hM => y_val rfl (r_move hS rfl)) ?_
    refine p_step rfl (fun a w hS hM => y_val rfl (r_index0 hS rfl rfl Try.underlying37 sz2 (by omega))) ?_
    refine p_step rfl (fun a w hS hM => y_val rfl (r_load hS hM rfl (j := 2) rfl Try.underlying2 rfl (cells_get (by omega)))) ?_
    refine p_step rfl (fun a w hS hM => y_val rfl (r_move hS rfl)) ?_
    refine p_step rfl (fun a w hS hM => y_val rfl (r_index0 hS rfl rfl Try.underlying37 sz2 (by omega))) ?_
    refine p_step rfl (fun a w hS hM => y_val rfl (r_load hS hM rfl (j := 1) rfl Try.underlying2 rfl (cells_get (by omega)))) ?_
    refine p_step rfl (fun a w hS hM => y_val rfl (r_bv hS rfl rfl gI (b_addI _ _ _))) ?_
    refine p_step rfl (fun a w hS hM => y_val rfl (r_index0 hS rfl rfl Try.underlying37 sz2 (by omega))) ?_
    refine p_nil rfl ?_; intro a w hS hM
    refine s_storeI hS hM rfl rfl (j := 2) rfl sz2 (by omega) ?_; clear hS hM; intro a w hS hM
    refine s_nil ?_
    refine k_in ?_
    refine k_seq ?_
    refine c_region ?_
    refine s_val hS (by decide) rfl rfl (r_move hS rfl) ?_; clear hS; intro a hS
    refine s_val hS (by decide) rfl rfl (r_bv hS rfl (show ev _ _ = some (N 1) from rfl) gN (b_addN _ _ _ (by omega))) ?_; clear hS; intro a hS
    refine s_val hS (by decide) rfl rfl (r_assign hS rfl) ?_; clear hS; intro a hS
    refine s_nil ?_
    refine k_then ?_
    refine ⟨k + 1, by omega, by omega, hS.to _ ⟨rfl, rfl, rfl, rfl, trivial⟩, (hM.congr (by rw [← mixA_step]; rfl))⟩
  · obtain rfl : k = 16 := (by have := of_decide_eq_false hc; omega); rw [cI_mixA] at hM
    refine c_exit ?_
    refine k_thenx ?_
    refine k_thenx ?_
    refine k_inx ?_
    refine k_seq ?_
    refine c_seq ?_
    refine c_region ?_
    refine s_val hS (by decide) rfl rfl (r_loadAll hS hM rfl (j := 2) rfl Try.underlying37 rfl sz37 cells_len) ?_; clear hS; intro a hS
    refine s_pure hS hM (by decide) rfl (norm_ok (by decide) (addD_bound m n) (add_sum16 hm hn) (add_lt300 hm hn) _) ?_; clear hS hM; intro a w hS hM
    refine s_storeAll hS hM rfl rfl (j := 0) rfl sz37 cells_len cells_len cI_one ?_; clear hS hM; intro a w hS hM
    refine s_nil ?_
    refine k_seq ?_
    refine c_ret ?_
    exact k_res1 hS rfl (RV.row rfl (hM.have_ _ (mem_of_get (j := 0) rfl)) Try.underlying37 rfl (by rw [sz37]; exact congrArg some cells_len.symm)) ⟨rfl, hM.done ⟨hb4, hb3, hb2, trivial⟩⟩

set_option maxRecDepth 100000 in
theorem rsub_ok (m n : Nat) (hm : m < pP) (hn : n < pP) (w0 : World) : Pure Try.prog 24 #[.agg (cI 16 (dig m)).toArray, .agg (cI 16 (dig n)).toArray] w0 (.agg (cI 16 (dig ((m + pP - n) % pP))).toArray) := by
  refine ⟨by kernel_rfl, ?_⟩
  refine calls_sym Try.func24 rfl (by kernel_rfl) ?_
  intro a hS
  have hM : Mem w0 w0 [] := Mem.refl w0
  refine c_seq ?_
  refine c_region ?_
  refine s_box hS hM (by decide) rfl rfl ?_; clear hS hM; intro a b2 w hb2 hS hM
  refine s_box hS hM (by decide) rfl rfl ?_; clear hS hM; intro a b3 w hb3 hS hM
  refine s_alloc hS hM (by decide) zero37 ?_; clear hS hM; intro a b4 w hb4 hS hM
  refine s_nil ?_
  refine k_seq ?_
  refine c_seq ?_
  refine c_region ?_
  refine s_pure hS hM (by decide) rfl (prime_ok _) ?_; clear hS hM; intro a w hS hM
  refine s_alloc hS hM (by decide) zero37 ?_; clear hS hM; intro a b5 w hb5 hS hM
  refine s_storeAll hS hM rfl rfl (j := 0) rfl sz37 cells_len cells_len cI_one ?_; clear hS hM; intro a w hS hM
  refine s_nil ?_
  refine k_seq ?_
  refine c_seq ?_
  refine c_seq ?_
  refine c_region ?_
  refine s_val hS (by decide) rfl rfl (r_assign hS (show ev _ _ = some (N 0) from rfl)) ?_; clear hS; intro a hS
  refine s_nil ?_
  refine k_seq ?_
  refine c_block ?_
  refine c_loop (σ := Nat) (fun k a w => (k ≤ 16) ∧ Slots a 27 (env [(2, ptr b2 0), (3, ptr b3 0), (4, ptr b4 0), (5, ptr b5 0), (6, N k)]) ∧ Mem w0 w ([⟨b5, 37, cI 16 (dig pP)⟩, ⟨b4, 37, cI 16 (fun _ => 0)⟩, ⟨b3, 37, cI 16 (dig n)⟩, ⟨b2, 37, cI 16 (mapTo (dig m) (sub3 m n) k)⟩])) (fun k => 16 - k) (0) ⟨by omega, hS.to _ ⟨rfl, rfl, rfl, rfl, rfl, trivial⟩, (by rw [mapTo_zero]; exact hM)⟩ ?_
  clear hS hM; rintro k a w ⟨hk, hS, hM⟩
  refine c_seq ?_
  refine c_seq ?_
  refine c_region ?_
  refine s_val hS (by decide) rfl rfl (r_move hS rfl) ?_; clear hS; intro a hS
  refine s_val hS (by decide) rfl rfl (r_bv hS rfl (show ev _ _ = some (N 16) from rfl) gN (b_lssN _ _ _)) ?_; clear hS; intro a hS
  refine s_nil ?_
  refine k_seq ?_
  refine c_cond hS rfl (fun hc => ?_) (fun hc => ?_)
  · have hk1 := of_decide_eq_true hc
    refine c_skip ?_
    refine k_seq ?_
    refine c_seq ?_
    refine c_block ?_
    refine c_plan 13 (fun w => Mem w0 w _) [(6, _), (2, _), (5, _), (3, _), (4, _), (8, _), (9, _)] (by kernel_rfl) (by kernel_rfl) hS ⟨rfl, rfl, rfl, rfl, rfl, rfl, rfl, trivial⟩ (hM.drawn _) ?_; clear hS hM
    refine p_step rfl (fun a w hS hM => y_val rfl (r_move hS rfl)) ?_
    refine p_step rfl (fun a w hS hM => y_val rfl (r_move hS rfl)) ?_
    refine p_step rfl (fun a w hS hM => y_val rfl (r_index0 hS rfl rfl Try.underlying37 sz2 (by omega))) ?_
    refine p_step rfl (fun a w hS hM => y_val rfl (r_load hS hM rfl (j := 3) rfl Try.underlying2 rfl (cells_get (by omega)))) ?_
    refine p_step rfl (fun a w hS hM => y_val rfl (r_move hS rfl)) ?_
    refine p_step rfl (fun a w hS hM => y_val rfl (r_index0 hS rfl rfl Try.underlying37 sz2 (by omega))) ?_
    refine p_step rfl (fun a w hS hM => y_val rfl (r_load hS hM rfl (j := 0) rfl Try.underlying2 rfl (cells_get (by omega)))) ?_
    refine p_step rfl (fun a w hS hM => y_val rfl (r_bv hS rfl rfl gI (b_addI _ _ _))) ?_
    refine p_step rfl (fun a w hS hM => y_val rfl (r_move hS rfl)) ?_
    refine p_step rfl (fun a w hS hM => y_val rfl (r_index0 hS rfl rfl Try.underlying37 sz2 (by omega))) ?_
    refine p_step rfl (fun a w hS hM => y_val rfl (r_load hS hM rfl (j := 2) rfl Try.underlying2 rfl (cells_get (by omega)))) ?_
    refine p_step rfl (fun a w hS hM => y_val rfl (r_bv hS rfl rfl gI (b_subI _ _ _))) ?_
    refine p_step rfl (fun a w hS hM => y_val rfl (r_index0 hS rfl rfl Try.underlying37 sz2 (by omega))) ?_
    refine p_nil rfl ?_; intro a w hS hM
    refine s_storeI hS hM rfl rfl (j := 3) rfl sz2 (by omega) ?_; clear hS hM; intro a w hS hM
    refine s_nil ?_
    refine k_in ?_
    refine k_seq ?_
    refine c_region ?_
    refine s_val hS (by decide) rfl rfl (r_move hS rfl) ?_; clear hS; intro a hS
    refine s_val hS (by decide) rfl rfl (r_bv hS rfl (show ev _ _ = some (N 1) from rfl) gN (b_addN _ _ _ (by omega))) ?_; clear hS; intro a hS
    refine s_val hS (by decide) rfl rfl (r_assign hS rfl) ?_; clear hS; intro a hS
    refine s_nil ?_
    refine k_then ?_
    refine ⟨k + 1, by omega, by omega, hS.to _ ⟨rfl, rfl, rfl, rfl, rfl, trivial⟩, (hM.congr (by rw [← mapTo_step, mapTo_self]; rfl))⟩
  · obtain rfl : k = 16 := (by have := of_decide_eq_false hc; omega); rw [cI_mapTo] at hM
    refine c_exit ?_
    refine k_thenx ?_
    refine k_thenx ?_
    refine k_inx ?_
    refine k_seq ?_
    refine c_seq ?_
    refine c_region ?_
    refine s_val hS (by decide) rfl rfl (r_loadAll hS hM rfl (j := 3) rfl Try.underlying37 rfl sz37 cells_len) ?_; clear hS; intro a hS
    refine s_pure hS hM (by decide) rfl (norm_ok (by decide) (sub3_bound m n) (sub_sum16 hm hn) (sub_lt300 hm) _) ?_; clear hS hM; intro a w hS hM
    refine s_storeAll hS hM rfl rfl (j := 1) rfl sz37 cells_len cells_len cI_one ?_; clear hS hM; intro a w hS hM
    refine s_nil ?_
    refine k_seq ?_
    refine c_ret ?_
    exact k_res1 hS rfl (RV.row rfl (hM.have_ _ (mem_of_get (j := 1) rfl)) Try.underlying37 rfl (by rw [sz37]; exact congrArg some cells_len.symm)) ⟨rfl, hM.done ⟨hb5, hb4, hb3, hb2, trivial⟩⟩

theorem rsub0_ok (n : Nat) (hn : n < pP) (w0 : World) : Pure Try.prog 24 #[.agg (cI 16 (fun _ => 0)).toArray, .agg (cI 16 (dig n)).toArray] w0 (.agg (cI 16 (dig ((0 + pP - n) % pP))).toArray) := by
  have := rsub_ok 0 n pP_pos hn w0
  rwa [dig_zero] at this

set_option maxRecDepth 100000 in
theorem rneg_ok (n : Nat) (hn : n < pP) (w0 : World) : Pure Try.prog 29 #[.agg (cI 16 (dig n)).toArray] w0 (.agg (cI 16 (dig ((0 + pP - n) % pP))).toArray) := by
  refine ⟨by kernel_rfl, ?_⟩
  refine calls_sym Try.func29 rfl (by kernel_rfl) ?_
  intro a hS
  have hM : Mem w0 w0 [] := Mem.refl w0
  refine c_seq ?_
  refine c_region ?_
  refine s_box hS hM (by decide) rfl rfl ?_; clear hS hM; intro a b1 w hb1 hS hM
  refine s_alloc hS hM (by decide) zero37 ?_; clear hS hM; intro a b2 w hb2 hS hM
  refine s_nil ?_
  refine k_seq ?_
  refine c_seq ?_
  refine c_region ?_
  refine s_val hS (by decide) rfl rfl (r_build hS rfl (cs := cI 16 (fun _ => 0)) (fun _ => by kernel_rfl)) ?_; clear hS; intro a hS
  refine s_val hS (by decide) rfl rfl (r_loadAll hS hM rfl (j := 1) rfl Try.underlying37 rfl sz37 cells_len) ?_; clear hS; intro a hS
  refine s_pure hS hM (by decide) rfl (rsub0_ok _ (by assumption) _) ?_; clear hS hM; intro a w hS hM
  refine s_storeAll hS hM rfl rfl (j := 0) rfl sz37 cells_len cells_len cI_one ?_; clear hS hM; intro a w hS hM
  refine s_nil ?_
  refine k_seq ?_
  refine c_ret ?_
  exact k_res1 hS rfl (RV.row rfl (hM.have_ _ (mem_of_get (j := 0) rfl)) Try.underlying37 rfl (by rw [sz37]; exact congrArg some cells_len.symm)) ⟨rfl, hM.done ⟨hb2, hb1, trivial⟩⟩

set_option maxRecDepth 100000 in
theorem rmul_ok (m n : Nat) (hm : m < pP) (hn : n < pP) (w0 : World) : Pure Try.prog 26 #[.agg (cI 16 (dig m)).toArray, .agg (cI 16 (dig n)).toArray] w0 (.agg (cI 16 (dig (m * n % pP))).toArray) := by
  refine ⟨by kernel_rfl, ?_⟩
  refine calls_sym Try.func26 rfl (by kernel_rfl) ?_
  intro a hS
  have hM : Mem w0 w0 [] := Mem.refl w0
  refine c_seq ?_
  refine c_region ?_
  refine s_box hS hM (by decide) rfl rfl ?_; clear hS hM; intro a b2 w hb2 hS hM
  refine s_box hS hM (by decide) rfl rfl ?_; clear hS hM; intro a b3 w hb3 hS hM
  refine s_alloc hS hM (by decide) zero37 ?_; clear hS hM; intro a b4 w hb4 hS hM
  refine s_nil ?_
  refine k_seq ?_
  refine c_seq ?_
  refine c_region ?_
  refine s_val hS (by decide) rfl rfl (r_build hS rfl (cs := cI 32 (fun _ => 0)) (fun _ => by kernel_rfl)) ?_; clear hS; intro a hS
  refine s_alloc hS hM (by decide) zero67 ?_; clear hS hM; intro a b5 w hb5 hS hM
  refine s_storeAll hS hM rfl rfl (j := 0) rfl sz67 cells_len cells_len cI_one ?_; clear hS hM; intro a w hS hM
  refine s_nil ?_
  refine k_seq ?_
  refine c_seq ?_
  refine c_seq ?_
  refine c_region ?_
  refine s_val hS (by decide) rfl rfl (r_assign hS (show ev _ _ = some (N 0) from rfl)) ?_; clear hS; intro a hS
  refine s_nil ?_
  refine k_seq ?_
  refine c_block ?_
  refine c_loop (σ := Nat × (Nat → BitVec 64)) (fun s a w => (s.1 ≤ 16 ∧ MaIn 32 m n 0 s.1 0 s.2) ∧ Slots a 54 (env [(2, ptr b2 0), (3, ptr b3 0), (4, ptr b4 0), (5, ptr b5 0), (6, N s.1)]) ∧ Mem w0 w ([⟨b5, 67, cI 32 s.2⟩, ⟨b4, 37, cI 16 (fun _ => 0)⟩, ⟨b3, 37, cI 16 (dig n)⟩, ⟨b2, 37, cI 16 (dig m)⟩])) (fun s => 16 - s.1) (0, dig 0) ⟨⟨Nat.zero_le _, MaIn.start' _ _ _ _ (pd_pos _)⟩, hS.to _ ⟨rfl, rfl, rfl, rfl, rfl, trivial⟩, (by rw [dig_zero]; exact hM)⟩ ?_
  clear hS hM; rintro ⟨i, z⟩ a w ⟨hk, hS, hM⟩
  have hk0 := hk; clear hk; dsimp only at hk0 hS hM
  refine c_seq ?_
  refine c_seq ?_
  refine c_region ?_
  refine s_val hS (by decide) rfl rfl (r_move hS rfl) ?_; clear hS; intro a hS
  refine s_val hS (by decide) rfl rfl (r_bv hS rfl (show ev _ _ = some (N 16) from rfl) gN (b_lssN _ _ _)) ?_; clear hS; intro a hS
  refine s_nil ?_
  refine k_seq ?_
  refine c_cond hS rfl (fun hc => ?_) (fun hc => ?_)
  · have hk1 := of_decide_eq_true hc
    refine c_skip ?_
    refine k_seq ?_
    refine c_seq ?_
    refine c_block ?_
    refine c_seq ?_
    refine c_region ?_
    refine s_val hS (by decide) rfl rfl (r_assign hS (show ev _ _ = some (N 0) from rfl)) ?_; clear hS; intro a hS
    refine s_nil ?_
    refine k_seq ?_
    refine c_block ?_
    refine c_loop (σ := Nat × (Nat → BitVec 64)) (fun s a w => (s.1 ≤ 16 ∧ MaIn 32 m n 0 i s.1 s.2) ∧ Slots a 54 (env [(2, ptr b2 0), (3, ptr b3 0), (4, ptr b4 0), (5, ptr b5 0), (6, N i), (7, N s.1)]) ∧ Mem w0 w ([⟨b5, 67, cI 32 s.2⟩, ⟨b4, 37, cI 16 (fun _ => 0)⟩, ⟨b3, 37, cI 16 (dig n)⟩, ⟨b2, 37, cI 16 (dig m)⟩])) (fun s => 16 - s.1) (0, z) ⟨⟨Nat.zero_le _, hk0.2⟩, hS.to _ ⟨rfl, rfl, rfl, rfl, rfl, rfl, trivial⟩, hM⟩ ?_
    clear hS hM; rintro ⟨j, u⟩ a w ⟨hk, hS, hM⟩
    have hk3 := hk; clear hk; dsimp only at hk3 hS hM
    refine c_seq ?_
    refine c_seq ?_
    refine c_region ?_
    refine s_val hS (by decide) rfl rfl (r_move hS rfl) ?_; clear hS; intro a hS
    refine s_val hS (by decide) rfl rfl (r_bv hS rfl (show ev _ _ = some (N 16) from rfl) gN (b_lssN _ _ _)) ?_; clear hS; intro a hS
    refine s_nil ?_
    refine k_seq ?_
    refine c_cond hS rfl (fun hc => ?_) (fun hc => ?_)
    · have hk2 := of_decide_eq_true hc
      refine c_skip ?_
      refine k_seq ?_
      refine c_seq ?_
      refine c_block ?_
      refine c_plan 17 (fun w => Mem w0 w _) [(6, _), (7, _), (5, _), (2, _), (3, _), (4, _), (15, _), (16, _)] (by kernel_rfl) (by kernel_rfl) hS ⟨rfl, rfl, rfl, rfl, rfl, rfl, rfl, rfl, trivial⟩ (hM.drawn _) ?_; clear hS hM
      refine p_step rfl (fun a w hS hM => y_val rfl (r_move hS rfl)) ?_
      refine p_step rfl (fun a w hS hM => y_val rfl (r_move hS rfl)) ?_
      refine p_step rfl (fun a w hS hM => y_val rfl (r_bv hS rfl rfl gN (b_addN _ _ _ (by omega)))) ?_
      refine p_step rfl (fun a w hS hM => y_val rfl (r_move hS rfl)) ?_
      refine p_step rfl (fun a w hS hM => y_val rfl (r_move hS rfl)) ?_
      refine p_step rfl (fun a w hS hM => y_val rfl (r_bv hS rfl rfl gN (b_addN _ _ _ (by omega)))) ?_
      refine p_step rfl (fun a w hS hM => y_val rfl (r_index0 hS rfl rfl Try.underlying67 sz2 (by omega))) ?_
      refine p_step rfl (fun a w hS hM => y_val rfl (r_load hS hM rfl (j := 0) rfl Try.underlying2 rfl (cells_get (by omega)))) ?_
      refine p_step rfl (fun a w hS hM => y_val rfl (r_move hS rfl)) ?_
      refine p_step rfl (fun a w hS hM => y_val rfl (r_index0 hS rfl rfl Try.underlying37 sz2 (by omega))) ?_
      refine p_step rfl (fun a w hS hM => y_val rfl (r_load hS hM rfl (j := 3) rfl Try.underlying2 rfl (cells_get (by omega)))) ?_
      refine p_step rfl (fun a w hS hM => y_val rfl (r_move hS rfl)) ?_
      refine p_step rfl (fun a w hS hM => y_val rfl (r_index0 hS rfl rfl Try.underlying37 sz2 (by omega))) ?_
      refine p_step rfl (fun a w hS hM => y_val rfl (r_load hS hM rfl (j := 2) rfl Try.underlying2 rfl (cells_get (by omega)))) ?_
      refine p_step rfl (fun a w hS hM => y_val rfl (r_bv hS rfl rfl gI (b_mulI _ _ _))) ?_
      refine p_step rfl (fun a w hS hM => y_val rfl (r_bv hS rfl rfl gI (b_addI _ _ _))) ?_
      refine p_step rfl (fun a w hS hM => y_val rfl (r_index0 hS rfl rfl Try.underlying67 sz2 (by omega))) ?_
      refine p_nil rfl ?_; intro a w hS hM
      refine s_storeI hS hM rfl rfl (j := 0) rfl sz2 (by omega) ?_; clear hS hM; intro a w hS hM
      refine s_nil ?_
      refine k_in ?_
      refine k_seq ?_
      refine c_region ?_
      refine s_val hS (by decide) rfl rfl (r_move hS rfl) ?_; clear hS; intro a hS
      refine s_val hS (by decide) rfl rfl (r_bv hS rfl (show ev _ _ = some (N 1) from rfl) gN (b_addN _ _ _ (by omega))) ?_; clear hS; intro a hS
      refine s_val hS (by decide) rfl rfl (r_assign hS rfl) ?_; clear hS; intro a hS
      refine s_nil ?_
      refine k_then ?_
      refine ⟨(j + 1, _), (by show 16 - (j + 1) < 16 - j; omega), ⟨by show j + 1 ≤ 16; omega, hk3.2.step hk1 hk2 (by omega)⟩, hS.to _ ⟨rfl, rfl, rfl, rfl, rfl, rfl, trivial⟩, hM⟩
    · obtain rfl : j = 16 := by have := of_decide_eq_false hc; omega
      refine c_exit ?_
      refine k_thenx ?_
      refine k_thenx ?_
      refine k_inx ?_
      refine k_in ?_
      refine k_seq ?_
      refine c_region ?_
      refine s_val hS (by decide) rfl rfl (r_move hS rfl) ?_; clear hS; intro a hS
      refine s_val hS (by decide) rfl rfl (r_bv hS rfl (show ev _ _ = some (N 1) from rfl) gN (b_addN _ _ _ (by omega))) ?_; clear hS; intro a hS
      refine s_val hS (by decide) rfl rfl (r_assign hS rfl) ?_; clear hS; intro a hS
      refine s_nil ?_
      refine k_then ?_
      refine ⟨(i + 1, _), (by show 16 - (i + 1) < 16 - i; omega), ⟨by show i + 1 ≤ 16; omega, hk3.2.next⟩, hS.to _ ⟨rfl, rfl, rfl, rfl, rfl, trivial⟩, hM⟩
  · obtain rfl : i = 16 := (by have := of_decide_eq_false hc; omega); obtain ⟨hb1, T, hT1, hT2, hT3⟩ := mul_fold38 (Nat.lt_trans hm p_lt256) (Nat.lt_trans hn p_lt256) hk0.2
    refine c_exit ?_
    refine k_thenx ?_
    refine k_thenx ?_
    refine k_inx ?_
    refine k_seq ?_
    refine c_seq ?_
    refine c_region ?_
    refine s_val hS (by decide) rfl rfl (r_build hS rfl (cs := cI 16 (fun _ => 0)) (fun _ => by kernel_rfl)) ?_; clear hS; intro a hS
    refine s_alloc hS hM (by decide) zero37 ?_; clear hS hM; intro a b8 w hb8 hS hM
    refine s_storeAll hS hM rfl rfl (j := 0) rfl sz37 cells_len cells_len cI_one ?_; clear hS hM; intro a w hS hM
    refine s_nil ?_
    refine k_seq ?_
    refine c_seq ?_
    refine c_seq ?_
    refine c_region ?_
    refine s_val hS (by decide) rfl rfl (r_assign hS (show ev _ _ = some (N 0) from rfl)) ?_; clear hS; intro a hS
    refine s_nil ?_
    refine k_seq ?_
    refine c_block ?_
    refine c_loop (σ := Nat) (fun k a w => (k ≤ 16) ∧ Slots a 54 (env [(4, ptr b4 0), (5, ptr b5 0), (8, ptr b8 0), (9, N k)]) ∧ Mem w0 w ([⟨b8, 37, cI 16 (fil 0 (fold38 z) k)⟩, ⟨b5, 67, cI 32 z⟩, ⟨b4, 37, cI 16 (fun _ => 0)⟩, ⟨b3, 37, cI 16 (dig n)⟩, ⟨b2, 37, cI 16 (dig m)⟩])) (fun k => 16 - k) (0) ⟨by omega, hS.to _ ⟨rfl, rfl, rfl, rfl, trivial⟩, hM⟩ ?_
    clear hS hM; rintro k a w ⟨hk, hS, hM⟩
    refine c_seq ?_
    refine c_seq ?_
    refine c_region ?_
    refine s_val hS (by decide) rfl rfl (r_move hS rfl) ?_; clear hS; intro a hS
    refine s_val hS (by decide) rfl rfl (r_bv hS rfl (show ev _ _ = some (N 16) from rfl) gN (b_lssN _ _ _)) ?_; clear hS; intro a hS
    refine s_nil ?_
    refine k_seq ?_
    refine c_cond hS rfl (fun hc => ?_) (fun hc => ?_)
    · have hk1 := of_decide_eq_true hc
      refine c_skip ?_
      refine k_seq ?_
      refine c_seq ?_
      refine c_block ?_
      refine c_plan 11 (fun w => Mem w0 w _) [(9, _), (5, _), (8, _), (4, _), (37, _), (38, _)] (by kernel_rfl) (by kernel_rfl) hS ⟨rfl, rfl, rfl, rfl, rfl, rfl, trivial⟩ (hM.drawn _) ?_; clear hS hM
      refine p_step rfl (fun a w hS hM => y_val rfl (r_move hS rfl)) ?_
      refine p_step rfl (fun a w hS hM => y_val rfl (r_move hS rfl)) ?_
      refine p_step rfl (fun a w hS hM => y_val rfl (r_index0 hS rfl rfl Try.underlying67 sz2 (by omega))) ?_
      refine p_step rfl (fun a w hS hM => y_val rfl (r_load hS hM rfl (j := 1) rfl Try.underlying2 rfl (cells_get (by omega)))) ?_
      refine p_step rfl (fun a w hS hM => y_val rfl (r_move hS rfl)) ?_
      refine p_step rfl (fun a w hS hM => y_val rfl (r_bv hS rfl (show ev _ _ = some (N 16) from rfl) gN (b_addN _ _ _ (by omega)))) ?_
      refine p_step rfl (fun a w hS hM => y_val rfl (r_index0 hS rfl rfl Try.underlying67 sz2 (by omega))) ?_
      refine p_step rfl (fun a w hS hM => y_val rfl (r_load hS hM rfl (j := 1) rfl Try.underlying2 rfl (cells_get (by omega)))) ?_
      refine p_step rfl (fun a w hS hM => y_val rfl (r_bv hS (show ev _ _ = some (I 38#64) from rfl) rfl gI (b_mulI _ _ _))) ?_
      refine p_step rfl (fun a w hS hM => y_val rfl (r_bv hS rfl rfl gI (b_addI _ _ _))) ?_
      refine p_step rfl (fun a w hS hM => y_val rfl (r_index0 hS rfl rfl Try.underlying37 sz2 (by omega))) ?_
      refine p_nil rfl ?_; intro a w hS hM
      refine s_storeI hS hM rfl rfl (j := 0) rfl sz2 (by omega) ?_; clear hS hM; intro a w hS hM
      refine s_nil ?_
      refine k_in ?_
      refine k_seq ?_
      refine c_region ?_
      refine s_val hS (by decide) rfl rfl (r_move hS rfl) ?_; clear hS; intro a hS
      refine s_val hS (by decide) rfl rfl (r_bv hS rfl (show ev _ _ = some (N 1) from rfl) gN (b_addN _ _ _ (by omega))) ?_; clear hS; intro a hS
      refine s_val hS (by decide) rfl rfl (r_assign hS rfl) ?_; clear hS; intro a hS
      refine s_nil ?_
      refine k_then ?_
      refine ⟨k + 1, by omega, by omega, hS.to _ ⟨rfl, rfl, rfl, rfl, trivial⟩, hM⟩
    · obtain rfl : k = 16 := (by have := of_decide_eq_false hc; omega); rw [cI_fil] at hM
      refine c_exit ?_
      refine k_thenx ?_
      refine k_thenx ?_
      refine k_inx ?_
      refine k_seq ?_
      refine c_seq ?_
      refine c_region ?_
      refine s_val hS (by decide) rfl rfl (r_loadAll hS hM rfl (j := 0) rfl Try.underlying37 rfl sz37 cells_len) ?_; clear hS; intro a hS
      refine s_pure hS hM (by decide) rfl (norm_ok (by decide) (hb1) (hT1) (hT2) _) ?_; clear hS hM; intro a w hS hM
      refine s_storeAll hS hM rfl rfl (j := 2) rfl sz37 cells_len cells_len cI_one ?_; clear hS hM; intro a w hS hM
      rw [hT3] at hM
      refine s_nil ?_
      refine k_seq ?_
      refine c_ret ?_
      exact k_res1 hS rfl (RV.row rfl (hM.have_ _ (mem_of_get (j := 2) rfl)) Try.underlying37 rfl (by rw [sz37]; exact congrArg some cells_len.symm)) ⟨rfl, hM.done ⟨hb8, hb5, hb4, hb3, hb2, trivial⟩⟩

set_option maxRecDepth 100000 in
theorem rfrom_ok (f : Nat → BitVec 8) (w0 : World) : Pure Try.prog 21 #[.agg (cB 32 f).toArray] w0 (.agg (cI 16 (dig (natB f 32 % 2 ^ 255 % pP))).toArray) := by
  refine ⟨by kernel_rfl, ?_⟩
  refine calls_sym Try.func21 rfl (by kernel_rfl) ?_
  intro a hS
  have hM : Mem w0 w0 [] := Mem.refl w0
  refine c_seq ?_
  refine c_region ?_
  refine s_box hS hM (by decide) rfl rfl ?_; clear hS hM; intro a b1 w hb1 hS hM
  refine s_alloc hS hM (by decide) zero37 ?_; clear hS hM; intro a b2 w hb2 hS hM
  refine s_nil ?_
  refine k_seq ?_
  refine c_seq ?_
  refine c_region ?_
  refine s_val hS (by decide) rfl rfl (r_build hS rfl (cs := cI 16 (fun _ => 0)) (fun _ => by kernel_rfl)) ?_; clear hS; intro a hS
  refine s_alloc hS hM (by decide) zero37 ?_; clear hS hM; intro a b3 w hb3 hS hM
  refine s_storeAll hS hM rfl rfl (j := 0) rfl sz37 cells_len cells_len cI_one ?_; clear hS hM; intro a w hS hM
  refine s_nil ?_
  refine k_seq ?_
  refine c_seq ?_
  refine c_seq ?_
  refine c_region ?_
  refine s_val hS (by decide) rfl rfl (r_assign hS (show ev _ _ = some (N 0) from rfl)) ?_; clear hS; intro a hS
  refine s_nil ?_
  refine k_seq ?_
  refine c_block ?_
  refine c_loop (σ := Nat) (fun k a w => (k ≤ 16) ∧ Slots a 31 (env [(1, ptr b1 0), (2, ptr b2 0), (3, ptr b3 0), (4, N k)]) ∧ Mem w0 w ([⟨b3, 37, cI 16 (fil 0 (dig (natB f 32)) k)⟩, ⟨b2, 37, cI 16 (fun _ => 0)⟩, ⟨b1, 22, cB 32 f⟩])) (fun k => 16 - k) (0) ⟨by omega, hS.to _ ⟨rfl, rfl, rfl, rfl, trivial⟩, hM⟩ ?_
  clear hS hM; rintro k a w ⟨hk, hS, hM⟩
  refine c_seq ?_
  refine c_seq ?_
  refine c_region ?_
  refine s_val hS (by decide) rfl rfl (r_move hS rfl) ?_; clear hS; intro a hS
  refine s_val hS (by decide) rfl rfl (r_bv hS rfl (show ev _ _ = some (N 16) from rfl) gN (b_lssN _ _ _)) ?_; clear hS; intro a hS
  refine s_nil ?_
  refine k_seq ?_
  refine c_cond hS rfl (fun hc => ?_) (fun hc => ?_)
  · have hk1 := of_decide_eq_true hc
    refine c_skip ?_
    refine k_seq ?_
    refine c_seq ?_
    refine c_block ?_
    refine c_plan 15 (fun w => Mem w0 w _) [(4, _), (1, _), (3, _), (2, _), (6, _), (7, _)] (by kernel_rfl) (by kernel_rfl) hS ⟨rfl, rfl, rfl, rfl, rfl, rfl, trivial⟩ (hM.drawn _) ?_; clear hS hM
    refine p_step rfl (fun a w hS hM => y_val rfl (r_move hS rfl)) ?_
    refine p_step rfl (fun a w hS hM => y_val rfl (r_move hS rfl)) ?_
    refine p_step rfl (fun a w hS hM => y_val rfl (r_bv hS (show ev _ _ = some (N 2) from rfl) rfl gN (b_mulN _ _ _ (by omega)))) ?_
    refine p_step rfl (fun a w hS hM => y_val rfl (r_index0 hS rfl rfl Try.underlying22 sz5 (by omega))) ?_
    refine p_step rfl (fun a w hS hM => y_val rfl (r_load hS hM rfl (j := 2) rfl Try.underlying5 rfl (cells_get (by omega)))) ?_
    refine p_step rfl (fun a w hS hM => y_val rfl (r_conv hS rfl (by kernel_rfl) Try.underlying2 (cv_BI _))) ?_
    refine p_step rfl (fun a w hS hM => y_val rfl (r_move hS rfl)) ?_
    refine p_step rfl (fun a w hS hM => y_val rfl (r_bv hS (show ev _ _ = some (N 2) from rfl) rfl gN (b_mulN _ _ _ (by omega)))) ?_
    refine p_step rfl (fun a w hS hM => y_val rfl (r_bv hS rfl (show ev _ _ = some (N 1) from rfl) gN (b_addN _ _ _ (by omega)))) ?_
    refine p_step rfl (fun a w hS hM => y_val rfl (r_index0 hS rfl rfl Try.underlying22 sz5 (by omega))) ?_
    refine p_step rfl (fun a w hS hM => y_val rfl (r_load hS hM rfl (j := 2) rfl Try.underlying5 rfl (cells_get (by omega)))) ?_
    refine p_step rfl (fun a w hS hM => y_val rfl (r_conv hS rfl (by kernel_rfl) Try.underlying2 (cv_BI _))) ?_
    refine p_step rfl (fun a w hS hM => y_val rfl (r_bv hS (show ev _ _ = some (I 256#64) from rfl) rfl gI (b_mulI _ _ _))) ?_
    refine p_step rfl (fun a w hS hM => y_val rfl (r_bv hS rfl rfl gI (b_addI _ _ _))) ?_
    refine p_step rfl (fun a w hS hM => y_val rfl (r_index0 hS rfl rfl Try.underlying37 sz2 (by omega))) ?_
    refine p_nil rfl ?_; intro a w hS hM
    refine s_storeI hS hM rfl rfl (j := 0) rfl sz2 (by omega) ?_; clear hS hM; intro a w hS hM
    refine s_nil ?_
    refine k_in ?_
    refine k_seq ?_
    refine c_region ?_
    refine s_val hS (by decide) rfl rfl (r_move hS rfl) ?_; clear hS; intro a hS
    refine s_val hS (by decide) rfl rfl (r_bv hS rfl (show ev _ _ = some (N 1) from rfl) gN (b_addN _ _ _ (by omega))) ?_; clear hS; intro a hS
    refine s_val hS (by decide) rfl rfl (r_assign hS rfl) ?_; clear hS; intro a hS
    refine s_nil ?_
    refine k_then ?_
    refine ⟨k + 1, by omega, by omega, hS.to _ ⟨rfl, rfl, rfl, rfl, trivial⟩, (hM.congr (by rw [pair_dig f k hk1]; rfl))⟩
  · obtain rfl : k = 16 := by have := of_decide_eq_false hc; omega
    refine c_exit ?_
    refine k_thenx ?_
    refine k_thenx ?_
    refine k_inx ?_
    refine k_seq ?_
    refine c_seq ?_
    refine c_region ?_
    refine s_val hS (by decide) rfl rfl (r_index0 hS rfl (show ev _ _ = some (.int .i64 ((15 : Nat) : Int)) from rfl) Try.underlying37 sz2 (by decide)) ?_; clear hS; intro a hS
    refine s_val hS (by decide) rfl rfl (r_load hS hM rfl (j := 0) rfl Try.underlying2 rfl (cells_get (by omega))) ?_; clear hS; intro a hS
    refine s_val hS (by decide) rfl rfl (r_bv hS rfl (show ev _ _ = some (I 32767#64) from rfl) gI (b_andI _ _ _)) ?_; clear hS; intro a hS
    refine s_val hS (by decide) rfl rfl (r_index0 hS rfl (show ev _ _ = some (.int .i64 ((15 : Nat) : Int)) from rfl) Try.underlying37 sz2 (by decide)) ?_; clear hS; intro a hS
    refine s_storeI hS hM rfl rfl (j := 0) rfl sz2 (by omega) ?_; clear hS hM; intro a w hS hM
    rw [from_top] at hM
    refine s_nil ?_
    refine k_seq ?_
    refine c_seq ?_
    refine c_region ?_
    refine s_val hS (by decide) rfl rfl (r_loadAll hS hM rfl (j := 0) rfl Try.underlying37 rfl sz37 cells_len) ?_; clear hS; intro a hS
    refine s_pure hS hM (by decide) rfl (norm_ok (by decide) (from_bound _) (from_sum _) (from_lt _) _) ?_; clear hS hM; intro a w hS hM
    refine s_storeAll hS hM rfl rfl (j := 1) rfl sz37 cells_len cells_len cI_one ?_; clear hS hM; intro a w hS hM
    refine s_nil ?_
    refine k_seq ?_
    refine c_ret ?_
    exact k_res1 hS rfl (RV.row rfl (hM.have_ _ (mem_of_get (j := 1) rfl)) Try.underlying37 rfl (by rw [sz37]; exact congrArg some cells_len.symm)) ⟨rfl, hM.done ⟨hb3, hb2, hb1, trivial⟩⟩

set_option maxRecDepth 100000 in
theorem rsmall_ok (n : BitVec 64) (w0 : World) : Pure Try.prog 33 #[U n] w0 (.agg (cI 16 (dig n.toNat)).toArray) := by
  refine ⟨by kernel_rfl, ?_⟩
  refine calls_sym Try.func33 rfl (by kernel_rfl) ?_
  intro a hS
  have hM : Mem w0 w0 [] := Mem.refl w0
  refine c_seq ?_
  refine c_region ?_
  refine s_alloc hS hM (by decide) zero37 ?_; clear hS hM; intro a b2 w hb2 hS hM
  refine s_nil ?_
  refine k_seq ?_
  refine c_seq ?_
  refine c_region ?_
  refine s_val hS (by decide) rfl rfl (r_build hS rfl (cs := cI 16 (fun _ => 0)) (fun _ => by kernel_rfl)) ?_; clear hS; intro a hS
  refine s_alloc hS hM (by decide) zero37 ?_; clear hS hM; intro a b3 w hb3 hS hM
  refine s_storeAll hS hM rfl rfl (j := 0) rfl sz37 cells_len cells_len cI_one ?_; clear hS hM; intro a w hS hM
  refine s_nil ?_
  refine k_seq ?_
  refine c_seq ?_
  refine c_seq ?_
  refine c_region ?_
  refine s_val hS (by decide) rfl rfl (r_assign hS (show ev _ _ = some (N 0) from rfl)) ?_; clear hS; intro a hS
  refine s_nil ?_
  refine k_seq ?_
  refine c_block ?_
  refine c_loop (σ := Nat) (fun k a w => (k ≤ 4) ∧ Slots a 20 (env [(0, U n), (2, ptr b2 0), (3, ptr b3 0), (4, N k)]) ∧ Mem w0 w ([⟨b3, 37, cI 16 (fil 0 (dig n.toNat) k)⟩, ⟨b2, 37, cI 16 (fun _ => 0)⟩])) (fun k => 4 - k) (0) ⟨by omega, hS.to _ ⟨rfl, rfl, rfl, rfl, trivial⟩, hM⟩ ?_
  clear hS hM; rintro k a w ⟨hk, hS, hM⟩
  refine c_seq ?_
  refine c_seq ?_
  refine c_region ?_
  refine s_val hS (by decide) rfl rfl (r_move hS rfl) ?_; clear hS; intro a hS
  refine s_val hS (by decide) rfl rfl (r_bv hS rfl (show ev _ _ = some (N 4) from rfl) gN (b_lssN _ _ _)) ?_; clear hS; intro a hS
  refine s_nil ?_
  refine k_seq ?_
  refine c_cond hS rfl (fun hc => ?_) (fun hc => ?_)
  · have hk1 := of_decide_eq_true hc
    refine c_skip ?_
    refine k_seq ?_
    refine c_seq ?_
    refine c_block ?_
    refine c_region ?_
    refine s_val hS (by decide) rfl rfl (r_move hS rfl) ?_; clear hS; intro a hS
    refine s_val hS (by decide) rfl rfl (r_move hS rfl) ?_; clear hS; intro a hS
    refine s_val hS (by decide) rfl rfl (r_move hS rfl) ?_; clear hS; intro a hS
    refine s_val hS (by decide) rfl rfl (r_bv hS (show ev _ _ = some (N 16) from rfl) rfl gN (b_mulN _ _ _ (by omega))) ?_; clear hS; intro a hS
    refine s_val hS (by decide) rfl rfl (r_conv hS rfl (by kernel_rfl) Try.underlying50 (cv_NU _)) ?_; clear hS; intro a hS
    refine s_val hS (by decide) rfl rfl (r_bv hS rfl rfl gU (b_shrU _ _ _ (BitVec.toNat _))) ?_; clear hS; intro a hS
    refine s_val hS (by decide) rfl rfl (r_bv hS rfl (show ev _ _ = some (U 65535#64) from rfl) gU (b_andU _ _ _)) ?_; clear hS; intro a hS
    refine s_val hS (by decide) rfl rfl (r_conv hS rfl (by kernel_rfl) Try.underlying2 (cv_UI _)) ?_; clear hS; intro a hS
    refine s_val hS (by decide) rfl rfl (r_index0 hS rfl rfl Try.underlying37 sz2 (by omega)) ?_; clear hS; intro a hS
    refine s_storeI hS hM rfl rfl (j := 0) rfl sz2 (by omega) ?_; clear hS hM; intro a w hS hM
    refine s_nil ?_
    refine k_in ?_
    refine k_seq ?_
    refine c_region ?_
    refine s_val hS (by decide) rfl rfl (r_move hS rfl) ?_; clear hS; intro a hS
    refine s_val hS (by decide) rfl rfl (r_bv hS rfl (show ev _ _ = some (N 1) from rfl) gN (b_addN _ _ _ (by omega))) ?_; clear hS; intro a hS
    refine s_val hS (by decide) rfl rfl (r_assign hS rfl) ?_; clear hS; intro a hS
    refine s_nil ?_
    refine k_then ?_
    refine ⟨k + 1, by omega, by omega, hS.to _ ⟨rfl, rfl, rfl, rfl, trivial⟩, (hM.congr (by rw [small_dig n k hk1]; rfl))⟩
  · obtain rfl : k = 4 := (by have := of_decide_eq_false hc; omega); rw [small_all] at hM
    refine c_exit ?_
    refine k_thenx ?_
    refine k_thenx ?_
    refine k_inx ?_
    refine k_seq ?_
    refine c_seq ?_
    refine c_region ?_
    refine s_val hS (by decide) rfl rfl (r_loadAll hS hM rfl (j := 0) rfl Try.underlying37 rfl sz37 cells_len) ?_; clear hS; intro a hS
    refine s_storeAll hS hM rfl rfl (j := 1) rfl sz37 cells_len cells_len cI_one ?_; clear hS hM; intro a w hS hM
    refine s_nil ?_
    refine k_seq ?_
    refine c_ret ?_
    exact k_res1 hS rfl (RV.row rfl (hM.have_ _ (mem_of_get (j := 1) rfl)) Try.underlying37 rfl (by rw [sz37]; exact congrArg some cells_len.symm)) ⟨rfl, hM.done ⟨hb3, hb2, trivial⟩⟩

set_option maxRecDepth 100000 in
theorem rbytes_ok (n : Nat) (w0 : World) : Pure Try.prog 30 #[.agg (cI 16 (dig n)).toArray] w0 (.agg (cB 32 (byt n)).toArray) := by
  refine ⟨by kernel_rfl, ?_⟩
  refine calls_sym Try.func30 rfl (by kernel_rfl) ?_
  intro a hS
  have hM : Mem w0 w0 [] := Mem.refl w0
  refine c_seq ?_
  refine c_region ?_
  refine s_box hS hM (by decide) rfl rfl ?_; clear hS hM; intro a b1 w hb1 hS hM
  refine s_alloc hS hM (by decide) zero22 ?_; clear hS hM; intro a b2 w hb2 hS hM
  refine s_nil ?_
  refine k_seq ?_
  refine c_seq ?_
  refine c_region ?_
  refine s_val hS (by decide) rfl rfl (r_build hS rfl (cs := cB 32 (fun _ => 0)) (fun _ => by kernel_rfl)) ?_; clear hS; intro a hS
  refine s_alloc hS hM (by decide) zero22 ?_; clear hS hM; intro a b3 w hb3 hS hM
  refine s_storeAll hS hM rfl rfl (j := 0) rfl sz22 cells_len cells_len cB_one ?_; clear hS hM; intro a w hS hM
  refine s_nil ?_
  refine k_seq ?_
  refine c_seq ?_
  refine c_seq ?_
  refine c_region ?_
  refine s_val hS (by decide) rfl rfl (r_assign hS (show ev _ _ = some (N 0) from rfl)) ?_; clear hS; intro a hS
  refine s_nil ?_
  refine k_seq ?_
  refine c_block ?_
  refine c_loop (σ := Nat) (fun k a w => (k ≤ 16) ∧ Slots a 28 (env [(1, ptr b1 0), (2, ptr b2 0), (3, ptr b3 0), (4, N k)]) ∧ Mem w0 w ([⟨b3, 22, cB 32 (fil 0 (byt n) (2 * k))⟩, ⟨b2, 22, cB 32 (fun _ => 0)⟩, ⟨b1, 37, cI 16 (dig n)⟩])) (fun k => 16 - k) (0) ⟨by omega, hS.to _ ⟨rfl, rfl, rfl, rfl, trivial⟩, hM⟩ ?_
  clear hS hM; rintro k a w ⟨hk, hS, hM⟩
  refine c_seq ?_
  refine c_seq ?_
  refine c_region ?_
  refine s_val hS (by decide) rfl rfl (r_move hS rfl) ?_; clear hS; intro a hS
  refine s_val hS (by decide) rfl rfl (r_bv hS rfl (show ev _ _ = some (N 16) from rfl) gN (b_lssN _ _ _)) ?_; clear hS; intro a hS
  refine s_nil ?_
  refine k_seq ?_
  refine c_cond hS rfl (fun hc => ?_) (fun hc => ?_)
  · have hk1 := of_decide_eq_true hc
    refine c_skip ?_
    refine k_seq ?_
    refine c_seq ?_
    refine c_block ?_
    refine c_seq ?_
    refine c_region ?_
    refine s_val hS (by decide) rfl rfl (r_move hS rfl) ?_; clear hS; intro a hS
    refine s_val hS (by decide) rfl rfl (r_bv hS (show ev _ _ = some (N 2) from rfl) rfl gN (b_mulN _ _ _ (by omega))) ?_; clear hS; intro a hS
    refine s_val hS (by decide) rfl rfl (r_move hS rfl) ?_; clear hS; intro a hS
    refine s_val hS (by decide) rfl rfl (r_index0 hS rfl rfl Try.underlying37 sz2 (by omega)) ?_; clear hS; intro a hS
    refine s_val hS (by decide) rfl rfl (r_load hS hM rfl (j := 2) rfl Try.underlying2 rfl (cells_get (by omega))) ?_; clear hS; intro a hS
    refine s_val hS (by decide) rfl rfl (r_bv hS rfl (show ev _ _ = some (I 255#64) from rfl) gI (b_andI _ _ _)) ?_; clear hS; intro a hS
    refine s_val hS (by decide) rfl rfl (r_conv hS rfl (by kernel_rfl) Try.underlying5 (cv_IB _)) ?_; clear hS; intro a hS
    refine s_val hS (by decide) rfl rfl (r_index0 hS rfl rfl Try.underlying22 sz5 (by omega)) ?_; clear hS; intro a hS
    refine s_storeB hS hM rfl rfl (j := 0) rfl sz5 (by omega) ?_; clear hS hM; intro a w hS hM
    refine s_nil ?_
    refine k_seq ?_
    refine c_region ?_
    refine s_val hS (by decide) rfl rfl (r_move hS rfl) ?_; clear hS; intro a hS
    refine s_val hS (by decide) rfl rfl (r_bv hS (show ev _ _ = some (N 2) from rfl) rfl gN (b_mulN _ _ _ (by omega))) ?_; clear hS; intro a hS
    refine s_val hS (by decide) rfl rfl (r_bv hS rfl (show ev _ _ = some (N 1) from rfl) gN (b_addN _ _ _ (by omega))) ?_; clear hS; intro a hS
    refine s_val hS (by decide) rfl rfl (r_move hS rfl) ?_; clear hS; intro a hS
    refine s_val hS (by decide) rfl rfl (r_index0 hS rfl rfl Try.underlying37 sz2 (by omega)) ?_; clear hS; intro a hS
    refine s_val hS (by decide) rfl rfl (r_load hS hM rfl (j := 2) rfl Try.underlying2 rfl (cells_get (by omega))) ?_; clear hS; intro a hS
    refine s_val hS (by decide) rfl rfl (r_bv hS rfl (show ev _ _ = some (.int .u64 ((8 : Nat) : Int)) from rfl) gI (b_shrI _ _ _ 8)) ?_; clear hS; intro a hS
    refine s_val hS (by decide) rfl rfl (r_conv hS rfl (by kernel_rfl) Try.underlying5 (cv_IB _)) ?_; clear hS; intro a hS
    refine s_val hS (by decide) rfl rfl (r_index0 hS rfl rfl Try.underlying22 sz5 (by omega)) ?_; clear hS; intro a hS
    refine s_storeB hS hM rfl rfl (j := 0) rfl sz5 (by omega) ?_; clear hS hM; intro a w hS hM
    refine s_nil ?_
    refine k_in ?_
    refine k_seq ?_
    refine c_region ?_
    refine s_val hS (by decide) rfl rfl (r_move hS rfl) ?_; clear hS; intro a hS
    refine s_val hS (by decide) rfl rfl (r_bv hS rfl (show ev _ _ = some (N 1) from rfl) gN (b_addN _ _ _ (by omega))) ?_; clear hS; intro a hS
    refine s_val hS (by decide) rfl rfl (r_assign hS rfl) ?_; clear hS; intro a hS
    refine s_nil ?_
    refine k_then ?_
    refine ⟨k + 1, by omega, by omega, hS.to _ ⟨rfl, rfl, rfl, rfl, trivial⟩, (hM.congr (by rw [dig_bytes0, dig_bytes1]; rfl))⟩
  · obtain rfl : k = 16 := (by have := of_decide_eq_false hc; omega); rw [bytes_all] at hM
    refine c_exit ?_
    refine k_thenx ?_
    refine k_thenx ?_
    refine k_inx ?_
    refine k_seq ?_
    refine c_seq ?_
    refine c_region ?_
    refine s_val hS (by decide) rfl rfl (r_loadAll hS hM rfl (j := 0) rfl Try.underlying22 rfl sz22 cells_len) ?_; clear hS; intro a hS
    refine s_storeAll hS hM rfl rfl (j := 1) rfl sz22 cells_len cells_len cB_one ?_; clear hS hM; intro a w hS hM
    refine s_nil ?_
    refine k_seq ?_
    refine c_ret ?_
    exact k_res1 hS rfl (RV.row rfl (hM.have_ _ (mem_of_get (j := 1) rfl)) Try.underlying22 rfl (by rw [sz22]; exact congrArg some cells_len.symm)) ⟨rfl, hM.done ⟨hb3, hb2, hb1, trivial⟩⟩

set_option maxRecDepth 100000 in
theorem rcanon_ok (f : Nat → BitVec 8) (w0 : World) : Pure Try.prog 34 #[.agg (cB 32 f).toArray] w0 (.bool (decide (natB f 32 % 2 ^ 255 < pP))) := by
  refine ⟨by kernel_rfl, ?_⟩
  refine calls_sym Try.func34 rfl (by kernel_rfl) ?_
  intro a hS
  have hM : Mem w0 w0 [] := Mem.refl w0
  refine c_seq ?_
  refine c_region ?_
  refine s_box hS hM (by decide) rfl rfl ?_; clear hS hM; intro a b1 w hb1 hS hM
  refine s_val hS (by decide) rfl rfl (r_assign hS rfl) ?_; clear hS; intro a hS
  refine s_nil ?_
  refine k_seq ?_
  refine c_seq ?_
  refine c_region ?_
  refine s_val hS (by decide) rfl rfl (r_index0 hS rfl (show ev _ _ = some (.int .i64 ((31 : Nat) : Int)) from rfl) Try.underlying22 sz5 (by decide)) ?_; clear hS; intro a hS
  refine s_val hS (by decide) rfl rfl (r_load hS hM rfl (j := 0) rfl Try.underlying5 rfl (cells_get (by omega))) ?_; clear hS; intro a hS
  refine s_val hS (by decide) rfl rfl (r_bv hS rfl (show ev _ _ = some (B 127#8) from rfl) gB (b_andB _ _ _)) ?_; clear hS; intro a hS
  refine s_val hS (by decide) rfl rfl (r_index0 hS rfl (show ev _ _ = some (.int .i64 ((31 : Nat) : Int)) from rfl) Try.underlying22 sz5 (by decide)) ?_; clear hS; intro a hS
  refine s_storeB hS hM rfl rfl (j := 0) rfl sz5 (by omega) ?_; clear hS hM; intro a w hS hM
  refine s_nil ?_
  refine k_seq ?_
  refine c_seq ?_
  refine c_plan 6 (fun w => Mem w0 w _) [(1, _)] (by kernel_rfl) (by kernel_rfl) hS ⟨rfl, trivial⟩ (hM.drawn _) ?_; clear hS hM
  refine p_step rfl (fun a w hS hM => y_val rfl (r_loadAll hS hM rfl (j := 0) rfl Try.underlying22 rfl sz22 cells_len)) ?_
  refine p_step rfl (fun a w hS hM => y_call (by kernel_rfl) hS rfl ((rfrom_ok _ _).mem hM)) ?_
  refine p_step rfl (fun a w hS hM => y_call (by kernel_rfl) hS rfl ((rbytes_ok _ _).mem hM)) ?_
  refine p_step rfl (fun a w hS hM => y_val rfl (r_loadAll hS hM rfl (j := 0) rfl Try.underlying22 rfl sz22 cells_len)) ?_
  refine p_step rfl (fun a w hS hM => y_val rfl (r_eqlB hS rfl rfl (by kernel_rfl) Try.underlying22 Try.underlying5 sz5)) ?_
  refine p_step rfl (fun a w hS hM => y_val rfl (r_assign hS rfl)) ?_
  refine p_nil rfl ?_; intro a w hS hM
  refine s_nil ?_
  refine k_seq ?_
  refine c_ret ?_
  exact k_res1 hS rfl (RV.tmp rfl) ⟨(congrArg (fun q => Ending.returned (.bool q)) (rcanon_eqR f)), hM.done ⟨hb1, trivial⟩⟩

set_option maxRecDepth 100000 in
theorem rodd_ok (n : Nat) (w0 : World) : Pure Try.prog 35 #[.agg (cI 16 (dig n)).toArray] w0 (.bool (decide (n % 2 = 1))) := by
  refine ⟨by kernel_rfl, ?_⟩
  refine calls_sym Try.func35 rfl (by kernel_rfl) ?_
  intro a hS
  have hM : Mem w0 w0 [] := Mem.refl w0
  refine c_seq ?_
  refine c_region ?_
  refine s_box hS hM (by decide) rfl rfl ?_; clear hS hM; intro a b1 w hb1 hS hM
  refine s_val hS (by decide) rfl rfl (r_assign hS rfl) ?_; clear hS; intro a hS
  refine s_nil ?_
  refine k_seq ?_
  refine c_seq ?_
  refine c_region ?_
  refine s_val hS (by decide) rfl rfl (r_index0 hS rfl (show ev _ _ = some (.int .i64 ((0 : Nat) : Int)) from rfl) Try.underlying37 sz2 (by decide)) ?_; clear hS; intro a hS
  refine s_val hS (by decide) rfl rfl (r_load hS hM rfl (j := 0) rfl Try.underlying2 rfl (cells_get (by omega))) ?_; clear hS; intro a hS
  refine s_val hS (by decide) rfl rfl (r_bv hS rfl (show ev _ _ = some (.int .i64 (2)) from rfl) gZ (b_remZ _ _ _ (by omega))) ?_; clear hS; intro a hS
  refine s_val hS (by decide) rfl rfl (r_bv hS rfl (show ev _ _ = some (.int .i64 (1)) from rfl) gZ (b_eqlZ _ _ _)) ?_; clear hS; intro a hS
  refine s_val hS (by decide) rfl rfl (r_assign hS rfl) ?_; clear hS; intro a hS
  refine s_nil ?_
  refine k_seq ?_
  refine c_ret ?_
  exact k_res1 hS rfl (RV.tmp rfl) ⟨(congrArg (fun q => Ending.returned (.bool q)) (odd_dig n)), hM.done ⟨hb1, trivial⟩⟩
end Go.Proofs.Ytjnhgeoojnnfoaa
