/- The walks through package press. Printed by a program of mine (walk.py). -/
import Derived.Test.YtfojllcccncdbaaProg
import Derived.Test.YtfojllcccncdbaaPlain
namespace Go.Proofs.Ytfojllcccncdbaa
open Go Go.Sym
theorem sz5 : (Try.prog.info? 5).map (·.size) = some 1 := by kernel_rfl
theorem sz24 : (Try.prog.info? 24).map (·.size) = some 1 := by kernel_rfl
theorem sz25 : (Try.prog.info? 25).map (·.size) = some 16 := by kernel_rfl
theorem zero25 : Zero Try.prog 25 (cU 16 (fun _ => 0)) := fun _ => by kernel_rfl

set_option maxRecDepth 100000 in
theorem rotl_ok (x : BitVec 64) (k : Int) (w0 : World) : Pure Try.prog 42 #[U x, .int .i64 k] w0 (U (rotl x k)) := by
  refine ⟨by kernel_rfl, ?_⟩
  refine calls_sym Try.func42 rfl (by kernel_rfl) ?_
  intro a hS
  have hM : Mem w0 w0 [] := Mem.refl w0
  refine c_seq ?_
  refine c_region ?_
  refine s_val hS (by decide) rfl rfl (r_assign hS (show ev _ _ = some (U 0#64) from rfl)) ?_; clear hS; intro a hS
  refine s_nil ?_
  refine k_seq ?_
  refine c_seq ?_
  refine c_region ?_
  refine s_val hS (by decide) rfl rfl (r_move hS rfl) ?_; clear hS; intro a hS
  refine s_val hS (by decide) rfl rfl (r_conv hS rfl (by kernel_rfl) Try.underlying44 (cv_ZU _)) ?_; clear hS; intro a hS
  refine s_val hS (by decide) rfl rfl (r_bv hS rfl (show ev _ _ = some (U 63#64) from rfl) gU (b_andU _ _ _)) ?_; clear hS; intro a hS
  refine s_val hS (by decide) rfl rfl (r_assign hS rfl) ?_; clear hS; intro a hS
  refine s_nil ?_
  refine k_seq ?_
  refine c_seq ?_
  refine c_region ?_
  refine s_val hS (by decide) rfl rfl (r_move hS rfl) ?_; clear hS; intro a hS
  refine s_val hS (by decide) rfl rfl (r_move hS rfl) ?_; clear hS; intro a hS
  refine s_val hS (by decide) rfl rfl (r_bv hS rfl rfl gU (b_shlU _ _ _ (BitVec.toNat _))) ?_; clear hS; intro a hS
  refine s_val hS (by decide) rfl rfl (r_move hS rfl) ?_; clear hS; intro a hS
  refine s_val hS (by decide) rfl rfl (r_move hS rfl) ?_; clear hS; intro a hS
  refine s_val hS (by decide) rfl rfl (r_bv hS (show ev _ _ = some (U 64#64) from rfl) rfl gU (b_subU _ _ _)) ?_; clear hS; intro a hS
  refine s_val hS (by decide) rfl rfl (r_bv hS rfl rfl gU (b_shrU _ _ _ (BitVec.toNat _))) ?_; clear hS; intro a hS
  refine s_val hS (by decide) rfl rfl (r_bv hS rfl rfl gU (b_orU _ _ _)) ?_; clear hS; intro a hS
  refine s_val hS (by decide) rfl rfl (r_assign hS rfl) ?_; clear hS; intro a hS
  refine s_nil ?_
  refine k_seq ?_
  refine c_ret ?_
  exact k_res1 hS rfl (RV.tmp rfl) ⟨rfl, hM.done trivial⟩

set_option maxRecDepth 100000 in
theorem rotr_ok (x : BitVec 64) (n : Int) (_hn : -9223372036854775808 ≤ n ∧ n < 9223372036854775808) (w0 : World) : Pure Try.prog 17 #[U x, .int .i64 n] w0 (U (rotr x n)) := by
  have ht := tmod64 n
  refine ⟨by kernel_rfl, ?_⟩
  refine calls_sym Try.func17 rfl (by kernel_rfl) ?_
  intro a hS
  have hM : Mem w0 w0 [] := Mem.refl w0
  refine c_seq ?_
  refine c_region ?_
  refine s_val hS (by decide) rfl rfl (r_assign hS (show ev _ _ = some (U 0#64) from rfl)) ?_; clear hS; intro a hS
  refine s_nil ?_
  refine k_seq ?_
  refine c_seq ?_
  refine c_region ?_
  refine s_val hS (by decide) rfl rfl (r_move hS rfl) ?_; clear hS; intro a hS
  refine s_val hS (by decide) rfl rfl (r_move hS rfl) ?_; clear hS; intro a hS
  refine s_val hS (by decide) rfl rfl (r_bv hS rfl (show ev _ _ = some (.int .i64 (64)) from rfl) gZ (b_remZ _ _ _ (by omega))) ?_; clear hS; intro a hS
  refine s_val hS (by decide) rfl rfl (r_negZ hS rfl (by omega)) ?_; clear hS; intro a hS
  refine s_pure hS hM (by decide) rfl (rotl_ok _ _ _) ?_; clear hS hM; intro a w hS hM
  refine s_val hS (by decide) rfl rfl (r_assign hS rfl) ?_; clear hS; intro a hS
  refine s_nil ?_
  refine k_seq ?_
  refine c_ret ?_
  exact k_res1 hS rfl (RV.tmp rfl) ⟨rfl, hM.done trivial⟩

set_option maxRecDepth 100000 in
theorem ch_ok (x y z : BitVec 64) (w0 : World) : Pure Try.prog 19 #[U x, U y, U z] w0 (U (ch x y z)) := by
  refine ⟨by kernel_rfl, ?_⟩
  refine calls_sym Try.func19 rfl (by kernel_rfl) ?_
  intro a hS
  have hM : Mem w0 w0 [] := Mem.refl w0
  refine c_seq ?_
  refine c_region ?_
  refine s_val hS (by decide) rfl rfl (r_assign hS (show ev _ _ = some (U 0#64) from rfl)) ?_; clear hS; intro a hS
  refine s_nil ?_
  refine k_seq ?_
  refine c_seq ?_
  refine c_region ?_
  refine s_val hS (by decide) rfl rfl (r_move hS rfl) ?_; clear hS; intro a hS
  refine s_val hS (by decide) rfl rfl (r_move hS rfl) ?_; clear hS; intro a hS
  refine s_val hS (by decide) rfl rfl (r_bv hS rfl rfl gU (b_andU _ _ _)) ?_; clear hS; intro a hS
  refine s_val hS (by decide) rfl rfl (r_move hS rfl) ?_; clear hS; intro a hS
  refine s_val hS (by decide) rfl rfl (r_notU hS rfl) ?_; clear hS; intro a hS
  refine s_val hS (by decide) rfl rfl (r_move hS rfl) ?_; clear hS; intro a hS
  refine s_val hS (by decide) rfl rfl (r_bv hS rfl rfl gU (b_andU _ _ _)) ?_; clear hS; intro a hS
  refine s_val hS (by decide) rfl rfl (r_bv hS rfl rfl gU (b_xorU _ _ _)) ?_; clear hS; intro a hS
  refine s_val hS (by decide) rfl rfl (r_assign hS rfl) ?_; clear hS; intro a hS
  refine s_nil ?_
  refine k_seq ?_
  refine c_ret ?_
  exact k_res1 hS rfl (RV.tmp rfl) ⟨rfl, hM.done trivial⟩

set_option maxRecDepth 100000 in
theorem maj_ok (x y z : BitVec 64) (w0 : World) : Pure Try.prog 18 #[U x, U y, U z] w0 (U (maj x y z)) := by
  refine ⟨by kernel_rfl, ?_⟩
  refine calls_sym Try.func18 rfl (by kernel_rfl) ?_
  intro a hS
  have hM : Mem w0 w0 [] := Mem.refl w0
  refine c_seq ?_
  refine c_region ?_
  refine s_val hS (by decide) rfl rfl (r_assign hS (show ev _ _ = some (U 0#64) from rfl)) ?_; clear hS; intro a hS
  refine s_nil ?_
  refine k_seq ?_
  refine c_seq ?_
  refine c_region ?_
  refine s_val hS (by decide) rfl rfl (r_move hS rfl) ?_; clear hS; intro a hS
  refine s_val hS (by decide) rfl rfl (r_move hS rfl) ?_; clear hS; intro a hS
  refine s_val hS (by decide) rfl rfl (r_bv hS rfl rfl gU (b_andU _ _ _)) ?_; clear hS; intro a hS
  refine s_val hS (by decide) rfl rfl (r_move hS rfl) ?_; clear hS; intro a hS
  refine s_val hS (by decide) rfl rfl (r_move hS rfl) ?_; clear hS; intro a hS
  refine s_val hS (by decide) rfl rfl (r_bv hS rfl rfl gU (b_andU _ _ _)) ?_; clear hS; intro a hS
  refine s_val hS (by decide) rfl rfl (r_bv hS rfl rfl gU (b_xorU _ _ _)) ?_; clear hS; intro a hS
  refine s_val hS (by decide) rfl rfl (r_move hS rfl) ?_; clear hS; intro a hS
  refine s_val hS (by decide) rfl rfl (r_move hS rfl) ?_; clear hS; intro a hS
  refine s_val hS (by decide) rfl rfl (r_bv hS rfl rfl gU (b_andU _ _ _)) ?_; clear hS; intro a hS
  refine s_val hS (by decide) rfl rfl (r_bv hS rfl rfl gU (b_xorU _ _ _)) ?_; clear hS; intro a hS
  refine s_val hS (by decide) rfl rfl (r_assign hS rfl) ?_; clear hS; intro a hS
  refine s_nil ?_
  refine k_seq ?_
  refine c_ret ?_
  exact k_res1 hS rfl (RV.tmp rfl) ⟨rfl, hM.done trivial⟩

set_option maxRecDepth 100000 in
theorem small_ok (x : BitVec 64) (a b d : Nat) (_h : a < 64 ∧ b < 64) (w0 : World) : Pure Try.prog 43 #[U x, N a, N b, N d] w0 (U (small x a b d)) := by
  refine ⟨by kernel_rfl, ?_⟩
  refine calls_sym Try.func43 rfl (by kernel_rfl) ?_
  intro a hS
  have hM : Mem w0 w0 [] := Mem.refl w0
  refine c_seq ?_
  refine c_region ?_
  refine s_val hS (by decide) rfl rfl (r_assign hS (show ev _ _ = some (U 0#64) from rfl)) ?_; clear hS; intro a hS
  refine s_nil ?_
  refine k_seq ?_
  refine c_seq ?_
  refine c_plan 12 (fun w => Mem w0 w _) [(0, _), (1, _), (2, _), (3, _)] (by kernel_rfl) (by kernel_rfl) hS ⟨rfl, rfl, rfl, rfl, trivial⟩ (hM.drawn _) ?_; clear hS hM
  refine p_step rfl (fun a w hS hM => y_val rfl (r_move hS rfl)) ?_
  refine p_step rfl (fun a w hS hM => y_val rfl (r_move hS rfl)) ?_
  refine p_step rfl (fun a w hS hM => y_call (by kernel_rfl) hS rfl ((rotr_ok _ _ (by omega) _).mem hM)) ?_
  refine p_step rfl (fun a w hS hM => y_val rfl (r_move hS rfl)) ?_
  refine p_step rfl (fun a w hS hM => y_val rfl (r_move hS rfl)) ?_
  refine p_step rfl (fun a w hS hM => y_call (by kernel_rfl) hS rfl ((rotr_ok _ _ (by omega) _).mem hM)) ?_
  refine p_step rfl (fun a w hS hM => y_val rfl (r_bv hS rfl rfl gU (b_xorU _ _ _))) ?_
  refine p_step rfl (fun a w hS hM => y_val rfl (r_move hS rfl)) ?_
  refine p_step rfl (fun a w hS hM => y_val rfl (r_move hS rfl)) ?_
  refine p_step rfl (fun a w hS hM => y_val rfl (r_bv hS rfl rfl gU (b_shrU _ _ _ _))) ?_
  refine p_step rfl (fun a w hS hM => y_val rfl (r_bv hS rfl rfl gU (b_xorU _ _ _))) ?_
  refine p_step rfl (fun a w hS hM => y_val rfl (r_assign hS rfl)) ?_
  refine p_nil rfl ?_; intro a w hS hM
  refine s_nil ?_
  refine k_seq ?_
  refine c_ret ?_
  exact k_res1 hS rfl (RV.tmp rfl) ⟨rfl, hM.done trivial⟩

set_option maxRecDepth 100000 in
theorem great_ok (x : BitVec 64) (a b c : Nat) (_h : a < 64 ∧ b < 64 ∧ c < 64) (w0 : World) : Pure Try.prog 45 #[U x, N a, N b, N c] w0 (U (great x a b c)) := by
  refine ⟨by kernel_rfl, ?_⟩
  refine calls_sym Try.func45 rfl (by kernel_rfl) ?_
  intro a hS
  have hM : Mem w0 w0 [] := Mem.refl w0
  refine c_seq ?_
  refine c_region ?_
  refine s_val hS (by decide) rfl rfl (r_assign hS (show ev _ _ = some (U 0#64) from rfl)) ?_; clear hS; intro a hS
  refine s_nil ?_
  refine k_seq ?_
  refine c_seq ?_
  refine c_region ?_
  refine s_val hS (by decide) rfl rfl (r_move hS rfl) ?_; clear hS; intro a hS
  refine s_val hS (by decide) rfl rfl (r_move hS rfl) ?_; clear hS; intro a hS
  refine s_pure hS hM (by decide) rfl (rotr_ok _ _ (by omega) _) ?_; clear hS hM; intro a w hS hM
  refine s_val hS (by decide) rfl rfl (r_move hS rfl) ?_; clear hS; intro a hS
  refine s_val hS (by decide) rfl rfl (r_move hS rfl) ?_; clear hS; intro a hS
  refine s_pure hS hM (by decide) rfl (rotr_ok _ _ (by omega) _) ?_; clear hS hM; intro a w hS hM
  refine s_val hS (by decide) rfl rfl (r_bv hS rfl rfl gU (b_xorU _ _ _)) ?_; clear hS; intro a hS
  refine s_val hS (by decide) rfl rfl (r_move hS rfl) ?_; clear hS; intro a hS
  refine s_val hS (by decide) rfl rfl (r_move hS rfl) ?_; clear hS; intro a hS
  refine s_pure hS hM (by decide) rfl (rotr_ok _ _ (by omega) _) ?_; clear hS hM; intro a w hS hM
  refine s_val hS (by decide) rfl rfl (r_bv hS rfl rfl gU (b_xorU _ _ _)) ?_; clear hS; intro a hS
  refine s_val hS (by decide) rfl rfl (r_assign hS rfl) ?_; clear hS; intro a hS
  refine s_nil ?_
  refine k_seq ?_
  refine c_ret ?_
  exact k_res1 hS rfl (RV.tmp rfl) ⟨rfl, hM.done trivial⟩

set_option maxRecDepth 100000 in
theorem words_ok (w0 : World) (b off cap : Nat) (f : Nat → BitVec 8) (hb : b < w0.heap.size) (hget : ∀ i, i < 128 → w0.cell? ⟨b, off + i, none⟩ = some (B (f i))) : Pure Try.prog 15 #[.slice (some ⟨b, off, none⟩) 128 cap] w0 (.tuple #[.agg (cU 16 (wordsTo f 128)).toArray, .bool true]) := by
  refine ⟨by kernel_rfl, ?_⟩
  refine calls_sym Try.func15 rfl (by kernel_rfl) ?_
  intro a hS
  have hM : Mem w0 w0 [] := Mem.refl w0
  refine c_seq ?_
  refine c_region ?_
  refine s_alloc hS hM (by decide) zero25 ?_; clear hS hM; intro a b2 w hb2 hS hM
  refine s_val hS (by decide) rfl rfl (r_assign hS rfl) ?_; clear hS; intro a hS
  refine s_nil ?_
  refine k_seq ?_
  refine c_seq ?_
  refine c_region ?_
  refine s_alloc hS hM (by decide) zero25 ?_; clear hS hM; intro a b4 w hb4 hS hM
  refine s_nil ?_
  refine k_seq ?_
  refine c_seq ?_
  refine c_seq ?_
  refine c_region ?_
  refine s_val hS (by decide) rfl rfl (r_move hS rfl) ?_; clear hS; intro a hS
  refine s_val hS (by decide) rfl rfl (r_len hS rfl Try.underlying22) ?_; clear hS; intro a hS
  refine s_val hS (by decide) rfl rfl (r_bv hS rfl (show ev _ _ = some (N 128) from rfl) gN (b_neqN _ _ _)) ?_; clear hS; intro a hS
  refine s_nil ?_
  refine k_seq ?_
  refine c_false hS rfl (rfl) ?_
  refine c_skip ?_
  refine k_seq ?_
  refine c_seq ?_
  refine c_seq ?_
  refine c_region ?_
  refine s_val hS (by decide) rfl rfl (r_move hS rfl) ?_; clear hS; intro a hS
  refine s_val hS (by decide) rfl rfl (r_len hS rfl Try.underlying22) ?_; clear hS; intro a hS
  refine s_val hS (by decide) rfl rfl (r_move hS (show ev _ _ = some (N 0) from rfl)) ?_; clear hS; intro a hS
  refine s_nil ?_
  refine k_seq ?_
  refine c_block ?_
  refine c_loop (σ := Nat) (fun k a w => (k ≤ 128) ∧ Slots a 31 (env [(11, .slice (some ⟨b, off, none⟩) 128 cap), (12, N 128), (13, N k), (4, ptr b4 0), (2, ptr b2 0)]) ∧ Mem w0 w [⟨b4, 25, cU 16 (wordsTo f k)⟩, ⟨b2, 25, cU 16 (fun _ => 0)⟩]) (fun k => 128 - k) (0) ⟨by omega, hS.to _ ⟨rfl, rfl, rfl, rfl, rfl, trivial⟩, hM⟩ ?_
  clear hS hM; rintro k a w ⟨hk, hS, hM⟩
  refine c_seq ?_
  refine c_region ?_
  refine s_val hS (by decide) rfl rfl (r_bv hS rfl rfl gN (b_lssN _ _ _)) ?_; clear hS; intro a hS
  refine s_nil ?_
  refine k_seq ?_
  refine c_seq ?_
  refine c_cond hS rfl (fun hc => ?_) (fun hc => ?_)
  · try simp at hc
    refine c_skip ?_
    refine k_seq ?_
    refine c_seq ?_
    refine c_block ?_
    refine c_seq ?_
    refine c_region ?_
    refine s_val hS (by decide) rfl rfl (r_move hS rfl) ?_; clear hS; intro a hS
    refine s_val hS (by decide) rfl rfl (r_indexS1 hS rfl rfl Try.underlying22 sz5 (by omega)) ?_; clear hS; intro a hS
    refine s_val hS (by decide) rfl rfl (r_loadOut hS hM rfl hb (allNe_spec ⟨ne_fresh hb hb4, ne_fresh hb hb2, trivial⟩) Try.underlying5 rfl (hget _ (by omega))) ?_; clear hS; intro a hS
    refine s_val hS (by decide) rfl rfl (r_assign hS rfl) ?_; clear hS; intro a hS
    refine s_val hS (by decide) rfl rfl (r_assign hS rfl) ?_; clear hS; intro a hS
    refine s_nil ?_
    refine k_seq ?_
    refine c_region ?_
    refine s_val hS (by decide) rfl rfl (r_move hS rfl) ?_; clear hS; intro a hS
    refine s_val hS (by decide) rfl rfl (r_bv hS rfl (show ev _ _ = some (N 8) from rfl) gN (b_quoN _ _ _ (by omega) (by omega))) ?_; clear hS; intro a hS
    refine s_val hS (by decide) rfl rfl (r_move hS rfl) ?_; clear hS; intro a hS
    refine s_val hS (by decide) rfl rfl (r_bv hS rfl (show ev _ _ = some (N 8) from rfl) gN (b_quoN _ _ _ (by omega) (by omega))) ?_; clear hS; intro a hS
    refine s_val hS (by decide) rfl rfl (r_index0 hS rfl rfl Try.underlying25 sz24 (by omega)) ?_; clear hS; intro a hS
    refine s_val hS (by decide) rfl rfl (r_load hS hM rfl (j := 0) rfl Try.underlying24 rfl (cells_get (by omega))) ?_; clear hS; intro a hS
    refine s_val hS (by decide) rfl rfl (r_bv hS rfl (show ev _ _ = some (.int .u64 ((8 : Nat) : Int)) from rfl) gU (b_shlU _ _ _ 8)) ?_; clear hS; intro a hS
    refine s_val hS (by decide) rfl rfl (r_move hS rfl) ?_; clear hS; intro a hS
    refine s_val hS (by decide) rfl rfl (r_conv hS rfl (by kernel_rfl) Try.underlying24 (cv_BU _)) ?_; clear hS; intro a hS
    refine s_val hS (by decide) rfl rfl (r_bv hS rfl rfl gU (b_orU _ _ _)) ?_; clear hS; intro a hS
    refine s_val hS (by decide) rfl rfl (r_index0 hS rfl rfl Try.underlying25 sz24 (by omega)) ?_; clear hS; intro a hS
    refine s_storeU hS hM rfl rfl (j := 0) rfl sz24 (by omega) ?_; clear hS hM; intro a w hS hM
    refine s_nil ?_
    refine k_in ?_
    refine k_seq ?_
    refine c_region ?_
    refine s_val hS (by decide) rfl rfl (r_bv hS rfl (show ev _ _ = some (N 1) from rfl) gN (b_addN _ _ _ (by omega))) ?_; clear hS; intro a hS
    refine s_val hS (by decide) rfl rfl (r_move hS rfl) ?_; clear hS; intro a hS
    refine s_nil ?_
    refine k_then ?_
    refine ⟨k + 1, by omega, by omega, hS.to _ ⟨rfl, rfl, rfl, rfl, rfl, trivial⟩, hM⟩
  · simp only [decide_eq_false_iff_not] at hc; obtain rfl : k = 128 := by omega
    refine c_exit ?_
    refine k_thenx ?_
    refine k_thenx ?_
    refine k_inx ?_
    refine k_seq ?_
    refine c_seq ?_
    refine c_region ?_
    refine s_val hS (by decide) rfl rfl (r_loadAll hS hM rfl (j := 0) rfl Try.underlying25 rfl sz25 cells_len) ?_; clear hS; intro a hS
    refine s_storeAll hS hM rfl rfl (j := 1) rfl sz25 cells_len cells_len cU_one ?_; clear hS hM; intro a w hS hM
    refine s_val hS (by decide) rfl rfl (r_assign hS rfl) ?_; clear hS; intro a hS
    refine s_nil ?_
    refine k_seq ?_
    refine c_ret ?_
    exact k_res2 hS rfl (RV.row rfl (hM.have_ _ (mem_of_get (j := 1) rfl)) Try.underlying25 rfl (by rw [sz25]; exact congrArg some cells_len.symm)) (RV.tmp rfl) ⟨rfl, hM.done ⟨hb4, hb2, trivial⟩⟩

set_option maxRecDepth 100000 in
theorem words_no (w0 : World) (ad : Option Addr) (len cap : Nat) (hl : len ≠ 128) : Pure Try.prog 15 #[.slice ad len cap] w0 (.tuple #[.agg (cU 16 (fun _ => 0)).toArray, .bool false]) := by
  refine ⟨by kernel_rfl, ?_⟩
  refine calls_sym Try.func15 rfl (by kernel_rfl) ?_
  intro a hS
  have hM : Mem w0 w0 [] := Mem.refl w0
  refine c_seq ?_
  refine c_region ?_
  refine s_alloc hS hM (by decide) zero25 ?_; clear hS hM; intro a b2 w hb2 hS hM
  refine s_val hS (by decide) rfl rfl (r_assign hS rfl) ?_; clear hS; intro a hS
  refine s_nil ?_
  refine k_seq ?_
  refine c_seq ?_
  refine c_region ?_
  refine s_alloc hS hM (by decide) zero25 ?_; clear hS hM; intro a b4 w hb4 hS hM
  refine s_nil ?_
  refine k_seq ?_
  refine c_seq ?_
  refine c_seq ?_
  refine c_region ?_
  refine s_val hS (by decide) rfl rfl (r_move hS rfl) ?_; clear hS; intro a hS
  refine s_val hS (by decide) rfl rfl (r_len hS rfl Try.underlying22) ?_; clear hS; intro a hS
  refine s_val hS (by decide) rfl rfl (r_bv hS rfl (show ev _ _ = some (N 128) from rfl) gN (b_neqN _ _ _)) ?_; clear hS; intro a hS
  refine s_nil ?_
  refine k_seq ?_
  refine c_true hS rfl (by simp [hl]) ?_
  refine c_seq ?_
  refine c_region ?_
  refine s_val hS (by decide) rfl rfl (r_loadAll hS hM rfl (j := 0) rfl Try.underlying25 rfl sz25 cells_len) ?_; clear hS; intro a hS
  refine s_storeAll hS hM rfl rfl (j := 1) rfl sz25 cells_len cells_len cU_one ?_; clear hS hM; intro a w hS hM
  refine s_val hS (by decide) rfl rfl (r_assign hS rfl) ?_; clear hS; intro a hS
  refine s_nil ?_
  refine k_seq ?_
  refine c_ret ?_
  refine k_thenr ?_
  exact k_res2 hS rfl (RV.row rfl (hM.have_ _ (mem_of_get (j := 1) rfl)) Try.underlying25 rfl (by rw [sz25]; exact congrArg some cells_len.symm)) (RV.tmp rfl) ⟨rfl, hM.done ⟨hb4, hb2, trivial⟩⟩

set_option maxRecDepth 100000 in
theorem rwords_ok (w0 : World) (b off cap : Nat) (f : Nat → BitVec 8) (hb : b < w0.heap.size) (hget : ∀ i, i < 128 → w0.cell? ⟨b, off + i, none⟩ = some (B (f i))) : Pure Try.prog 16 #[.slice (some ⟨b, off, none⟩) 128 cap] w0 (.tuple #[.agg (cU 16 (wordsTo f 128)).toArray, .bool true]) := by
  refine ⟨by kernel_rfl, ?_⟩
  refine calls_sym Try.func16 rfl (by kernel_rfl) ?_
  intro a hS
  have hM : Mem w0 w0 [] := Mem.refl w0
  refine c_seq ?_
  refine c_region ?_
  refine s_alloc hS hM (by decide) zero25 ?_; clear hS hM; intro a b2 w hb2 hS hM
  refine s_val hS (by decide) rfl rfl (r_assign hS rfl) ?_; clear hS; intro a hS
  refine s_nil ?_
  refine k_seq ?_
  refine c_seq ?_
  refine c_region ?_
  refine s_val hS (by decide) rfl rfl (r_build hS rfl (cs := cU 16 (fun _ => 0)) (fun _ => by kernel_rfl)) ?_; clear hS; intro a hS
  refine s_alloc hS hM (by decide) zero25 ?_; clear hS hM; intro a b4 w hb4 hS hM
  refine s_storeAll hS hM rfl rfl (j := 0) rfl sz25 cells_len cells_len cU_one ?_; clear hS hM; intro a w hS hM
  refine s_nil ?_
  refine k_seq ?_
  refine c_seq ?_
  refine c_seq ?_
  refine c_region ?_
  refine s_val hS (by decide) rfl rfl (r_move hS rfl) ?_; clear hS; intro a hS
  refine s_val hS (by decide) rfl rfl (r_len hS rfl Try.underlying22) ?_; clear hS; intro a hS
  refine s_val hS (by decide) rfl rfl (r_bv hS rfl (show ev _ _ = some (N 128) from rfl) gN (b_neqN _ _ _)) ?_; clear hS; intro a hS
  refine s_nil ?_
  refine k_seq ?_
  refine c_false hS rfl (rfl) ?_
  refine c_skip ?_
  refine k_seq ?_
  refine c_seq ?_
  refine c_seq ?_
  refine c_region ?_
  refine s_val hS (by decide) rfl rfl (r_assign hS (show ev _ _ = some (N 0) from rfl)) ?_; clear hS; intro a hS
  refine s_nil ?_
  refine k_seq ?_
  refine c_block ?_
  refine c_loop (σ := Nat) (fun k a w => (k ≤ 128) ∧ Slots a 30 (env [(0, .slice (some ⟨b, off, none⟩) 128 cap), (5, N k), (4, ptr b4 0), (2, ptr b2 0)]) ∧ Mem w0 w [⟨b4, 25, cU 16 (wordsTo f k)⟩, ⟨b2, 25, cU 16 (fun _ => 0)⟩]) (fun k => 128 - k) (0) ⟨by omega, hS.to _ ⟨rfl, rfl, rfl, rfl, trivial⟩, hM⟩ ?_
  clear hS hM; rintro k a w ⟨hk, hS, hM⟩
  refine c_seq ?_
  refine c_seq ?_
  refine c_region ?_
  refine s_val hS (by decide) rfl rfl (r_move hS rfl) ?_; clear hS; intro a hS
  refine s_val hS (by decide) rfl rfl (r_bv hS rfl (show ev _ _ = some (N 128) from rfl) gN (b_lssN _ _ _)) ?_; clear hS; intro a hS
  refine s_nil ?_
  refine k_seq ?_
  refine c_cond hS rfl (fun hc => ?_) (fun hc => ?_)
  · try simp at hc
    refine c_skip ?_
    refine k_seq ?_
    refine c_seq ?_
    refine c_block ?_
    refine c_plan 14 (fun w => Mem w0 w _) [(5, _), (4, _), (0, _), (2, _), (11, _), (12, _)] (by kernel_rfl) (by kernel_rfl) hS ⟨rfl, rfl, rfl, rfl, rfl, rfl, trivial⟩ (hM.drawn _) ?_; clear hS hM
    refine p_step rfl (fun a w hS hM => y_val rfl (r_move hS rfl)) ?_
    refine p_step rfl (fun a w hS hM => y_val rfl (r_bv hS rfl (show ev _ _ = some (N 8) from rfl) gN (b_quoN _ _ _ (by omega) (by omega)))) ?_
    refine p_step rfl (fun a w hS hM => y_val rfl (r_move hS rfl)) ?_
    refine p_step rfl (fun a w hS hM => y_val rfl (r_bv hS rfl (show ev _ _ = some (N 8) from rfl) gN (b_quoN _ _ _ (by omega) (by omega)))) ?_
    refine p_step rfl (fun a w hS hM => y_val rfl (r_index0 hS rfl rfl Try.underlying25 sz24 (by omega))) ?_
    refine p_step rfl (fun a w hS hM => y_val rfl (r_load hS hM rfl (j := 0) rfl Try.underlying24 rfl (cells_get (by omega)))) ?_
    refine p_step rfl (fun a w hS hM => y_val rfl (r_bv hS rfl (show ev _ _ = some (.int .u64 ((8 : Nat) : Int)) from rfl) gU (b_shlU _ _ _ 8))) ?_
    refine p_step rfl (fun a w hS hM => y_val rfl (r_move hS rfl)) ?_
    refine p_step rfl (fun a w hS hM => y_val rfl (r_move hS rfl)) ?_
    refine p_step rfl (fun a w hS hM => y_val rfl (r_indexS1 hS rfl rfl Try.underlying22 sz5 (by omega))) ?_
    refine p_step rfl (fun a w hS hM => y_val rfl (r_loadOut hS hM rfl hb (allNe_spec ⟨ne_fresh hb hb4, ne_fresh hb hb2, trivial⟩) Try.underlying5 rfl (hget _ (by omega)))) ?_
    refine p_step rfl (fun a w hS hM => y_val rfl (r_conv hS rfl (by kernel_rfl) Try.underlying24 (cv_BU _))) ?_
    refine p_step rfl (fun a w hS hM => y_val rfl (r_bv hS rfl rfl gU (b_orU _ _ _))) ?_
    refine p_step rfl (fun a w hS hM => y_val rfl (r_index0 hS rfl rfl Try.underlying25 sz24 (by omega))) ?_
    refine p_nil rfl ?_; intro a w hS hM
    refine s_storeU hS hM rfl rfl (j := 0) rfl sz24 (by omega) ?_; clear hS hM; intro a w hS hM
    refine s_nil ?_
    refine k_in ?_
    refine k_seq ?_
    refine c_region ?_
    refine s_val hS (by decide) rfl rfl (r_move hS rfl) ?_; clear hS; intro a hS
    refine s_val hS (by decide) rfl rfl (r_bv hS rfl (show ev _ _ = some (N 1) from rfl) gN (b_addN _ _ _ (by omega))) ?_; clear hS; intro a hS
    refine s_val hS (by decide) rfl rfl (r_assign hS rfl) ?_; clear hS; intro a hS
    refine s_nil ?_
    refine k_then ?_
    refine ⟨k + 1, by omega, by omega, hS.to _ ⟨rfl, rfl, rfl, rfl, trivial⟩, hM⟩
  · simp only [decide_eq_false_iff_not] at hc; obtain rfl : k = 128 := by omega
    refine c_exit ?_
    refine k_thenx ?_
    refine k_thenx ?_
    refine k_inx ?_
    refine k_seq ?_
    refine c_seq ?_
    refine c_region ?_
    refine s_val hS (by decide) rfl rfl (r_loadAll hS hM rfl (j := 0) rfl Try.underlying25 rfl sz25 cells_len) ?_; clear hS; intro a hS
    refine s_storeAll hS hM rfl rfl (j := 1) rfl sz25 cells_len cells_len cU_one ?_; clear hS hM; intro a w hS hM
    refine s_val hS (by decide) rfl rfl (r_assign hS rfl) ?_; clear hS; intro a hS
    refine s_nil ?_
    refine k_seq ?_
    refine c_ret ?_
    exact k_res2 hS rfl (RV.row rfl (hM.have_ _ (mem_of_get (j := 1) rfl)) Try.underlying25 rfl (by rw [sz25]; exact congrArg some cells_len.symm)) (RV.tmp rfl) ⟨rfl, hM.done ⟨hb4, hb2, trivial⟩⟩

set_option maxRecDepth 100000 in
theorem rwords_no (w0 : World) (ad : Option Addr) (len cap : Nat) (hl : len ≠ 128) : Pure Try.prog 16 #[.slice ad len cap] w0 (.tuple #[.agg (cU 16 (fun _ => 0)).toArray, .bool false]) := by
  refine ⟨by kernel_rfl, ?_⟩
  refine calls_sym Try.func16 rfl (by kernel_rfl) ?_
  intro a hS
  have hM : Mem w0 w0 [] := Mem.refl w0
  refine c_seq ?_
  refine c_region ?_
  refine s_alloc hS hM (by decide) zero25 ?_; clear hS hM; intro a b2 w hb2 hS hM
  refine s_val hS (by decide) rfl rfl (r_assign hS rfl) ?_; clear hS; intro a hS
  refine s_nil ?_
  refine k_seq ?_
  refine c_seq ?_
  refine c_region ?_
  refine s_val hS (by decide) rfl rfl (r_build hS rfl (cs := cU 16 (fun _ => 0)) (fun _ => by kernel_rfl)) ?_; clear hS; intro a hS
  refine s_alloc hS hM (by decide) zero25 ?_; clear hS hM; intro a b4 w hb4 hS hM
  refine s_storeAll hS hM rfl rfl (j := 0) rfl sz25 cells_len cells_len cU_one ?_; clear hS hM; intro a w hS hM
  refine s_nil ?_
  refine k_seq ?_
  refine c_seq ?_
  refine c_seq ?_
  refine c_region ?_
  refine s_val hS (by decide) rfl rfl (r_move hS rfl) ?_; clear hS; intro a hS
  refine s_val hS (by decide) rfl rfl (r_len hS rfl Try.underlying22) ?_; clear hS; intro a hS
  refine s_val hS (by decide) rfl rfl (r_bv hS rfl (show ev _ _ = some (N 128) from rfl) gN (b_neqN _ _ _)) ?_; clear hS; intro a hS
  refine s_nil ?_
  refine k_seq ?_
  refine c_true hS rfl (by simp [hl]) ?_
  refine c_seq ?_
  refine c_region ?_
  refine s_val hS (by decide) rfl rfl (r_loadAll hS hM rfl (j := 0) rfl Try.underlying25 rfl sz25 cells_len) ?_; clear hS; intro a hS
  refine s_storeAll hS hM rfl rfl (j := 1) rfl sz25 cells_len cells_len cU_one ?_; clear hS hM; intro a w hS hM
  refine s_val hS (by decide) rfl rfl (r_assign hS rfl) ?_; clear hS; intro a hS
  refine s_nil ?_
  refine k_seq ?_
  refine c_ret ?_
  refine k_thenr ?_
  exact k_res2 hS rfl (RV.row rfl (hM.have_ _ (mem_of_get (j := 1) rfl)) Try.underlying25 rfl (by rw [sz25]; exact congrArg some cells_len.symm)) (RV.tmp rfl) ⟨rfl, hM.done ⟨hb4, hb2, trivial⟩⟩
end Go.Proofs.Ytfojllcccncdbaa
