/- The walks of the ends and the mean of rows, on both sides. Printed by a program of mine (walk.py). -/
import Derived.Test.YtbfiaoemoookcaaDoorGlaws
import Derived.Test.YtbfiaoemoookcaaDoorGrow
namespace Go.Proofs.YtbfiaoemoookcaaDoor
open Go Go.Sym
attribute [local irreducible] dsF blen nd th fl mulR shw ds bs numL sumR

theorem sz22 : (Tryd.prog.info? 22).map (·.size) = some 1 := by kernel_rfl
theorem row31_1 (x0 : BitVec 64) : BuildsRow Tryd.prog 31 22 1 [(0, F x0)] [F x0] := fun _ => by kernel_rfl
theorem elem31 : ElemOk Tryd.prog 31 22 (.float .f64 0) 8 := ⟨Tryd.underlying31, by kernel_rfl, by decide, by decide⟩

set_option maxRecDepth 100000 in
theorem nan_ok  (w0 : World) : Pure Tryd.prog 39 #[] w0 (F nan0) := by
  refine ⟨by kernel_rfl, ?_⟩
  refine calls_sym Tryd.func39 rfl (by kernel_rfl) ?_
  intro a hS
  have hM : Mem w0 w0 [] := Mem.refl w0
  refine c_seq ?_
  refine c_region ?_
  refine s_val hS (by decide) rfl rfl (r_assign hS (show ev _ _ = some (F 0#64) from rfl)) ?_; clear hS; intro a hS
  refine s_nil ?_
  refine k_seq ?_
  refine c_seq ?_
  refine c_region ?_
  refine s_val hS (by decide) rfl rfl (r_ext ext36 hS (vs := [U nan0]) rfl (run_from _)) ?_; clear hS; intro a hS
  refine s_val hS (by decide) rfl rfl (r_assign hS rfl) ?_; clear hS; intro a hS
  refine s_nil ?_
  refine k_seq ?_
  refine c_ret ?_
  exact k_res1 hS rfl (RV.tmp rfl) ⟨rfl, hM.done trivial⟩

set_option maxRecDepth 100000 in
theorem numbers_ok (w0 : World) {v : Value} {m : Nat} {f : Nat → BitVec 64} (hr : Rd w0 v m (fun i => F (f i))) (hm : m ≤ 1000) : Fresh Tryd.prog 34 #[v] w0 22 (nums f m) := by
  refine ⟨by kernel_rfl, ?_⟩
  refine calls_sym Tryd.func34 rfl (by kernel_rfl) ?_
  intro a hS
  have hM : Mem w0 w0 [] := Mem.refl w0
  refine c_seq ?_
  refine c_region ?_
  refine s_val hS (by decide) rfl rfl (r_assign hS rfl) ?_; clear hS; intro a hS
  refine s_nil ?_
  refine k_seq ?_
  refine c_seq ?_
  refine c_region ?_
  refine s_val hS (by decide) rfl rfl (r_assign hS rfl) ?_; clear hS; intro a hS
  refine s_nil ?_
  refine k_seq ?_
  refine c_seq ?_
  refine c_seq ?_
  refine c_region ?_
  refine s_val hS (by decide) rfl rfl (r_move hS rfl) ?_; clear hS; intro a hS
  refine s_val hS (by decide) rfl rfl (r_lenR hS rfl (hr.keepGe hM trivial) Tryd.underlying31) ?_; clear hS; intro a hS
  refine s_val hS (by decide) rfl rfl (r_move hS (show ev _ _ = some (N 0) from rfl)) ?_; clear hS; intro a hS
  refine s_nil ?_
  refine k_seq ?_
  refine c_block ?_
  refine c_loop (σ := Nat × Value × List Blk) (fun s_ a w => (s_.1 ≤ m ∧ Own w0.heap.size 22 s_.2.1 (nums f s_.1) s_.2.2) ∧ Slots a 21 (env [(3, s_.2.1), (6, v), (7, N m), (8, N s_.1)]) ∧ Mem w0 w (s_.2.2)) (fun s_ => m - s_.1) (0, .slice none 0 0, []) ⟨⟨Nat.zero_le _, Own.nil.congr (nums_zero f).symm⟩, hS.to _ ⟨rfl, rfl, rfl, rfl, trivial⟩, hM⟩ ?_
  clear hS hM; rintro ⟨k, u, Lx⟩ a w ⟨hk, hS, hM⟩
  obtain ⟨hk, ho⟩ := hk; dsimp only at hk ho hS hM
  refine c_seq ?_
  refine c_region ?_
  refine s_val hS (by decide) rfl rfl (r_bv hS rfl rfl gN (b_lssN _ _ _)) ?_; clear hS; intro a hS
  refine s_nil ?_
  refine k_seq ?_
  refine c_seq ?_
  refine c_cond hS rfl (fun hc => ?_) (fun hc => ?_)
  · have hk1 := of_decide_eq_true hc
    refine c_skip ?_
    refine k_seq ?_
    refine c_seq ?_
    refine c_block ?_
    refine c_seq ?_
    refine c_region ?_
    refine s_val hS (by decide) rfl rfl (r_indexR hS rfl (hr.keepGe hM (allGe_of ho.ge)) rfl Tryd.underlying31 sz22 (by omega)) ?_; clear hS; intro a hS
    refine s_val hS (by decide) rfl rfl (r_loadR hS rfl (hr.keepGe hM (allGe_of ho.ge)) (by omega) Tryd.underlying22 rfl) ?_; clear hS; intro a hS
    refine s_val hS (by decide) rfl rfl (r_assign hS rfl) ?_; clear hS; intro a hS
    refine s_nil ?_
    refine k_seq ?_
    refine c_seq ?_
    refine c_region ?_
    refine s_val hS (by decide) rfl rfl (r_move hS rfl) ?_; clear hS; intro a hS
    refine s_pure hS hM (by decide) rfl (isnan_ok _ _) ?_; clear hS hM; intro a w hS hM
    refine s_val hS (by decide) rfl rfl (r_not hS rfl) ?_; clear hS; intro a hS
    refine s_nil ?_
    refine k_seq ?_
    refine c_cond hS rfl (fun hc => ?_) (fun hc => ?_)
    · have hn : nanB (f k) = false := by simpa using hc
      refine c_region ?_
      refine s_val hS (by decide) rfl rfl (r_move hS rfl) ?_; clear hS; intro a hS
      refine s_val hS (by decide) rfl rfl (r_move hS rfl) ?_; clear hS; intro a hS
      refine s_buildSlice hS hM (by decide) (vs := [(0, F _)]) rfl (row31_1 _) ?_; clear hS hM; intro a b17 w hb17 hS hM
      refine s_append hS [_] (Lx := Lx) hM (by decide) rfl rfl elem31 ho ((row1 hM).src Tryd.underlying31 (fun _ _ => rfl)) (by rw [nums_len]; have := numL_len f k; omega) ?_; clear hS hM ho; intro a w v Lx ho hS hM
      refine s_val hS (by decide) rfl rfl (r_assign hS rfl) ?_; clear hS; intro a hS
      refine s_nil ?_
      refine k_in ?_
      refine k_seq ?_
      refine c_region ?_
      refine s_val hS (by decide) rfl rfl (r_bv hS rfl (show ev _ _ = some (N 1) from rfl) gN (b_addN _ _ _ (by omega))) ?_; clear hS; intro a hS
      refine s_val hS (by decide) rfl rfl (r_move hS rfl) ?_; clear hS; intro a hS
      refine s_nil ?_
      refine k_then ?_
      refine ⟨(k + 1, _, _), (by show m - (k + 1) < m - k; omega), ⟨by show k + 1 ≤ m; omega, by first | exact ho.congr (nums_no hn) | exact ho.congr (nums_yes hn)⟩, hS.to _ ⟨rfl, rfl, rfl, rfl, trivial⟩, (by first | exact hM | exact hM.drop hb17)⟩
    · have hn : nanB (f k) = true := by simpa using hc
      refine c_skip ?_
      refine k_in ?_
      refine k_seq ?_
      refine c_region ?_
      refine s_val hS (by decide) rfl rfl (r_bv hS rfl (show ev _ _ = some (N 1) from rfl) gN (b_addN _ _ _ (by omega))) ?_; clear hS; intro a hS
      refine s_val hS (by decide) rfl rfl (r_move hS rfl) ?_; clear hS; intro a hS
      refine s_nil ?_
      refine k_then ?_
      refine ⟨(k + 1, _, _), (by show m - (k + 1) < m - k; omega), ⟨by show k + 1 ≤ m; omega, by first | exact ho.congr (nums_no hn) | exact ho.congr (nums_yes hn)⟩, hS.to _ ⟨rfl, rfl, rfl, rfl, trivial⟩, (by first | exact hM | exact hM.drop hb17)⟩
  · obtain rfl : k = m := by have := of_decide_eq_false hc; omega
    refine c_exit ?_
    refine k_thenx ?_
    refine k_thenx ?_
    refine k_inx ?_
    refine k_seq ?_
    refine c_seq ?_
    refine c_region ?_
    refine s_val hS (by decide) rfl rfl (r_move hS rfl) ?_; clear hS; intro a hS
    refine s_val hS (by decide) rfl rfl (r_assign hS rfl) ?_; clear hS; intro a hS
    refine s_nil ?_
    refine k_seq ?_
    refine c_ret ?_
    exact k_res1 hS rfl (RV.tmp rfl) ⟨_, _, rfl, ho, hM⟩

set_option maxRecDepth 100000 in
theorem end_ok (w0 : World) {v : Value} {m : Nat} {f : Nat → BitVec 64} (hr : Rd w0 v m (fun i => F (f i))) (hm : m ≤ 1000) (way : Int) : Pure Tryd.prog 32 #[v, .int .i64 way] w0 (F (bs f way m)) := by
  refine ⟨by kernel_rfl, ?_⟩
  refine calls_sym Tryd.func32 rfl (by kernel_rfl) ?_
  intro a hS
  have hM : Mem w0 w0 [] := Mem.refl w0
  refine c_seq ?_
  refine c_region ?_
  refine s_val hS (by decide) rfl rfl (r_assign hS (show ev _ _ = some (F 0#64) from rfl)) ?_; clear hS; intro a hS
  refine s_nil ?_
  refine k_seq ?_
  refine c_seq ?_
  refine c_region ?_
  refine s_pure hS hM (by decide) rfl (nan_ok _) ?_; clear hS hM; intro a w hS hM
  refine s_val hS (by decide) rfl rfl (r_assign hS rfl) ?_; clear hS; intro a hS
  refine s_nil ?_
  refine k_seq ?_
  refine c_seq ?_
  refine c_seq ?_
  refine c_region ?_
  refine s_val hS (by decide) rfl rfl (r_move hS rfl) ?_; clear hS; intro a hS
  refine s_fresh hS hM (by decide) rfl (numbers_ok _ (hr.keepGe hM trivial) hm) ?_; clear hS hM; intro a w v10 L10 ho10 hS hM
  replace hM := hM.swap
  refine s_val hS (by decide) rfl rfl (r_lenR hS rfl (ho10.rdCells (L := []) hM) Tryd.underlying31) ?_; clear hS; intro a hS
  refine s_val hS (by decide) rfl rfl (r_move hS (show ev _ _ = some (N 0) from rfl)) ?_; clear hS; intro a hS
  refine s_nil ?_
  refine k_seq ?_
  refine c_block ?_
  refine c_loop (σ := Nat) (fun k a w => (k ≤ (numL f m).length) ∧ Slots a 29 (env [(1, .int .i64 way), (5, F (bs (at0 (numL f m)) way k)), (10, v10), (11, N (numL f m).length), (12, N k)]) ∧ Mem w0 w (L10)) (fun k => (numL f m).length - k) (0) ⟨by omega, hS.to _ ⟨rfl, congrArg (fun q => some (F q)) (bs_zero _ _).symm, rfl, rfl, rfl, trivial⟩, hM⟩ ?_
  clear hS hM; rintro k a w ⟨hk, hS, hM⟩
  have hl := numL_len f m
  refine c_seq ?_
  refine c_region ?_
  refine s_val hS (by decide) rfl rfl (r_bv hS rfl rfl gN (b_lssN _ _ _)) ?_; clear hS; intro a hS
  refine s_nil ?_
  refine k_seq ?_
  refine c_seq ?_
  refine c_cond hS rfl (fun hc => ?_) (fun hc => ?_)
  · have hk1 := of_decide_eq_true hc
    refine c_skip ?_
    refine k_seq ?_
    refine c_seq ?_
    refine c_block ?_
    refine c_seq ?_
    refine c_region ?_
    refine s_val hS (by decide) rfl rfl (r_move hS rfl) ?_; clear hS; intro a hS
    refine s_val hS (by decide) rfl rfl (r_indexR hS rfl (ho10.rdCells (L := []) hM) rfl Tryd.underlying31 sz22 (by omega)) ?_; clear hS; intro a hS
    refine s_val hS (by decide) rfl rfl (r_loadR hS rfl (ho10.rdCells (L := []) hM) (by omega) Tryd.underlying22 rfl) ?_; clear hS; intro a hS
    refine s_val hS (by decide) rfl rfl (r_assign hS rfl) ?_; clear hS; intro a hS
    refine s_val hS (by decide) rfl rfl (r_assign hS rfl) ?_; clear hS; intro a hS
    refine s_nil ?_
    refine k_seq ?_
    refine c_seq ?_
    refine c_region ?_
    refine s_val hS (by decide) rfl rfl (r_move hS rfl) ?_; clear hS; intro a hS
    refine s_valb hS (by decide) rfl rfl (r_bv hS rfl (show ev _ _ = some (N 0) from rfl) gN (b_eqlN _ _ _)) (fun hc => ?_) (fun hc => ?_)
    · clear hS; intro a hS; have h0 := of_decide_eq_true hc
      refine s_val hS (by decide) rfl rfl (r_move hS rfl) ?_; clear hS; intro a hS
      refine s_skip hS (by decide) rfl rfl rfl rfl rfl ?_; clear hS; intro a hS
      refine s_skip hS (by decide) rfl rfl rfl rfl rfl ?_; clear hS; intro a hS
      refine s_skip hS (by decide) rfl rfl rfl rfl rfl ?_; clear hS; intro a hS
      refine s_skip hS (by decide) rfl rfl rfl rfl rfl ?_; clear hS; intro a hS
      refine s_skip hS (by decide) rfl rfl rfl rfl rfl ?_; clear hS; intro a hS
      refine s_val hS (by decide) rfl rfl (r_pick hS rfl rfl) ?_; clear hS; intro a hS
      refine s_nil ?_
      refine k_seq ?_
      refine c_true hS rfl rfl ?_
      refine c_region ?_
      refine s_val hS (by decide) rfl rfl (r_move hS rfl) ?_; clear hS; intro a hS
      refine s_val hS (by decide) rfl rfl (r_assign hS rfl) ?_; clear hS; intro a hS
      refine s_nil ?_
      refine k_in ?_
      refine k_seq ?_
      refine c_region ?_
      refine s_val hS (by decide) rfl rfl (r_bv hS rfl (show ev _ _ = some (N 1) from rfl) gN (b_addN _ _ _ (by omega))) ?_; clear hS; intro a hS
      refine s_val hS (by decide) rfl rfl (r_move hS rfl) ?_; clear hS; intro a hS
      refine s_nil ?_
      refine k_then ?_
      refine ⟨k + 1, by omega, by omega, hS.to _ ⟨rfl, congrArg (fun q => some (F q)) (by first | exact bs_first (at0_num hk1) h0 | exact bs_take (at0_num hk1) (.inr ho1) | exact bs_keep (at0_num hk1) (bs_num (fun i hi => at0_num (by omega)) (by omega)) ho1), rfl, rfl, rfl, trivial⟩, hM⟩
    · clear hS; intro a hS; have h0 := of_decide_eq_false hc
      refine s_val hS (by decide) rfl rfl (r_move hS rfl) ?_; clear hS; intro a hS
      refine s_valg hS (by decide) rfl rfl rfl rfl rfl (r_move hS rfl) ?_; clear hS; intro a hS
      refine s_valg hS (by decide) rfl rfl rfl rfl rfl (r_move hS rfl) ?_; clear hS; intro a hS
      refine s_pureg hS hM (by decide) rfl rfl rfl rfl (gord_ok _ _ _) ?_; clear hS hM; intro a w hS hM
      refine s_valg hS (by decide) rfl rfl rfl rfl rfl (r_move hS rfl) ?_; clear hS; intro a hS
      refine s_valg hS (by decide) rfl rfl rfl rfl rfl (r_bv hS rfl rfl gZ (b_eqlZ _ _ _)) ?_; clear hS; intro a hS
      refine s_val hS (by decide) rfl rfl (r_pick hS rfl rfl) ?_; clear hS; intro a hS
      refine s_nil ?_
      refine k_seq ?_
      refine c_cond hS rfl (fun hc => ?_) (fun hc => ?_)
      · have ho1 := of_decide_eq_true hc
        refine c_region ?_
        refine s_val hS (by decide) rfl rfl (r_move hS rfl) ?_; clear hS; intro a hS
        refine s_val hS (by decide) rfl rfl (r_assign hS rfl) ?_; clear hS; intro a hS
        refine s_nil ?_
        refine k_in ?_
        refine k_seq ?_
        refine c_region ?_
        refine s_val hS (by decide) rfl rfl (r_bv hS rfl (show ev _ _ = some (N 1) from rfl) gN (b_addN _ _ _ (by omega))) ?_; clear hS; intro a hS
        refine s_val hS (by decide) rfl rfl (r_move hS rfl) ?_; clear hS; intro a hS
        refine s_nil ?_
        refine k_then ?_
        refine ⟨k + 1, by omega, by omega, hS.to _ ⟨rfl, congrArg (fun q => some (F q)) (by first | exact bs_first (at0_num hk1) h0 | exact bs_take (at0_num hk1) (.inr ho1) | exact bs_keep (at0_num hk1) (bs_num (fun i hi => at0_num (by omega)) (by omega)) ho1), rfl, rfl, rfl, trivial⟩, hM⟩
      · have ho1 := of_decide_eq_false hc
        refine c_skip ?_
        refine k_in ?_
        refine k_seq ?_
        refine c_region ?_
        refine s_val hS (by decide) rfl rfl (r_bv hS rfl (show ev _ _ = some (N 1) from rfl) gN (b_addN _ _ _ (by omega))) ?_; clear hS; intro a hS
        refine s_val hS (by decide) rfl rfl (r_move hS rfl) ?_; clear hS; intro a hS
        refine s_nil ?_
        refine k_then ?_
        refine ⟨k + 1, by omega, by omega, hS.to _ ⟨rfl, congrArg (fun q => some (F q)) (by first | exact bs_first (at0_num hk1) h0 | exact bs_take (at0_num hk1) (.inr ho1) | exact bs_keep (at0_num hk1) (bs_num (fun i hi => at0_num (by omega)) (by omega)) ho1), rfl, rfl, rfl, trivial⟩, hM⟩
  · obtain rfl : k = (numL f m).length := by have := of_decide_eq_false hc; omega
    refine c_exit ?_
    refine k_thenx ?_
    refine k_thenx ?_
    refine k_inx ?_
    refine k_seq ?_
    refine c_seq ?_
    refine c_region ?_
    refine s_val hS (by decide) rfl rfl (r_move hS rfl) ?_; clear hS; intro a hS
    refine s_val hS (by decide) rfl rfl (r_assign hS rfl) ?_; clear hS; intro a hS
    refine s_nil ?_
    refine k_seq ?_
    refine c_ret ?_
    rw [bs_numL] at hS
    exact k_res1 hS rfl (RV.tmp rfl) ⟨rfl, Mem.dropRight (L := []) hM ho10.ge⟩

set_option maxRecDepth 100000 in
theorem least_ok (w0 : World) {v : Value} {m : Nat} {f : Nat → BitVec 64} (hr : Rd w0 v m (fun i => F (f i))) (hm : m ≤ 1000) : Pure Tryd.prog 18 #[v] w0 (F (bs f (-1) m)) := by
  refine ⟨by kernel_rfl, ?_⟩
  refine calls_sym Tryd.func18 rfl (by kernel_rfl) ?_
  intro a hS
  have hM : Mem w0 w0 [] := Mem.refl w0
  refine c_seq ?_
  refine c_region ?_
  refine s_val hS (by decide) rfl rfl (r_assign hS (show ev _ _ = some (F 0#64) from rfl)) ?_; clear hS; intro a hS
  refine s_nil ?_
  refine k_seq ?_
  refine c_seq ?_
  refine c_region ?_
  refine s_val hS (by decide) rfl rfl (r_move hS rfl) ?_; clear hS; intro a hS
  refine s_pure hS hM (by decide) (vs := [_, .int .i64 (-1)]) rfl (end_ok _ (hr.keepGe hM trivial) hm _) ?_; clear hS hM; intro a w hS hM
  refine s_val hS (by decide) rfl rfl (r_assign hS rfl) ?_; clear hS; intro a hS
  refine s_nil ?_
  refine k_seq ?_
  refine c_ret ?_
  exact k_res1 hS rfl (RV.tmp rfl) ⟨rfl, hM.done trivial⟩

set_option maxRecDepth 100000 in
theorem most_ok (w0 : World) {v : Value} {m : Nat} {f : Nat → BitVec 64} (hr : Rd w0 v m (fun i => F (f i))) (hm : m ≤ 1000) : Pure Tryd.prog 20 #[v] w0 (F (bs f 1 m)) := by
  refine ⟨by kernel_rfl, ?_⟩
  refine calls_sym Tryd.func20 rfl (by kernel_rfl) ?_
  intro a hS
  have hM : Mem w0 w0 [] := Mem.refl w0
  refine c_seq ?_
  refine c_region ?_
  refine s_val hS (by decide) rfl rfl (r_assign hS (show ev _ _ = some (F 0#64) from rfl)) ?_; clear hS; intro a hS
  refine s_nil ?_
  refine k_seq ?_
  refine c_seq ?_
  refine c_region ?_
  refine s_val hS (by decide) rfl rfl (r_move hS rfl) ?_; clear hS; intro a hS
  refine s_pure hS hM (by decide) (vs := [_, .int .i64 1]) rfl (end_ok _ (hr.keepGe hM trivial) hm _) ?_; clear hS hM; intro a w hS hM
  refine s_val hS (by decide) rfl rfl (r_assign hS rfl) ?_; clear hS; intro a hS
  refine s_nil ?_
  refine k_seq ?_
  refine c_ret ?_
  exact k_res1 hS rfl (RV.tmp rfl) ⟨rfl, hM.done trivial⟩

set_option maxRecDepth 100000 in
theorem best_ok (w0 : World) {v : Value} {m : Nat} {f : Nat → BitVec 64} (hr : Rd w0 v m (fun i => F (f i))) (hm : m ≤ 1000) (way : Int) : Tells Tryd.prog 33 #[v, .int .i64 way] w0 (fun u => ∃ r, u = F r ∧ al r (bs f way m)) := by
  refine ⟨by kernel_rfl, ?_⟩
  refine calls_sym Tryd.func33 rfl (by kernel_rfl) ?_
  intro a hS
  have hM : Mem w0 w0 [] := Mem.refl w0
  refine c_seq ?_
  refine c_region ?_
  refine s_val hS (by decide) rfl rfl (r_assign hS (show ev _ _ = some (F 0#64) from rfl)) ?_; clear hS; intro a hS
  refine s_nil ?_
  refine k_seq ?_
  refine c_seq ?_
  refine c_region ?_
  refine s_val hS (by decide) rfl rfl (r_assign hS (show ev _ _ = some (F 0#64) from rfl)) ?_; clear hS; intro a hS
  refine s_nil ?_
  refine k_seq ?_
  refine c_seq ?_
  refine c_region ?_
  refine s_val hS (by decide) rfl rfl (r_move hS rfl) ?_; clear hS; intro a hS
  refine s_val hS (by decide) rfl rfl (r_move hS rfl) ?_; clear hS; intro a hS
  refine s_float hS hM (by decide) rfl rfl (.inr (.inr (.inr rfl))) ?_; clear hS hM; intro a w r10 hr10 hS hM
  refine s_val hS (by decide) rfl rfl (r_assign hS rfl) ?_; clear hS; intro a hS
  refine s_nil ?_
  refine k_seq ?_
  refine c_seq ?_
  refine c_seq ?_
  refine c_region ?_
  refine s_val hS (by decide) rfl rfl (r_assign hS (show ev _ _ = some (N 0) from rfl)) ?_; clear hS; intro a hS
  refine s_nil ?_
  refine k_seq ?_
  refine c_block ?_
  refine c_loop (σ := Nat × BitVec 64) (fun s_ a w => (s_.1 ≤ m ∧ al s_.2 (bs f way s_.1)) ∧ Slots a 46 (env [(0, v), (1, .int .i64 way), (6, F s_.2), (7, N s_.1)]) ∧ Mem w0 w ([])) (fun s_ => m - s_.1) ((0, r10)) ⟨⟨Nat.zero_le _, .inr ⟨quo_zero hr10, bs_znan _ _⟩⟩, hS.to _ ⟨rfl, rfl, rfl, rfl, trivial⟩, hM⟩ ?_
  clear hS hM; rintro ⟨k, r⟩ a w ⟨hk, hS, hM⟩
  obtain ⟨hk, hal⟩ := hk; dsimp only at hk hal hS hM
  refine c_seq ?_
  refine c_seq ?_
  refine c_region ?_
  refine s_val hS (by decide) rfl rfl (r_move hS rfl) ?_; clear hS; intro a hS
  refine s_val hS (by decide) rfl rfl (r_move hS rfl) ?_; clear hS; intro a hS
  refine s_val hS (by decide) rfl rfl (r_lenR hS rfl (hr.keepGe hM trivial) Tryd.underlying31) ?_; clear hS; intro a hS
  refine s_val hS (by decide) rfl rfl (r_bv hS rfl rfl gN (b_lssN _ _ _)) ?_; clear hS; intro a hS
  refine s_nil ?_
  refine k_seq ?_
  refine c_cond hS rfl (fun hc => ?_) (fun hc => ?_)
  · have hk1 := of_decide_eq_true hc
    refine c_skip ?_
    refine k_seq ?_
    refine c_seq ?_
    refine c_block ?_
    refine c_seq ?_
    cases hn : nanB (f k) <;> cases hz : nanB r
    · skip
      refine c_plan 24 (fun w => Mem w0 w _) [(0, _), (7, _), (6, _), (1, _), (11, _), (12, _), (13, _), (14, _)] (by kernel_rfl) (by kernel_rfl) hS ⟨rfl, rfl, rfl, rfl, rfl, rfl, rfl, rfl, trivial⟩ (hM.drawn _) ?_; clear hS hM
      refine p_step rfl (fun a w hS hM => y_val rfl (r_move hS rfl)) ?_
      refine p_step rfl (fun a w hS hM => y_val rfl (r_move hS rfl)) ?_
      refine p_step rfl (fun a w hS hM => y_val rfl (r_indexR hS rfl (hr.keepGe hM trivial) rfl Tryd.underlying31 sz22 (by omega))) ?_
      refine p_step rfl (fun a w hS hM => y_val rfl (r_loadR hS rfl (hr.keepGe hM trivial) (by omega) Tryd.underlying22 rfl)) ?_
      refine p_step rfl (fun a w hS hM => y_val rfl (r_move hS rfl)) ?_
      refine p_step rfl (fun a w hS hM => y_val rfl (r_move hS rfl)) ?_
      refine p_step rfl (fun a w hS hM => y_val rfl (r_indexR hS rfl (hr.keepGe hM trivial) rfl Tryd.underlying31 sz22 (by omega))) ?_
      refine p_step rfl (fun a w hS hM => y_val rfl (r_loadR hS rfl (hr.keepGe hM trivial) (by omega) Tryd.underlying22 rfl)) ?_
      refine p_step rfl (fun a w hS hM => y_val rfl (r_bv hS rfl rfl gF (b_eqlFn _ hn))) ?_
      refine p_step rfl (fun a w hS hM => y_val rfl (r_move hS rfl)) ?_
      refine p_step rfl (fun a w hS hM => y_valg hS rfl rfl rfl rfl (r_move hS rfl)) ?_
      refine p_step rfl (fun a w hS hM => y_valg hS rfl rfl rfl rfl (r_move hS rfl)) ?_
      refine p_step rfl (fun a w hS hM => y_valg hS rfl rfl rfl rfl (r_bv hS rfl rfl gF (b_neqFn _ hz))) ?_
      refine p_step rfl (fun a w hS hM => y_valg hS rfl rfl rfl rfl (r_move hS rfl)) ?_
      refine p_step rfl (fun a w hS hM => y_valg hS rfl rfl rfl rfl (r_move hS rfl)) ?_
      refine p_step rfl (fun a w hS hM => y_valg hS rfl rfl rfl rfl (r_move hS rfl)) ?_
      refine p_step rfl (fun a w hS hM => y_valg hS rfl rfl rfl rfl (r_indexR hS rfl (hr.keepGe hM trivial) rfl Tryd.underlying31 sz22 (by omega))) ?_
      refine p_step rfl (fun a w hS hM => y_valg hS rfl rfl rfl rfl (r_loadR hS rfl (hr.keepGe hM trivial) (by omega) Tryd.underlying22 rfl)) ?_
      refine p_step rfl (fun a w hS hM => y_valg hS rfl rfl rfl rfl (r_move hS rfl)) ?_
      refine p_step rfl (fun a w hS hM => y_callg (by kernel_rfl) hS rfl rfl rfl rfl ((rord_ok _ _ _).mem hM)) ?_
      refine p_step rfl (fun a w hS hM => y_valg hS rfl rfl rfl rfl (r_move hS rfl)) ?_
      refine p_step rfl (fun a w hS hM => y_valg hS rfl rfl rfl rfl (r_bv hS rfl rfl gZ (b_eqlZ _ _ _))) ?_
      refine p_step rfl (fun a w hS hM => y_valg hS rfl rfl rfl rfl (r_pick hS rfl rfl)) ?_
      refine p_step rfl (fun a w hS hM => y_val rfl (r_pick hS rfl rfl)) ?_
      refine p_nil rfl ?_; intro a w hS hM
      refine s_nil ?_
      refine k_seq ?_
      refine c_cond hS rfl (fun hc => ?_) (fun hc => ?_)
      · have ho1 := of_decide_eq_true hc
        refine c_region ?_
        refine s_val hS (by decide) rfl rfl (r_move hS rfl) ?_; clear hS; intro a hS
        refine s_val hS (by decide) rfl rfl (r_move hS rfl) ?_; clear hS; intro a hS
        refine s_val hS (by decide) rfl rfl (r_indexR hS rfl (hr.keepGe hM trivial) rfl Tryd.underlying31 sz22 (by omega)) ?_; clear hS; intro a hS
        refine s_val hS (by decide) rfl rfl (r_loadR hS rfl (hr.keepGe hM trivial) (by omega) Tryd.underlying22 rfl) ?_; clear hS; intro a hS
        refine s_val hS (by decide) rfl rfl (r_assign hS rfl) ?_; clear hS; intro a hS
        refine s_nil ?_
        refine k_in ?_
        refine k_seq ?_
        refine c_region ?_
        refine s_val hS (by decide) rfl rfl (r_move hS rfl) ?_; clear hS; intro a hS
        refine s_val hS (by decide) rfl rfl (r_bv hS rfl (show ev _ _ = some (N 1) from rfl) gN (b_addN _ _ _ (by omega))) ?_; clear hS; intro a hS
        refine s_val hS (by decide) rfl rfl (r_assign hS rfl) ?_; clear hS; intro a hS
        refine s_nil ?_
        refine k_then ?_
        refine ⟨(k + 1, _), (by show m - (k + 1) < m - k; omega), ⟨by show k + 1 ≤ m; omega, by first | exact al_no hal hn | exact al_take hal hn (.inl hz) | exact al_take hal hn (.inr ho1) | exact al_keep hal hn hz ho1⟩, hS.to _ ⟨rfl, rfl, rfl, rfl, trivial⟩, hM⟩
      · have ho1 := of_decide_eq_false hc
        refine c_skip ?_
        refine k_in ?_
        refine k_seq ?_
        refine c_region ?_
        refine s_val hS (by decide) rfl rfl (r_move hS rfl) ?_; clear hS; intro a hS
        refine s_val hS (by decide) rfl rfl (r_bv hS rfl (show ev _ _ = some (N 1) from rfl) gN (b_addN _ _ _ (by omega))) ?_; clear hS; intro a hS
        refine s_val hS (by decide) rfl rfl (r_assign hS rfl) ?_; clear hS; intro a hS
        refine s_nil ?_
        refine k_then ?_
        refine ⟨(k + 1, _), (by show m - (k + 1) < m - k; omega), ⟨by show k + 1 ≤ m; omega, by first | exact al_no hal hn | exact al_take hal hn (.inl hz) | exact al_take hal hn (.inr ho1) | exact al_keep hal hn hz ho1⟩, hS.to _ ⟨rfl, rfl, rfl, rfl, trivial⟩, hM⟩
    · skip
      refine c_plan 24 (fun w => Mem w0 w _) [(0, _), (7, _), (6, _), (1, _), (11, _), (12, _), (13, _), (14, _)] (by kernel_rfl) (by kernel_rfl) hS ⟨rfl, rfl, rfl, rfl, rfl, rfl, rfl, rfl, trivial⟩ (hM.drawn _) ?_; clear hS hM
      refine p_step rfl (fun a w hS hM => y_val rfl (r_move hS rfl)) ?_
      refine p_step rfl (fun a w hS hM => y_val rfl (r_move hS rfl)) ?_
      refine p_step rfl (fun a w hS hM => y_val rfl (r_indexR hS rfl (hr.keepGe hM trivial) rfl Tryd.underlying31 sz22 (by omega))) ?_
      refine p_step rfl (fun a w hS hM => y_val rfl (r_loadR hS rfl (hr.keepGe hM trivial) (by omega) Tryd.underlying22 rfl)) ?_
      refine p_step rfl (fun a w hS hM => y_val rfl (r_move hS rfl)) ?_
      refine p_step rfl (fun a w hS hM => y_val rfl (r_move hS rfl)) ?_
      refine p_step rfl (fun a w hS hM => y_val rfl (r_indexR hS rfl (hr.keepGe hM trivial) rfl Tryd.underlying31 sz22 (by omega))) ?_
      refine p_step rfl (fun a w hS hM => y_val rfl (r_loadR hS rfl (hr.keepGe hM trivial) (by omega) Tryd.underlying22 rfl)) ?_
      refine p_step rfl (fun a w hS hM => y_val rfl (r_bv hS rfl rfl gF (b_eqlFn _ hn))) ?_
      refine p_step rfl (fun a w hS hM => y_val rfl (r_move hS rfl)) ?_
      refine p_step rfl (fun a w hS hM => y_valg hS rfl rfl rfl rfl (r_move hS rfl)) ?_
      refine p_step rfl (fun a w hS hM => y_valg hS rfl rfl rfl rfl (r_move hS rfl)) ?_
      refine p_step rfl (fun a w hS hM => y_valg hS rfl rfl rfl rfl (r_bv hS rfl rfl gF (b_neqFn _ hz))) ?_
      refine p_step rfl (fun a w hS hM => y_valg hS rfl rfl rfl rfl (r_move hS rfl)) ?_
      refine p_step rfl (fun a w hS hM => y_skip hS rfl rfl rfl rfl) ?_
      refine p_step rfl (fun a w hS hM => y_skip hS rfl rfl rfl rfl) ?_
      refine p_step rfl (fun a w hS hM => y_skip hS rfl rfl rfl rfl) ?_
      refine p_step rfl (fun a w hS hM => y_skip hS rfl rfl rfl rfl) ?_
      refine p_step rfl (fun a w hS hM => y_skip hS rfl rfl rfl rfl) ?_
      refine p_step rfl (fun a w hS hM => y_skip hS rfl rfl rfl rfl) ?_
      refine p_step rfl (fun a w hS hM => y_skip hS rfl rfl rfl rfl) ?_
      refine p_step rfl (fun a w hS hM => y_skip hS rfl rfl rfl rfl) ?_
      refine p_step rfl (fun a w hS hM => y_valg hS rfl rfl rfl rfl (r_pick hS rfl rfl)) ?_
      refine p_step rfl (fun a w hS hM => y_val rfl (r_pick hS rfl rfl)) ?_
      refine p_nil rfl ?_; intro a w hS hM
      refine s_nil ?_
      refine k_seq ?_
      refine c_true hS rfl rfl ?_
      refine c_region ?_
      refine s_val hS (by decide) rfl rfl (r_move hS rfl) ?_; clear hS; intro a hS
      refine s_val hS (by decide) rfl rfl (r_move hS rfl) ?_; clear hS; intro a hS
      refine s_val hS (by decide) rfl rfl (r_indexR hS rfl (hr.keepGe hM trivial) rfl Tryd.underlying31 sz22 (by omega)) ?_; clear hS; intro a hS
      refine s_val hS (by decide) rfl rfl (r_loadR hS rfl (hr.keepGe hM trivial) (by omega) Tryd.underlying22 rfl) ?_; clear hS; intro a hS
      refine s_val hS (by decide) rfl rfl (r_assign hS rfl) ?_; clear hS; intro a hS
      refine s_nil ?_
      refine k_in ?_
      refine k_seq ?_
      refine c_region ?_
      refine s_val hS (by decide) rfl rfl (r_move hS rfl) ?_; clear hS; intro a hS
      refine s_val hS (by decide) rfl rfl (r_bv hS rfl (show ev _ _ = some (N 1) from rfl) gN (b_addN _ _ _ (by omega))) ?_; clear hS; intro a hS
      refine s_val hS (by decide) rfl rfl (r_assign hS rfl) ?_; clear hS; intro a hS
      refine s_nil ?_
      refine k_then ?_
      refine ⟨(k + 1, _), (by show m - (k + 1) < m - k; omega), ⟨by show k + 1 ≤ m; omega, by first | exact al_no hal hn | exact al_take hal hn (.inl hz) | exact al_take hal hn (.inr ho1) | exact al_keep hal hn hz ho1⟩, hS.to _ ⟨rfl, rfl, rfl, rfl, trivial⟩, hM⟩
    · skip
      refine c_plan 24 (fun w => Mem w0 w _) [(0, _), (7, _), (6, _), (1, _), (11, _), (12, _), (13, _), (14, _)] (by kernel_rfl) (by kernel_rfl) hS ⟨rfl, rfl, rfl, rfl, rfl, rfl, rfl, rfl, trivial⟩ (hM.drawn _) ?_; clear hS hM
      refine p_step rfl (fun a w hS hM => y_val rfl (r_move hS rfl)) ?_
      refine p_step rfl (fun a w hS hM => y_val rfl (r_move hS rfl)) ?_
      refine p_step rfl (fun a w hS hM => y_val rfl (r_indexR hS rfl (hr.keepGe hM trivial) rfl Tryd.underlying31 sz22 (by omega))) ?_
      refine p_step rfl (fun a w hS hM => y_val rfl (r_loadR hS rfl (hr.keepGe hM trivial) (by omega) Tryd.underlying22 rfl)) ?_
      refine p_step rfl (fun a w hS hM => y_val rfl (r_move hS rfl)) ?_
      refine p_step rfl (fun a w hS hM => y_val rfl (r_move hS rfl)) ?_
      refine p_step rfl (fun a w hS hM => y_val rfl (r_indexR hS rfl (hr.keepGe hM trivial) rfl Tryd.underlying31 sz22 (by omega))) ?_
      refine p_step rfl (fun a w hS hM => y_val rfl (r_loadR hS rfl (hr.keepGe hM trivial) (by omega) Tryd.underlying22 rfl)) ?_
      refine p_step rfl (fun a w hS hM => y_val rfl (r_bv hS rfl rfl gF (b_eqlFn _ hn))) ?_
      refine p_step rfl (fun a w hS hM => y_val rfl (r_move hS rfl)) ?_
      refine p_step rfl (fun a w hS hM => y_skip hS rfl rfl rfl rfl) ?_
      refine p_step rfl (fun a w hS hM => y_skip hS rfl rfl rfl rfl) ?_
      refine p_step rfl (fun a w hS hM => y_skip hS rfl rfl rfl rfl) ?_
      refine p_step rfl (fun a w hS hM => y_skip hS rfl rfl rfl rfl) ?_
      refine p_step rfl (fun a w hS hM => y_skipu hS rfl rfl rfl rfl) ?_
      refine p_step rfl (fun a w hS hM => y_skipu hS rfl rfl rfl rfl) ?_
      refine p_step rfl (fun a w hS hM => y_skipu hS rfl rfl rfl rfl) ?_
      refine p_step rfl (fun a w hS hM => y_skipu hS rfl rfl rfl rfl) ?_
      refine p_step rfl (fun a w hS hM => y_skipu hS rfl rfl rfl rfl) ?_
      refine p_step rfl (fun a w hS hM => y_skipu hS rfl rfl rfl rfl) ?_
      refine p_step rfl (fun a w hS hM => y_skipu hS rfl rfl rfl rfl) ?_
      refine p_step rfl (fun a w hS hM => y_skipu hS rfl rfl rfl rfl) ?_
      refine p_step rfl (fun a w hS hM => y_skip hS rfl rfl rfl rfl) ?_
      refine p_step rfl (fun a w hS hM => y_val rfl (r_pick hS rfl rfl)) ?_
      refine p_nil rfl ?_; intro a w hS hM
      refine s_nil ?_
      refine k_seq ?_
      refine c_false hS rfl rfl ?_
      refine c_skip ?_
      refine k_in ?_
      refine k_seq ?_
      refine c_region ?_
      refine s_val hS (by decide) rfl rfl (r_move hS rfl) ?_; clear hS; intro a hS
      refine s_val hS (by decide) rfl rfl (r_bv hS rfl (show ev _ _ = some (N 1) from rfl) gN (b_addN _ _ _ (by omega))) ?_; clear hS; intro a hS
      refine s_val hS (by decide) rfl rfl (r_assign hS rfl) ?_; clear hS; intro a hS
      refine s_nil ?_
      refine k_then ?_
      refine ⟨(k + 1, _), (by show m - (k + 1) < m - k; omega), ⟨by show k + 1 ≤ m; omega, by first | exact al_no hal hn | exact al_take hal hn (.inl hz) | exact al_take hal hn (.inr ho1) | exact al_keep hal hn hz ho1⟩, hS.to _ ⟨rfl, rfl, rfl, rfl, trivial⟩, hM⟩
    · skip
      refine c_plan 24 (fun w => Mem w0 w _) [(0, _), (7, _), (6, _), (1, _), (11, _), (12, _), (13, _), (14, _)] (by kernel_rfl) (by kernel_rfl) hS ⟨rfl, rfl, rfl, rfl, rfl, rfl, rfl, rfl, trivial⟩ (hM.drawn _) ?_; clear hS hM
      refine p_step rfl (fun a w hS hM => y_val rfl (r_move hS rfl)) ?_
      refine p_step rfl (fun a w hS hM => y_val rfl (r_move hS rfl)) ?_
      refine p_step rfl (fun a w hS hM => y_val rfl (r_indexR hS rfl (hr.keepGe hM trivial) rfl Tryd.underlying31 sz22 (by omega))) ?_
      refine p_step rfl (fun a w hS hM => y_val rfl (r_loadR hS rfl (hr.keepGe hM trivial) (by omega) Tryd.underlying22 rfl)) ?_
      refine p_step rfl (fun a w hS hM => y_val rfl (r_move hS rfl)) ?_
      refine p_step rfl (fun a w hS hM => y_val rfl (r_move hS rfl)) ?_
      refine p_step rfl (fun a w hS hM => y_val rfl (r_indexR hS rfl (hr.keepGe hM trivial) rfl Tryd.underlying31 sz22 (by omega))) ?_
      refine p_step rfl (fun a w hS hM => y_val rfl (r_loadR hS rfl (hr.keepGe hM trivial) (by omega) Tryd.underlying22 rfl)) ?_
      refine p_step rfl (fun a w hS hM => y_val rfl (r_bv hS rfl rfl gF (b_eqlFn _ hn))) ?_
      refine p_step rfl (fun a w hS hM => y_val rfl (r_move hS rfl)) ?_
      refine p_step rfl (fun a w hS hM => y_skip hS rfl rfl rfl rfl) ?_
      refine p_step rfl (fun a w hS hM => y_skip hS rfl rfl rfl rfl) ?_
      refine p_step rfl (fun a w hS hM => y_skip hS rfl rfl rfl rfl) ?_
      refine p_step rfl (fun a w hS hM => y_skip hS rfl rfl rfl rfl) ?_
      refine p_step rfl (fun a w hS hM => y_skipu hS rfl rfl rfl rfl) ?_
      refine p_step rfl (fun a w hS hM => y_skipu hS rfl rfl rfl rfl) ?_
      refine p_step rfl (fun a w hS hM => y_skipu hS rfl rfl rfl rfl) ?_
      refine p_step rfl (fun a w hS hM => y_skipu hS rfl rfl rfl rfl) ?_
      refine p_step rfl (fun a w hS hM => y_skipu hS rfl rfl rfl rfl) ?_
      refine p_step rfl (fun a w hS hM => y_skipu hS rfl rfl rfl rfl) ?_
      refine p_step rfl (fun a w hS hM => y_skipu hS rfl rfl rfl rfl) ?_
      refine p_step rfl (fun a w hS hM => y_skipu hS rfl rfl rfl rfl) ?_
      refine p_step rfl (fun a w hS hM => y_skip hS rfl rfl rfl rfl) ?_
      refine p_step rfl (fun a w hS hM => y_val rfl (r_pick hS rfl rfl)) ?_
      refine p_nil rfl ?_; intro a w hS hM
      refine s_nil ?_
      refine k_seq ?_
      refine c_false hS rfl rfl ?_
      refine c_skip ?_
      refine k_in ?_
      refine k_seq ?_
      refine c_region ?_
      refine s_val hS (by decide) rfl rfl (r_move hS rfl) ?_; clear hS; intro a hS
      refine s_val hS (by decide) rfl rfl (r_bv hS rfl (show ev _ _ = some (N 1) from rfl) gN (b_addN _ _ _ (by omega))) ?_; clear hS; intro a hS
      refine s_val hS (by decide) rfl rfl (r_assign hS rfl) ?_; clear hS; intro a hS
      refine s_nil ?_
      refine k_then ?_
      refine ⟨(k + 1, _), (by show m - (k + 1) < m - k; omega), ⟨by show k + 1 ≤ m; omega, by first | exact al_no hal hn | exact al_take hal hn (.inl hz) | exact al_take hal hn (.inr ho1) | exact al_keep hal hn hz ho1⟩, hS.to _ ⟨rfl, rfl, rfl, rfl, trivial⟩, hM⟩
  · obtain rfl : k = m := by have := of_decide_eq_false hc; omega
    refine c_exit ?_
    refine k_thenx ?_
    refine k_thenx ?_
    refine k_inx ?_
    refine k_seq ?_
    refine c_seq ?_
    refine c_region ?_
    refine s_val hS (by decide) rfl rfl (r_move hS rfl) ?_; clear hS; intro a hS
    refine s_val hS (by decide) rfl rfl (r_assign hS rfl) ?_; clear hS; intro a hS
    refine s_nil ?_
    refine k_seq ?_
    refine c_ret ?_
    exact k_res1 hS rfl (RV.tmp rfl) ⟨_, rfl, ⟨_, rfl, hal⟩, hM.done trivial⟩

set_option maxRecDepth 100000 in
theorem rleast_ok (w0 : World) {v : Value} {m : Nat} {f : Nat → BitVec 64} (hr : Rd w0 v m (fun i => F (f i))) (hm : m ≤ 1000) : Tells Tryd.prog 19 #[v] w0 (fun u => ∃ r, u = F r ∧ al r (bs f (-1) m)) := by
  refine ⟨by kernel_rfl, ?_⟩
  refine calls_sym Tryd.func19 rfl (by kernel_rfl) ?_
  intro a hS
  have hM : Mem w0 w0 [] := Mem.refl w0
  refine c_seq ?_
  refine c_region ?_
  refine s_val hS (by decide) rfl rfl (r_assign hS (show ev _ _ = some (F 0#64) from rfl)) ?_; clear hS; intro a hS
  refine s_nil ?_
  refine k_seq ?_
  refine c_seq ?_
  refine c_region ?_
  refine s_val hS (by decide) rfl rfl (r_move hS rfl) ?_; clear hS; intro a hS
  refine s_tells hS hM (by decide) (vs := [_, .int .i64 (-1)]) rfl (best_ok _ (hr.keepGe hM trivial) hm (-1)) ?_; clear hS hM; intro a w v4 hv4 hS hM
  refine s_val hS (by decide) rfl rfl (r_assign hS rfl) ?_; clear hS; intro a hS
  refine s_nil ?_
  refine k_seq ?_
  refine c_ret ?_
  exact k_res1 hS rfl (RV.tmp rfl) ⟨_, rfl, hv4, hM.done trivial⟩

set_option maxRecDepth 100000 in
theorem rmost_ok (w0 : World) {v : Value} {m : Nat} {f : Nat → BitVec 64} (hr : Rd w0 v m (fun i => F (f i))) (hm : m ≤ 1000) : Tells Tryd.prog 21 #[v] w0 (fun u => ∃ r, u = F r ∧ al r (bs f 1 m)) := by
  refine ⟨by kernel_rfl, ?_⟩
  refine calls_sym Tryd.func21 rfl (by kernel_rfl) ?_
  intro a hS
  have hM : Mem w0 w0 [] := Mem.refl w0
  refine c_seq ?_
  refine c_region ?_
  refine s_val hS (by decide) rfl rfl (r_assign hS (show ev _ _ = some (F 0#64) from rfl)) ?_; clear hS; intro a hS
  refine s_nil ?_
  refine k_seq ?_
  refine c_seq ?_
  refine c_region ?_
  refine s_val hS (by decide) rfl rfl (r_move hS rfl) ?_; clear hS; intro a hS
  refine s_tells hS hM (by decide) (vs := [_, .int .i64 1]) rfl (best_ok _ (hr.keepGe hM trivial) hm 1) ?_; clear hS hM; intro a w v4 hv4 hS hM
  refine s_val hS (by decide) rfl rfl (r_assign hS rfl) ?_; clear hS; intro a hS
  refine s_nil ?_
  refine k_seq ?_
  refine c_ret ?_
  exact k_res1 hS rfl (RV.tmp rfl) ⟨_, rfl, hv4, hM.done trivial⟩

set_option maxRecDepth 100000 in
theorem mean_ok (w0 : World) {v : Value} {m : Nat} {f : Nat → BitVec 64} (hr : Rd w0 v m (fun i => F (f i))) (hm : m ≤ 1000) : Tells Tryd.prog 22 #[v] w0 (meanR f m) := by
  refine ⟨by kernel_rfl, ?_⟩
  refine calls_sym Tryd.func22 rfl (by kernel_rfl) ?_
  intro a hS
  have hM : Mem w0 w0 [] := Mem.refl w0
  refine c_seq ?_
  refine c_region ?_
  refine s_val hS (by decide) rfl rfl (r_assign hS (show ev _ _ = some (F 0#64) from rfl)) ?_; clear hS; intro a hS
  refine s_nil ?_
  refine k_seq ?_
  refine c_seq ?_
  refine c_region ?_
  refine s_val hS (by decide) rfl rfl (r_move hS rfl) ?_; clear hS; intro a hS
  refine s_fresh hS hM (by decide) rfl (numbers_ok _ (hr.keepGe hM trivial) hm) ?_; clear hS hM; intro a w v7 L7 ho7 hS hM
  replace hM := hM.swap
  refine s_val hS (by decide) rfl rfl (r_assign hS rfl) ?_; clear hS; intro a hS
  refine s_nil ?_
  refine k_seq ?_
  refine c_seq ?_
  refine c_region ?_
  refine s_val hS (by decide) rfl rfl (r_assign hS (show ev _ _ = some (F 0#64) from rfl)) ?_; clear hS; intro a hS
  refine s_nil ?_
  refine k_seq ?_
  refine c_seq ?_
  refine c_seq ?_
  refine c_region ?_
  refine s_val hS (by decide) rfl rfl (r_move hS rfl) ?_; clear hS; intro a hS
  refine s_val hS (by decide) rfl rfl (r_lenR hS rfl (ho7.rdCells (L := []) hM) Tryd.underlying31) ?_; clear hS; intro a hS
  refine s_val hS (by decide) rfl rfl (r_move hS (show ev _ _ = some (N 0) from rfl)) ?_; clear hS; intro a hS
  refine s_nil ?_
  refine k_seq ?_
  refine c_block ?_
  refine c_loop (σ := Nat × BitVec 64) (fun s_ a w => (s_.1 ≤ (numL f m).length ∧ sumR (at0 (numL f m)) s_.1 s_.2) ∧ Slots a 23 (env [(0, v7), (3, F s_.2), (8, v7), (9, N (numL f m).length), (10, N s_.1)]) ∧ Mem w0 w (L7)) (fun s_ => (numL f m).length - s_.1) ((0, 0#64)) ⟨⟨Nat.zero_le _, sumR_zero _⟩, hS.to _ ⟨rfl, rfl, rfl, rfl, rfl, trivial⟩, hM⟩ ?_
  clear hS hM; rintro ⟨k, r⟩ a w ⟨hk, hS, hM⟩
  obtain ⟨hk, hs⟩ := hk; dsimp only at hk hs hS hM; have hl := numL_len f m
  refine c_seq ?_
  refine c_region ?_
  refine s_val hS (by decide) rfl rfl (r_bv hS rfl rfl gN (b_lssN _ _ _)) ?_; clear hS; intro a hS
  refine s_nil ?_
  refine k_seq ?_
  refine c_seq ?_
  refine c_cond hS rfl (fun hc => ?_) (fun hc => ?_)
  · have hk1 := of_decide_eq_true hc
    refine c_skip ?_
    refine k_seq ?_
    refine c_seq ?_
    refine c_block ?_
    refine c_seq ?_
    refine c_region ?_
    refine s_val hS (by decide) rfl rfl (r_indexR hS rfl (ho7.rdCells (L := []) hM) rfl Tryd.underlying31 sz22 (by omega)) ?_; clear hS; intro a hS
    refine s_val hS (by decide) rfl rfl (r_loadR hS rfl (ho7.rdCells (L := []) hM) (by omega) Tryd.underlying22 rfl) ?_; clear hS; intro a hS
    refine s_val hS (by decide) rfl rfl (r_assign hS rfl) ?_; clear hS; intro a hS
    refine s_nil ?_
    refine k_seq ?_
    refine c_region ?_
    refine s_val hS (by decide) rfl rfl (r_move hS rfl) ?_; clear hS; intro a hS
    refine s_val hS (by decide) rfl rfl (r_move hS rfl) ?_; clear hS; intro a hS
    refine s_float hS hM (by decide) rfl rfl (.inl rfl) ?_; clear hS hM; intro a w r16 hr16 hS hM
    refine s_val hS (by decide) rfl rfl (r_assign hS rfl) ?_; clear hS; intro a hS
    refine s_nil ?_
    refine k_in ?_
    refine k_seq ?_
    refine c_region ?_
    refine s_val hS (by decide) rfl rfl (r_bv hS rfl (show ev _ _ = some (N 1) from rfl) gN (b_addN _ _ _ (by omega))) ?_; clear hS; intro a hS
    refine s_val hS (by decide) rfl rfl (r_move hS rfl) ?_; clear hS; intro a hS
    refine s_nil ?_
    refine k_then ?_
    refine ⟨(k + 1, _), (by show (numL f m).length - (k + 1) < (numL f m).length - k; omega), ⟨by show k + 1 ≤ (numL f m).length; omega, sumR_yes (at0_num hk1) hs hr16⟩, hS.to _ ⟨rfl, rfl, rfl, rfl, rfl, trivial⟩, hM⟩
  · obtain rfl : k = (numL f m).length := by have := of_decide_eq_false hc; omega
    refine c_exit ?_
    refine k_thenx ?_
    refine k_thenx ?_
    refine k_inx ?_
    refine k_seq ?_
    refine c_seq ?_
    refine c_region ?_
    refine s_val hS (by decide) rfl rfl (r_move hS rfl) ?_; clear hS; intro a hS
    refine s_val hS (by decide) rfl rfl (r_move hS rfl) ?_; clear hS; intro a hS
    refine s_val hS (by decide) rfl rfl (r_lenR hS rfl (ho7.rdCells (L := []) hM) Tryd.underlying31) ?_; clear hS; intro a hS
    refine s_val hS (by decide) rfl rfl (r_convIF hS rfl (by kernel_rfl) Tryd.underlying22) ?_; clear hS; intro a hS
    refine s_float hS hM (by decide) rfl rfl (.inr (.inr (.inr rfl))) ?_; clear hS hM; intro a w r22 hr22 hS hM
    refine s_val hS (by decide) rfl rfl (r_assign hS rfl) ?_; clear hS; intro a hS
    refine s_nil ?_
    refine k_seq ?_
    refine c_ret ?_
    exact k_res1 hS rfl (RV.tmp rfl) ⟨_, rfl, ⟨r, r22, rfl, sumR_numL hs, hr22⟩, Mem.dropRight (L := []) hM ho7.ge⟩

set_option maxRecDepth 100000 in
theorem rmean_ok (w0 : World) {v : Value} {m : Nat} {f : Nat → BitVec 64} (hr : Rd w0 v m (fun i => F (f i))) (hm : m ≤ 1000) : Tells Tryd.prog 23 #[v] w0 (meanR f m) := by
  refine ⟨by kernel_rfl, ?_⟩
  refine calls_sym Tryd.func23 rfl (by kernel_rfl) ?_
  intro a hS
  have hM : Mem w0 w0 [] := Mem.refl w0
  refine c_seq ?_
  refine c_region ?_
  refine s_val hS (by decide) rfl rfl (r_assign hS (show ev _ _ = some (F 0#64) from rfl)) ?_; clear hS; intro a hS
  refine s_nil ?_
  refine k_seq ?_
  refine c_seq ?_
  refine c_region ?_
  refine s_val hS (by decide) rfl rfl (r_assign hS (show ev _ _ = some (F 0#64) from rfl)) ?_; clear hS; intro a hS
  refine s_nil ?_
  refine k_seq ?_
  refine c_seq ?_
  refine c_region ?_
  refine s_val hS (by decide) rfl rfl (r_assign hS (show ev _ _ = some (N 0) from rfl)) ?_; clear hS; intro a hS
  refine s_nil ?_
  refine k_seq ?_
  refine c_seq ?_
  refine c_seq ?_
  refine c_region ?_
  refine s_val hS (by decide) rfl rfl (r_assign hS (show ev _ _ = some (N 0) from rfl)) ?_; clear hS; intro a hS
  refine s_nil ?_
  refine k_seq ?_
  refine c_block ?_
  refine c_loop (σ := Nat × BitVec 64) (fun s_ a w => (s_.1 ≤ m ∧ sumR f s_.1 s_.2) ∧ Slots a 33 (env [(0, v), (3, F s_.2), (4, N (numL f s_.1).length), (5, N s_.1)]) ∧ Mem w0 w ([])) (fun s_ => m - s_.1) ((0, 0#64)) ⟨⟨Nat.zero_le _, sumR_zero _⟩, hS.to _ ⟨rfl, rfl, (by unfold numL; rfl), rfl, trivial⟩, hM⟩ ?_
  clear hS hM; rintro ⟨k, r⟩ a w ⟨hk, hS, hM⟩
  obtain ⟨hk, hs⟩ := hk; dsimp only at hk hs hS hM
  refine c_seq ?_
  refine c_seq ?_
  refine c_region ?_
  refine s_val hS (by decide) rfl rfl (r_move hS rfl) ?_; clear hS; intro a hS
  refine s_val hS (by decide) rfl rfl (r_move hS rfl) ?_; clear hS; intro a hS
  refine s_val hS (by decide) rfl rfl (r_lenR hS rfl (hr.keepGe hM trivial) Tryd.underlying31) ?_; clear hS; intro a hS
  refine s_val hS (by decide) rfl rfl (r_bv hS rfl rfl gN (b_lssN _ _ _)) ?_; clear hS; intro a hS
  refine s_nil ?_
  refine k_seq ?_
  refine c_cond hS rfl (fun hc => ?_) (fun hc => ?_)
  · have hk1 := of_decide_eq_true hc
    refine c_skip ?_
    refine k_seq ?_
    refine c_seq ?_
    refine c_block ?_
    refine c_seq ?_
    cases hn : nanB (f k)
    · skip
      refine c_plan 9 (fun w => Mem w0 w _) [(0, _), (5, _), (3, _), (4, _), (6, _), (7, _), (8, _), (9, _)] (by kernel_rfl) (by kernel_rfl) hS ⟨rfl, rfl, rfl, rfl, rfl, rfl, rfl, rfl, trivial⟩ (hM.drawn _) ?_; clear hS hM
      refine p_step rfl (fun a w hS hM => y_val rfl (r_move hS rfl)) ?_
      refine p_step rfl (fun a w hS hM => y_val rfl (r_move hS rfl)) ?_
      refine p_step rfl (fun a w hS hM => y_val rfl (r_indexR hS rfl (hr.keepGe hM trivial) rfl Tryd.underlying31 sz22 (by omega))) ?_
      refine p_step rfl (fun a w hS hM => y_val rfl (r_loadR hS rfl (hr.keepGe hM trivial) (by omega) Tryd.underlying22 rfl)) ?_
      refine p_step rfl (fun a w hS hM => y_val rfl (r_move hS rfl)) ?_
      refine p_step rfl (fun a w hS hM => y_val rfl (r_move hS rfl)) ?_
      refine p_step rfl (fun a w hS hM => y_val rfl (r_indexR hS rfl (hr.keepGe hM trivial) rfl Tryd.underlying31 sz22 (by omega))) ?_
      refine p_step rfl (fun a w hS hM => y_val rfl (r_loadR hS rfl (hr.keepGe hM trivial) (by omega) Tryd.underlying22 rfl)) ?_
      refine p_step rfl (fun a w hS hM => y_val rfl (r_bv hS rfl rfl gF (b_eqlFn _ hn))) ?_
      refine p_nil rfl ?_; intro a w hS hM
      refine s_nil ?_
      refine k_seq ?_
      refine c_true hS rfl rfl ?_
      refine c_seq ?_
      refine c_region ?_
      refine s_val hS (by decide) rfl rfl (r_move hS rfl) ?_; clear hS; intro a hS
      refine s_val hS (by decide) rfl rfl (r_move hS rfl) ?_; clear hS; intro a hS
      refine s_val hS (by decide) rfl rfl (r_move hS rfl) ?_; clear hS; intro a hS
      refine s_val hS (by decide) rfl rfl (r_indexR hS rfl (hr.keepGe hM trivial) rfl Tryd.underlying31 sz22 (by omega)) ?_; clear hS; intro a hS
      refine s_val hS (by decide) rfl rfl (r_loadR hS rfl (hr.keepGe hM trivial) (by omega) Tryd.underlying22 rfl) ?_; clear hS; intro a hS
      refine s_float hS hM (by decide) rfl rfl (.inl rfl) ?_; clear hS hM; intro a w r26 hr26 hS hM
      refine s_val hS (by decide) rfl rfl (r_assign hS rfl) ?_; clear hS; intro a hS
      refine s_nil ?_
      refine k_seq ?_
      refine c_region ?_
      refine s_val hS (by decide) rfl rfl (r_move hS rfl) ?_; clear hS; intro a hS
      refine s_val hS (by decide) rfl rfl (r_bv hS rfl (show ev _ _ = some (N 1) from rfl) gN (b_addN _ _ _ (by have := numL_len f k; omega))) ?_; clear hS; intro a hS
      refine s_val hS (by decide) rfl rfl (r_assign hS rfl) ?_; clear hS; intro a hS
      refine s_nil ?_
      refine k_in ?_
      refine k_seq ?_
      refine c_region ?_
      refine s_val hS (by decide) rfl rfl (r_move hS rfl) ?_; clear hS; intro a hS
      refine s_val hS (by decide) rfl rfl (r_bv hS rfl (show ev _ _ = some (N 1) from rfl) gN (b_addN _ _ _ (by omega))) ?_; clear hS; intro a hS
      refine s_val hS (by decide) rfl rfl (r_assign hS rfl) ?_; clear hS; intro a hS
      refine s_nil ?_
      refine k_then ?_
      refine ⟨(k + 1, _), (by show m - (k + 1) < m - k; omega), ⟨by show k + 1 ≤ m; omega, by first | exact sumR_no hn hs | exact sumR_yes hn hs hr26⟩, hS.to _ ⟨rfl, rfl, congrArg (fun q => some (N q)) (by first | (rw [numL_no hn]; done) | (rw [numL_yes hn, List.length_append]; rfl)), rfl, trivial⟩, hM⟩
    · skip
      refine c_plan 9 (fun w => Mem w0 w _) [(0, _), (5, _), (3, _), (4, _), (6, _), (7, _), (8, _), (9, _)] (by kernel_rfl) (by kernel_rfl) hS ⟨rfl, rfl, rfl, rfl, rfl, rfl, rfl, rfl, trivial⟩ (hM.drawn _) ?_; clear hS hM
      refine p_step rfl (fun a w hS hM => y_val rfl (r_move hS rfl)) ?_
      refine p_step rfl (fun a w hS hM => y_val rfl (r_move hS rfl)) ?_
      refine p_step rfl (fun a w hS hM => y_val rfl (r_indexR hS rfl (hr.keepGe hM trivial) rfl Tryd.underlying31 sz22 (by omega))) ?_
      refine p_step rfl (fun a w hS hM => y_val rfl (r_loadR hS rfl (hr.keepGe hM trivial) (by omega) Tryd.underlying22 rfl)) ?_
      refine p_step rfl (fun a w hS hM => y_val rfl (r_move hS rfl)) ?_
      refine p_step rfl (fun a w hS hM => y_val rfl (r_move hS rfl)) ?_
      refine p_step rfl (fun a w hS hM => y_val rfl (r_indexR hS rfl (hr.keepGe hM trivial) rfl Tryd.underlying31 sz22 (by omega))) ?_
      refine p_step rfl (fun a w hS hM => y_val rfl (r_loadR hS rfl (hr.keepGe hM trivial) (by omega) Tryd.underlying22 rfl)) ?_
      refine p_step rfl (fun a w hS hM => y_val rfl (r_bv hS rfl rfl gF (b_eqlFn _ hn))) ?_
      refine p_nil rfl ?_; intro a w hS hM
      refine s_nil ?_
      refine k_seq ?_
      refine c_false hS rfl rfl ?_
      refine c_skip ?_
      refine k_in ?_
      refine k_seq ?_
      refine c_region ?_
      refine s_val hS (by decide) rfl rfl (r_move hS rfl) ?_; clear hS; intro a hS
      refine s_val hS (by decide) rfl rfl (r_bv hS rfl (show ev _ _ = some (N 1) from rfl) gN (b_addN _ _ _ (by omega))) ?_; clear hS; intro a hS
      refine s_val hS (by decide) rfl rfl (r_assign hS rfl) ?_; clear hS; intro a hS
      refine s_nil ?_
      refine k_then ?_
      refine ⟨(k + 1, _), (by show m - (k + 1) < m - k; omega), ⟨by show k + 1 ≤ m; omega, by first | exact sumR_no hn hs | exact sumR_yes hn hs hr26⟩, hS.to _ ⟨rfl, rfl, congrArg (fun q => some (N q)) (by first | (rw [numL_no hn]; done) | (rw [numL_yes hn, List.length_append]; rfl)), rfl, trivial⟩, hM⟩
  · obtain rfl : k = m := by have := of_decide_eq_false hc; omega
    refine c_exit ?_
    refine k_thenx ?_
    refine k_thenx ?_
    refine k_inx ?_
    refine k_seq ?_
    refine c_seq ?_
    refine c_region ?_
    refine s_val hS (by decide) rfl rfl (r_move hS rfl) ?_; clear hS; intro a hS
    refine s_val hS (by decide) rfl rfl (r_move hS rfl) ?_; clear hS; intro a hS
    refine s_val hS (by decide) rfl rfl (r_convIF hS rfl (by kernel_rfl) Tryd.underlying22) ?_; clear hS; intro a hS
    refine s_float hS hM (by decide) rfl rfl (.inr (.inr (.inr rfl))) ?_; clear hS hM; intro a w r32 hr32 hS hM
    refine s_val hS (by decide) rfl rfl (r_assign hS rfl) ?_; clear hS; intro a hS
    refine s_nil ?_
    refine k_seq ?_
    refine c_ret ?_
    exact k_res1 hS rfl (RV.tmp rfl) ⟨_, rfl, ⟨r, r32, rfl, hs, hr32⟩, hM.done trivial⟩
end Go.Proofs.YtbfiaoemoookcaaDoor
