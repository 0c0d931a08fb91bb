/- The walks through the laws of chapter 7. Printed by a program of mine (walk.py). -/
import Derived.Test.YtfojllcccncdbaaPress2
namespace Go.Proofs.Ytfojllcccncdbaa
open Go Go.Sym

/-- The sixteen numbers of m bytes. -/
def wd (m : Nat) (f : Nat → BitVec 8) : Nat → BitVec 64 := if m = 128 then wordsTo f 128 else fun _ => 0
theorem words_rd (w0 : World) {v : Value} {m : Nat} {f : Nat → BitVec 8} (hr : Rd w0 v m (fun i => B (f i))) : Pure Try.prog 15 #[v] w0 (.tuple #[.agg (cU 16 (wd m f)).toArray, .bool (decide (m = 128))]) := by
  by_cases hm : m = 128
  · subst hm
    obtain ⟨cap, hv, _⟩ := hr.at (i := 0) (by decide)
    rw [hv]
    exact words_ok w0 _ _ cap f (hr.lt (by decide)) (fun i hi => hr.get hi)
  · obtain ⟨ad, cap, rfl, _⟩ := hr
    unfold wd
    rw [if_neg hm, decide_eq_false hm]
    exact words_no w0 ad m cap hm
theorem rwords_rd (w0 : World) {v : Value} {m : Nat} {f : Nat → BitVec 8} (hr : Rd w0 v m (fun i => B (f i))) : Pure Try.prog 16 #[v] w0 (.tuple #[.agg (cU 16 (wd m f)).toArray, .bool (decide (m = 128))]) := by
  by_cases hm : m = 128
  · subst hm
    obtain ⟨cap, hv, _⟩ := hr.at (i := 0) (by decide)
    rw [hv]
    exact rwords_ok w0 _ _ cap f (hr.lt (by decide)) (fun i hi => hr.get hi)
  · obtain ⟨ad, cap, rfl, _⟩ := hr
    unfold wd
    rw [if_neg hm, decide_eq_false hm]
    exact rwords_no w0 ad m cap hm
theorem wd_full (f : Nat → BitVec 8) : wd 128 f = wordsTo f 128 := if_pos rfl
theorem made22_128 : Made Try.prog 22 5 128 (cB 128 (fun _ => 0)) := fun _ => by kernel_rfl

set_option maxRecDepth 100000 in
theorem alive7_ok  (w0 : World) : Pure Try.prog 14 #[] w0 (.bool true) := by
  refine ⟨by kernel_rfl, ?_⟩
  refine calls_sym Try.func14 rfl (by kernel_rfl) ?_
  intro a hS
  have hM : Mem w0 w0 [] := Mem.refl w0
  refine c_seq ?_
  refine c_region ?_
  refine s_val hS (by decide) rfl rfl (r_assign hS rfl) ?_; clear hS; intro a hS
  refine s_nil ?_
  refine k_seq ?_
  refine c_seq ?_
  refine c_region ?_
  refine s_make hS hM (by decide) (show ev _ _ = some (N 128) from rfl) (show ev _ _ = some (N 128) from rfl) made22_128 ?_; clear hS hM; intro a b4 w hb4 hS hM
  refine s_pure hS hM (by decide) rfl (words_rd _ (f := fun _ => 0) (Rd.of_mem (j := 0) hM rfl (Nat.le_refl 128) (fun i hi => by rw [Nat.zero_add]; exact cells_get hi))) ?_; clear hS hM; intro a w hS hM
  refine s_val hS (by decide) rfl rfl (r_move hS rfl) ?_; clear hS; intro a hS
  refine s_val hS (by decide) rfl rfl (r_extract hS rfl rfl) ?_; clear hS; intro a hS
  refine s_val hS (by decide) rfl rfl (r_extract hS rfl rfl) ?_; clear hS; intro a hS
  refine s_alloc hS hM (by decide) zero25 ?_; clear hS hM; intro a b1 w hb1 hS hM
  refine s_storeAll hS hM rfl rfl (j := 0) rfl sz25 cells_len cells_len cU_one ?_; clear hS hM; intro a w hS hM
  refine s_val hS (by decide) rfl rfl (r_assign hS rfl) ?_; clear hS; intro a hS
  refine s_nil ?_
  refine k_seq ?_
  refine c_seq ?_
  refine c_region ?_
  refine s_pure hS hM (by decide) (vs := [U 1#64, N 1]) rfl (rotr_ok _ _ (by omega) _) ?_; clear hS hM; intro a w hS hM
  refine s_val hS (by decide) rfl rfl (r_bv hS rfl (show ev _ _ = some (U 9223372036854775808#64) from rfl) gU (b_eqlUt (by decide))) ?_; clear hS; intro a hS
  refine s_val hS (by decide) rfl rfl (r_move hS rfl) ?_; clear hS; intro a hS
  refine s_valg hS (by decide) rfl rfl rfl rfl rfl (r_move hS rfl) ?_; clear hS; intro a hS
  refine s_val hS (by decide) rfl rfl (r_pick hS rfl rfl) ?_; clear hS; intro a hS
  refine s_val hS (by decide) rfl rfl (r_move hS rfl) ?_; clear hS; intro a hS
  refine s_pureg hS hM (by decide) (vs := [U 1#64, U 1#64, U 0#64]) rfl rfl rfl rfl (ch_ok _ _ _ _) ?_; clear hS hM; intro a w hS hM
  refine s_valg hS (by decide) rfl rfl rfl rfl rfl (r_bv hS rfl (show ev _ _ = some (U 1#64) from rfl) gU (b_eqlUt (by decide))) ?_; clear hS; intro a hS
  refine s_val hS (by decide) rfl rfl (r_pick hS rfl rfl) ?_; clear hS; intro a hS
  refine s_val hS (by decide) rfl rfl (r_assign hS rfl) ?_; clear hS; intro a hS
  refine s_nil ?_
  refine k_seq ?_
  refine c_ret ?_
  exact k_res1 hS rfl (RV.tmp rfl) ⟨rfl, hM.done ⟨hb1, hb4, trivial⟩⟩

set_option maxRecDepth 100000 in
theorem pressWords_ok (w0 : World) (v : Value) (m : Nat) (f : Nat → BitVec 8) (hr : Rd w0 v m (fun i => B (f i))) : Pure Try.prog 3 #[v] w0 (.bool true) := by
  refine ⟨by kernel_rfl, ?_⟩
  refine calls_sym Try.func3 rfl (by kernel_rfl) ?_
  intro a hS
  have hM : Mem w0 w0 [] := Mem.refl w0
  refine c_seq ?_
  refine c_region ?_
  refine s_val hS (by decide) rfl rfl (r_assign hS rfl) ?_; clear hS; intro a hS
  refine s_nil ?_
  refine k_seq ?_
  refine c_seq ?_
  refine c_region ?_
  refine s_pure hS hM (by decide) rfl (alive7_ok _) ?_; clear hS hM; intro a w hS hM
  refine s_val hS (by decide) rfl rfl (r_assign hS rfl) ?_; clear hS; intro a hS
  refine s_nil ?_
  refine k_seq ?_
  refine c_seq ?_
  refine c_seq ?_
  refine c_region ?_
  refine s_val hS (by decide) rfl rfl (r_move hS rfl) ?_; clear hS; intro a hS
  refine s_val hS (by decide) rfl rfl (r_not hS rfl) ?_; clear hS; intro a hS
  refine s_val hS (by decide) rfl rfl (r_move hS rfl) ?_; clear hS; intro a hS
  refine s_valg hS (by decide) rfl rfl rfl rfl rfl (r_move hS rfl) ?_; clear hS; intro a hS
  refine s_valg hS (by decide) rfl rfl rfl rfl rfl (r_lenR hS rfl (hr.keepGe hM trivial) Try.underlying22) ?_; clear hS; intro a hS
  refine s_valg hS (by decide) rfl rfl rfl rfl rfl (r_bv hS rfl (show ev _ _ = some (N 300) from rfl) gN (b_gtrN _ _ _)) ?_; clear hS; intro a hS
  refine s_val hS (by decide) rfl rfl (r_pick hS rfl rfl) ?_; clear hS; intro a hS
  refine s_nil ?_
  refine k_seq ?_
  refine c_cond hS rfl (fun hc => ?_) (fun hc => ?_)
  · try simp at hc
    refine c_seq ?_
    refine c_region ?_
    refine s_val hS (by decide) rfl rfl (r_move hS rfl) ?_; clear hS; intro a hS
    refine s_val hS (by decide) rfl rfl (r_assign hS rfl) ?_; clear hS; intro a hS
    refine s_nil ?_
    refine k_seq ?_
    refine c_ret ?_
    refine k_thenr ?_
    exact k_res1 hS rfl (RV.tmp rfl) ⟨rfl, hM.done trivial⟩
  · try simp at hc
    refine c_skip ?_
    refine k_seq ?_
    refine c_seq ?_
    refine c_region ?_
    refine s_val hS (by decide) rfl rfl (r_move hS rfl) ?_; clear hS; intro a hS
    refine s_pure hS hM (by decide) rfl (words_rd _ (hr.keepGe hM trivial)) ?_; clear hS hM; intro a w hS hM
    refine s_val hS (by decide) rfl rfl (r_move hS rfl) ?_; clear hS; intro a hS
    refine s_val hS (by decide) rfl rfl (r_extract hS rfl rfl) ?_; clear hS; intro a hS
    refine s_val hS (by decide) rfl rfl (r_extract hS rfl rfl) ?_; clear hS; intro a hS
    refine s_alloc hS hM (by decide) zero25 ?_; clear hS hM; intro a b4 w hb4 hS hM
    refine s_storeAll hS hM rfl rfl (j := 0) rfl sz25 cells_len cells_len cU_one ?_; clear hS hM; intro a w hS hM
    refine s_val hS (by decide) rfl rfl (r_assign hS rfl) ?_; clear hS; intro a hS
    refine s_nil ?_
    refine k_seq ?_
    refine c_seq ?_
    refine c_region ?_
    refine s_val hS (by decide) rfl rfl (r_move hS rfl) ?_; clear hS; intro a hS
    refine s_pure hS hM (by decide) rfl (rwords_rd _ (hr.keepGe hM ⟨hb4, trivial⟩)) ?_; clear hS hM; intro a w hS hM
    refine s_val hS (by decide) rfl rfl (r_move hS rfl) ?_; clear hS; intro a hS
    refine s_val hS (by decide) rfl rfl (r_extract hS rfl rfl) ?_; clear hS; intro a hS
    refine s_val hS (by decide) rfl rfl (r_extract hS rfl rfl) ?_; clear hS; intro a hS
    refine s_alloc hS hM (by decide) zero25 ?_; clear hS hM; intro a b6 w hb6 hS hM
    refine s_storeAll hS hM rfl rfl (j := 0) rfl sz25 cells_len cells_len cU_one ?_; clear hS hM; intro a w hS hM
    refine s_val hS (by decide) rfl rfl (r_assign hS rfl) ?_; clear hS; intro a hS
    refine s_nil ?_
    refine k_seq ?_
    refine c_seq ?_
    refine c_region ?_
    refine s_val hS (by decide) rfl rfl (r_loadAll hS hM rfl (j := 1) rfl Try.underlying25 rfl sz25 cells_len) ?_; clear hS; intro a hS
    refine s_val hS (by decide) rfl rfl (r_loadAll hS hM rfl (j := 0) rfl Try.underlying25 rfl sz25 cells_len) ?_; clear hS; intro a hS
    refine s_val hS (by decide) rfl rfl (r_eqlUt hS rfl rfl (by kernel_rfl) Try.underlying25 Try.underlying24 sz24 (fun _ _ => rfl)) ?_; clear hS; intro a hS
    refine s_val hS (by decide) rfl rfl (r_move hS rfl) ?_; clear hS; intro a hS
    refine s_valg hS (by decide) rfl rfl rfl rfl rfl (r_move hS rfl) ?_; clear hS; intro a hS
    refine s_valg hS (by decide) rfl rfl rfl rfl rfl (r_move hS rfl) ?_; clear hS; intro a hS
    refine s_valg hS (by decide) rfl rfl rfl rfl rfl (r_eqbt hS rfl rfl Try.underlying4 rfl) ?_; clear hS; intro a hS
    refine s_val hS (by decide) rfl rfl (r_pick hS rfl rfl) ?_; clear hS; intro a hS
    refine s_val hS (by decide) rfl rfl (r_assign hS rfl) ?_; clear hS; intro a hS
    refine s_nil ?_
    refine k_seq ?_
    refine c_ret ?_
    exact k_res1 hS rfl (RV.tmp rfl) ⟨rfl, hM.done ⟨hb6, hb4, trivial⟩⟩

set_option maxRecDepth 100000 in
theorem pressRotr_ok (w0 : World) (x : BitVec 64) (n k : Int) : Pure Try.prog 4 #[U x, .int .i64 n, .int .i64 k] w0 (.bool true) := by
  refine ⟨by kernel_rfl, ?_⟩
  refine calls_sym Try.func4 rfl (by kernel_rfl) ?_
  intro a hS
  have hM : Mem w0 w0 [] := Mem.refl w0
  refine c_seq ?_
  refine c_region ?_
  refine s_val hS (by decide) rfl rfl (r_assign hS rfl) ?_; clear hS; intro a hS
  refine s_nil ?_
  refine k_seq ?_
  refine c_seq ?_
  refine c_region ?_
  refine s_pure hS hM (by decide) rfl (alive7_ok _) ?_; clear hS hM; intro a w hS hM
  refine s_val hS (by decide) rfl rfl (r_assign hS rfl) ?_; clear hS; intro a hS
  refine s_nil ?_
  refine k_seq ?_
  refine c_seq ?_
  refine c_seq ?_
  refine c_region ?_
  refine s_val hS (by decide) rfl rfl (r_move hS rfl) ?_; clear hS; intro a hS
  refine s_val hS (by decide) rfl rfl (r_not hS rfl) ?_; clear hS; intro a hS
  refine s_val hS (by decide) rfl rfl (r_move hS rfl) ?_; clear hS; intro a hS
  refine s_valg hS (by decide) rfl rfl rfl rfl rfl (r_move hS rfl) ?_; clear hS; intro a hS
  refine s_valgb hS (by decide) rfl rfl rfl rfl rfl (r_bv hS rfl (show ev _ _ = some (.int .i64 (-1000)) from rfl) gZ (b_lssZ _ _ _)) (fun hc => ?_) (fun hc => ?_)
  · clear hS; intro a hS
    refine s_val hS (by decide) rfl rfl (r_pick hS rfl rfl) ?_; clear hS; intro a hS
    refine s_val hS (by decide) rfl rfl (r_move hS rfl) ?_; clear hS; intro a hS
    refine s_skip hS (by decide) rfl rfl rfl rfl rfl ?_; clear hS; intro a hS
    refine s_skip hS (by decide) rfl rfl rfl rfl rfl ?_; clear hS; intro a hS
    refine s_val hS (by decide) rfl rfl (r_pick hS rfl rfl) ?_; clear hS; intro a hS
    refine s_val hS (by decide) rfl rfl (r_move hS rfl) ?_; clear hS; intro a hS
    refine s_skip hS (by decide) rfl rfl rfl rfl rfl ?_; clear hS; intro a hS
    refine s_skip hS (by decide) rfl rfl rfl rfl rfl ?_; clear hS; intro a hS
    refine s_val hS (by decide) rfl rfl (r_pick hS rfl rfl) ?_; clear hS; intro a hS
    refine s_val hS (by decide) rfl rfl (r_move hS rfl) ?_; clear hS; intro a hS
    refine s_skip hS (by decide) rfl rfl rfl rfl rfl ?_; clear hS; intro a hS
    refine s_skip hS (by decide) rfl rfl rfl rfl rfl ?_; clear hS; intro a hS
    refine s_val hS (by decide) rfl rfl (r_pick hS rfl rfl) ?_; clear hS; intro a hS
    refine s_nil ?_
    refine k_seq ?_
    refine c_true hS rfl rfl ?_
    refine c_seq ?_
    refine c_region ?_
    refine s_val hS (by decide) rfl rfl (r_move hS rfl) ?_; clear hS; intro a hS
    refine s_val hS (by decide) rfl rfl (r_assign hS rfl) ?_; clear hS; intro a hS
    refine s_nil ?_
    refine k_seq ?_
    refine c_ret ?_
    refine k_thenr ?_
    exact k_res1 hS rfl (RV.tmp rfl) ⟨rfl, hM.done trivial⟩
  · clear hS; intro a hS; have h1 := of_decide_eq_false hc
    refine s_val hS (by decide) rfl rfl (r_pick hS rfl rfl) ?_; clear hS; intro a hS
    refine s_val hS (by decide) rfl rfl (r_move hS rfl) ?_; clear hS; intro a hS
    refine s_valg hS (by decide) rfl rfl rfl rfl rfl (r_move hS rfl) ?_; clear hS; intro a hS
    refine s_valgb hS (by decide) rfl rfl rfl rfl rfl (r_bv hS rfl (show ev _ _ = some (.int .i64 (1000)) from rfl) gZ (b_gtrZ _ _ _)) (fun hc => ?_) (fun hc => ?_)
    · clear hS; intro a hS
      refine s_val hS (by decide) rfl rfl (r_pick hS rfl rfl) ?_; clear hS; intro a hS
      refine s_val hS (by decide) rfl rfl (r_move hS rfl) ?_; clear hS; intro a hS
      refine s_skip hS (by decide) rfl rfl rfl rfl rfl ?_; clear hS; intro a hS
      refine s_skip hS (by decide) rfl rfl rfl rfl rfl ?_; clear hS; intro a hS
      refine s_val hS (by decide) rfl rfl (r_pick hS rfl rfl) ?_; clear hS; intro a hS
      refine s_val hS (by decide) rfl rfl (r_move hS rfl) ?_; clear hS; intro a hS
      refine s_skip hS (by decide) rfl rfl rfl rfl rfl ?_; clear hS; intro a hS
      refine s_skip hS (by decide) rfl rfl rfl rfl rfl ?_; clear hS; intro a hS
      refine s_val hS (by decide) rfl rfl (r_pick hS rfl rfl) ?_; clear hS; intro a hS
      refine s_nil ?_
      refine k_seq ?_
      refine c_true hS rfl rfl ?_
      refine c_seq ?_
      refine c_region ?_
      refine s_val hS (by decide) rfl rfl (r_move hS rfl) ?_; clear hS; intro a hS
      refine s_val hS (by decide) rfl rfl (r_assign hS rfl) ?_; clear hS; intro a hS
      refine s_nil ?_
      refine k_seq ?_
      refine c_ret ?_
      refine k_thenr ?_
      exact k_res1 hS rfl (RV.tmp rfl) ⟨rfl, hM.done trivial⟩
    · clear hS; intro a hS; have h2 := of_decide_eq_false hc
      refine s_val hS (by decide) rfl rfl (r_pick hS rfl rfl) ?_; clear hS; intro a hS
      refine s_val hS (by decide) rfl rfl (r_move hS rfl) ?_; clear hS; intro a hS
      refine s_valg hS (by decide) rfl rfl rfl rfl rfl (r_move hS rfl) ?_; clear hS; intro a hS
      refine s_valgb hS (by decide) rfl rfl rfl rfl rfl (r_bv hS rfl (show ev _ _ = some (.int .i64 (-1000)) from rfl) gZ (b_lssZ _ _ _)) (fun hc => ?_) (fun hc => ?_)
      · clear hS; intro a hS
        refine s_val hS (by decide) rfl rfl (r_pick hS rfl rfl) ?_; clear hS; intro a hS
        refine s_val hS (by decide) rfl rfl (r_move hS rfl) ?_; clear hS; intro a hS
        refine s_skip hS (by decide) rfl rfl rfl rfl rfl ?_; clear hS; intro a hS
        refine s_skip hS (by decide) rfl rfl rfl rfl rfl ?_; clear hS; intro a hS
        refine s_val hS (by decide) rfl rfl (r_pick hS rfl rfl) ?_; clear hS; intro a hS
        refine s_nil ?_
        refine k_seq ?_
        refine c_true hS rfl rfl ?_
        refine c_seq ?_
        refine c_region ?_
        refine s_val hS (by decide) rfl rfl (r_move hS rfl) ?_; clear hS; intro a hS
        refine s_val hS (by decide) rfl rfl (r_assign hS rfl) ?_; clear hS; intro a hS
        refine s_nil ?_
        refine k_seq ?_
        refine c_ret ?_
        refine k_thenr ?_
        exact k_res1 hS rfl (RV.tmp rfl) ⟨rfl, hM.done trivial⟩
      · clear hS; intro a hS; have h3 := of_decide_eq_false hc
        refine s_val hS (by decide) rfl rfl (r_pick hS rfl rfl) ?_; clear hS; intro a hS
        refine s_val hS (by decide) rfl rfl (r_move hS rfl) ?_; clear hS; intro a hS
        refine s_valg hS (by decide) rfl rfl rfl rfl rfl (r_move hS rfl) ?_; clear hS; intro a hS
        refine s_valgb hS (by decide) rfl rfl rfl rfl rfl (r_bv hS rfl (show ev _ _ = some (.int .i64 (1000)) from rfl) gZ (b_gtrZ _ _ _)) (fun hc => ?_) (fun hc => ?_)
        · clear hS; intro a hS
          refine s_val hS (by decide) rfl rfl (r_pick hS rfl rfl) ?_; clear hS; intro a hS
          refine s_nil ?_
          refine k_seq ?_
          refine c_true hS rfl rfl ?_
          refine c_seq ?_
          refine c_region ?_
          refine s_val hS (by decide) rfl rfl (r_move hS rfl) ?_; clear hS; intro a hS
          refine s_val hS (by decide) rfl rfl (r_assign hS rfl) ?_; clear hS; intro a hS
          refine s_nil ?_
          refine k_seq ?_
          refine c_ret ?_
          refine k_thenr ?_
          exact k_res1 hS rfl (RV.tmp rfl) ⟨rfl, hM.done trivial⟩
        · clear hS; intro a hS; have h4 := of_decide_eq_false hc
          refine s_val hS (by decide) rfl rfl (r_pick hS rfl rfl) ?_; clear hS; intro a hS
          refine s_nil ?_
          refine k_seq ?_
          refine c_false hS rfl rfl ?_
          refine c_skip ?_
          refine k_seq ?_
          refine c_seq ?_
          refine c_region ?_
          refine s_val hS (by decide) rfl rfl (r_move hS rfl) ?_; clear hS; intro a hS
          refine s_val hS (by decide) rfl rfl (r_move hS rfl) ?_; clear hS; intro a hS
          refine s_pure hS hM (by decide) rfl (rotr_ok _ _ (by omega) _) ?_; clear hS hM; intro a w hS hM
          refine s_val hS (by decide) rfl rfl (r_move hS rfl) ?_; clear hS; intro a hS
          refine s_pure hS hM (by decide) rfl (rotr_ok _ _ (by omega) _) ?_; clear hS hM; intro a w hS hM
          refine s_val hS (by decide) rfl rfl (r_move hS rfl) ?_; clear hS; intro a hS
          refine s_val hS (by decide) rfl rfl (r_move hS rfl) ?_; clear hS; intro a hS
          refine s_val hS (by decide) rfl rfl (r_move hS rfl) ?_; clear hS; intro a hS
          refine s_val hS (by decide) rfl rfl (r_bv hS rfl rfl gZ (b_addZ _ _ _ (by omega))) ?_; clear hS; intro a hS
          refine s_pure hS hM (by decide) rfl (rotr_ok _ _ (by omega) _) ?_; clear hS hM; intro a w hS hM
          refine s_val hS (by decide) rfl rfl (r_bv hS rfl rfl gU (b_eqlUt (rotr_rotr _ _ _))) ?_; clear hS; intro a hS
          refine s_val hS (by decide) rfl rfl (r_move hS rfl) ?_; clear hS; intro a hS
          refine s_valg hS (by decide) rfl rfl rfl rfl rfl (r_move hS rfl) ?_; clear hS; intro a hS
          refine s_valg hS (by decide) rfl rfl rfl rfl rfl (r_move hS rfl) ?_; clear hS; intro a hS
          refine s_pureg hS hM (by decide) rfl rfl rfl rfl (rotr_ok _ _ (by omega) _) ?_; clear hS hM; intro a w hS hM
          refine s_valg hS (by decide) rfl rfl rfl rfl rfl (r_move hS rfl) ?_; clear hS; intro a hS
          refine s_valg hS (by decide) rfl rfl rfl rfl rfl (r_negZ hS rfl (by omega)) ?_; clear hS; intro a hS
          refine s_pureg hS hM (by decide) rfl rfl rfl rfl (rotr_ok _ _ (by omega) _) ?_; clear hS hM; intro a w hS hM
          refine s_valg hS (by decide) rfl rfl rfl rfl rfl (r_move hS rfl) ?_; clear hS; intro a hS
          refine s_valg hS (by decide) rfl rfl rfl rfl rfl (r_bv hS rfl rfl gU (b_eqlUt (rotr_back _ _))) ?_; clear hS; intro a hS
          refine s_val hS (by decide) rfl rfl (r_pick hS rfl rfl) ?_; clear hS; intro a hS
          refine s_val hS (by decide) rfl rfl (r_move hS rfl) ?_; clear hS; intro a hS
          refine s_valg hS (by decide) rfl rfl rfl rfl rfl (r_move hS rfl) ?_; clear hS; intro a hS
          refine s_valg hS (by decide) rfl rfl rfl rfl rfl (r_move hS rfl) ?_; clear hS; intro a hS
          refine s_valg hS (by decide) rfl rfl rfl rfl rfl (r_bv hS (show ev _ _ = some (.int .i64 (64)) from rfl) rfl gZ (b_mulZ _ _ _ (by omega))) ?_; clear hS; intro a hS
          refine s_pureg hS hM (by decide) rfl rfl rfl rfl (rotr_ok _ _ (by omega) _) ?_; clear hS hM; intro a w hS hM
          refine s_valg hS (by decide) rfl rfl rfl rfl rfl (r_move hS rfl) ?_; clear hS; intro a hS
          refine s_valg hS (by decide) rfl rfl rfl rfl rfl (r_bv hS rfl rfl gU (b_eqlUt (rotr_zero _ _ (by omega)))) ?_; clear hS; intro a hS
          refine s_val hS (by decide) rfl rfl (r_pick hS rfl rfl) ?_; clear hS; intro a hS
          refine s_val hS (by decide) rfl rfl (r_assign hS rfl) ?_; clear hS; intro a hS
          refine s_nil ?_
          refine k_seq ?_
          refine c_ret ?_
          exact k_res1 hS rfl (RV.tmp rfl) ⟨rfl, hM.done trivial⟩

set_option maxRecDepth 100000 in
theorem pressBits_ok (w0 : World) (x y z : BitVec 64) : Pure Try.prog 5 #[U x, U y, U z] w0 (.bool true) := by
  refine ⟨by kernel_rfl, ?_⟩
  refine calls_sym Try.func5 rfl (by kernel_rfl) ?_
  intro a hS
  have hM : Mem w0 w0 [] := Mem.refl w0
  refine c_seq ?_
  refine c_region ?_
  refine s_val hS (by decide) rfl rfl (r_assign hS rfl) ?_; clear hS; intro a hS
  refine s_nil ?_
  refine k_seq ?_
  refine c_seq ?_
  refine c_region ?_
  refine s_pure hS hM (by decide) rfl (alive7_ok _) ?_; clear hS hM; intro a w hS hM
  refine s_val hS (by decide) rfl rfl (r_assign hS rfl) ?_; clear hS; intro a hS
  refine s_nil ?_
  refine k_seq ?_
  refine c_seq ?_
  refine c_region ?_
  refine s_val hS (by decide) rfl rfl (r_move hS rfl) ?_; clear hS; intro a hS
  refine s_val hS (by decide) rfl rfl (r_move hS rfl) ?_; clear hS; intro a hS
  refine s_valg hS (by decide) rfl rfl rfl rfl rfl (r_move hS rfl) ?_; clear hS; intro a hS
  refine s_valg hS (by decide) rfl rfl rfl rfl rfl (r_move hS rfl) ?_; clear hS; intro a hS
  refine s_valg hS (by decide) rfl rfl rfl rfl rfl (r_move hS rfl) ?_; clear hS; intro a hS
  refine s_pureg hS hM (by decide) rfl rfl rfl rfl (maj_ok _ _ _ _) ?_; clear hS hM; intro a w hS hM
  refine s_valg hS (by decide) rfl rfl rfl rfl rfl (r_move hS rfl) ?_; clear hS; intro a hS
  refine s_valg hS (by decide) rfl rfl rfl rfl rfl (r_move hS rfl) ?_; clear hS; intro a hS
  refine s_valg hS (by decide) rfl rfl rfl rfl rfl (r_move hS rfl) ?_; clear hS; intro a hS
  refine s_pureg hS hM (by decide) rfl rfl rfl rfl (maj_ok _ _ _ _) ?_; clear hS hM; intro a w hS hM
  refine s_valg hS (by decide) rfl rfl rfl rfl rfl (r_bv hS rfl rfl gU (b_eqlUt (maj_turn _ _ _))) ?_; clear hS; intro a hS
  refine s_val hS (by decide) rfl rfl (r_pick hS rfl rfl) ?_; clear hS; intro a hS
  refine s_val hS (by decide) rfl rfl (r_move hS rfl) ?_; clear hS; intro a hS
  refine s_valg hS (by decide) rfl rfl rfl rfl rfl (r_move hS rfl) ?_; clear hS; intro a hS
  refine s_valg hS (by decide) rfl rfl rfl rfl rfl (r_move hS rfl) ?_; clear hS; intro a hS
  refine s_valg hS (by decide) rfl rfl rfl rfl rfl (r_move hS rfl) ?_; clear hS; intro a hS
  refine s_pureg hS hM (by decide) rfl rfl rfl rfl (maj_ok _ _ _ _) ?_; clear hS hM; intro a w hS hM
  refine s_valg hS (by decide) rfl rfl rfl rfl rfl (r_move hS rfl) ?_; clear hS; intro a hS
  refine s_valg hS (by decide) rfl rfl rfl rfl rfl (r_bv hS rfl rfl gU (b_eqlUt (maj_same _ _))) ?_; clear hS; intro a hS
  refine s_val hS (by decide) rfl rfl (r_pick hS rfl rfl) ?_; clear hS; intro a hS
  refine s_val hS (by decide) rfl rfl (r_move hS rfl) ?_; clear hS; intro a hS
  refine s_valg hS (by decide) rfl rfl rfl rfl rfl (r_move hS rfl) ?_; clear hS; intro a hS
  refine s_valg hS (by decide) rfl rfl rfl rfl rfl (r_move hS rfl) ?_; clear hS; intro a hS
  refine s_valg hS (by decide) rfl rfl rfl rfl rfl (r_move hS rfl) ?_; clear hS; intro a hS
  refine s_pureg hS hM (by decide) rfl rfl rfl rfl (ch_ok _ _ _ _) ?_; clear hS hM; intro a w hS hM
  refine s_valg hS (by decide) rfl rfl rfl rfl rfl (r_move hS rfl) ?_; clear hS; intro a hS
  refine s_valg hS (by decide) rfl rfl rfl rfl rfl (r_bv hS rfl rfl gU (b_eqlUt (ch_same _ _))) ?_; clear hS; intro a hS
  refine s_val hS (by decide) rfl rfl (r_pick hS rfl rfl) ?_; clear hS; intro a hS
  refine s_val hS (by decide) rfl rfl (r_move hS rfl) ?_; clear hS; intro a hS
  refine s_valg hS (by decide) rfl rfl rfl rfl rfl (r_move hS rfl) ?_; clear hS; intro a hS
  refine s_valg hS (by decide) rfl rfl rfl rfl rfl (r_move hS rfl) ?_; clear hS; intro a hS
  refine s_valg hS (by decide) rfl rfl rfl rfl rfl (r_move hS rfl) ?_; clear hS; intro a hS
  refine s_pureg hS hM (by decide) rfl rfl rfl rfl (ch_ok _ _ _ _) ?_; clear hS hM; intro a w hS hM
  refine s_valg hS (by decide) rfl rfl rfl rfl rfl (r_move hS rfl) ?_; clear hS; intro a hS
  refine s_valg hS (by decide) rfl rfl rfl rfl rfl (r_notU hS rfl) ?_; clear hS; intro a hS
  refine s_valg hS (by decide) rfl rfl rfl rfl rfl (r_move hS rfl) ?_; clear hS; intro a hS
  refine s_valg hS (by decide) rfl rfl rfl rfl rfl (r_move hS rfl) ?_; clear hS; intro a hS
  refine s_pureg hS hM (by decide) rfl rfl rfl rfl (ch_ok _ _ _ _) ?_; clear hS hM; intro a w hS hM
  refine s_valg hS (by decide) rfl rfl rfl rfl rfl (r_bv hS rfl rfl gU (b_xorU _ _ _)) ?_; clear hS; intro a hS
  refine s_valg hS (by decide) rfl rfl rfl rfl rfl (r_move hS rfl) ?_; clear hS; intro a hS
  refine s_valg hS (by decide) rfl rfl rfl rfl rfl (r_move hS rfl) ?_; clear hS; intro a hS
  refine s_valg hS (by decide) rfl rfl rfl rfl rfl (r_bv hS rfl rfl gU (b_xorU _ _ _)) ?_; clear hS; intro a hS
  refine s_valg hS (by decide) rfl rfl rfl rfl rfl (r_bv hS rfl rfl gU (b_eqlUt (ch_not _ _ _))) ?_; clear hS; intro a hS
  refine s_val hS (by decide) rfl rfl (r_pick hS rfl rfl) ?_; clear hS; intro a hS
  refine s_val hS (by decide) rfl rfl (r_move hS rfl) ?_; clear hS; intro a hS
  refine s_valg hS (by decide) rfl rfl rfl rfl rfl (r_move hS rfl) ?_; clear hS; intro a hS
  refine s_valg hS (by decide) rfl rfl rfl rfl rfl (r_move hS rfl) ?_; clear hS; intro a hS
  refine s_valg hS (by decide) rfl rfl rfl rfl rfl (r_move hS rfl) ?_; clear hS; intro a hS
  refine s_pureg hS hM (by decide) rfl rfl rfl rfl (maj_ok _ _ _ _) ?_; clear hS hM; intro a w hS hM
  refine s_valg hS (by decide) rfl rfl rfl rfl rfl (r_move hS rfl) ?_; clear hS; intro a hS
  refine s_valg hS (by decide) rfl rfl rfl rfl rfl (r_move hS rfl) ?_; clear hS; intro a hS
  refine s_valg hS (by decide) rfl rfl rfl rfl rfl (r_bv hS rfl rfl gU (b_xorU _ _ _)) ?_; clear hS; intro a hS
  refine s_valg hS (by decide) rfl rfl rfl rfl rfl (r_move hS rfl) ?_; clear hS; intro a hS
  refine s_valg hS (by decide) rfl rfl rfl rfl rfl (r_move hS rfl) ?_; clear hS; intro a hS
  refine s_pureg hS hM (by decide) rfl rfl rfl rfl (ch_ok _ _ _ _) ?_; clear hS hM; intro a w hS hM
  refine s_valg hS (by decide) rfl rfl rfl rfl rfl (r_bv hS rfl rfl gU (b_eqlUt (maj_ch _ _ _))) ?_; clear hS; intro a hS
  refine s_val hS (by decide) rfl rfl (r_pick hS rfl rfl) ?_; clear hS; intro a hS
  refine s_val hS (by decide) rfl rfl (r_assign hS rfl) ?_; clear hS; intro a hS
  refine s_nil ?_
  refine k_seq ?_
  refine c_ret ?_
  exact k_res1 hS rfl (RV.tmp rfl) ⟨rfl, hM.done trivial⟩

set_option maxRecDepth 100000 in
theorem pressTells_ok (w0 : World) (s m : Nat → BitVec 64) (x y z : BitVec 64) (n : Int) (hn : -9223372036854775808 ≤ n ∧ n < 9223372036854775808) : Pure Try.prog 7 #[.agg (cU 8 s).toArray, .agg (cU 16 m).toArray, U x, U y, U z, .int .i64 n] w0 (.bool true) := by
  refine ⟨by kernel_rfl, ?_⟩
  refine calls_sym Try.func7 rfl (by kernel_rfl) ?_
  intro a hS
  have hM : Mem w0 w0 [] := Mem.refl w0
  refine c_seq ?_
  refine c_region ?_
  refine s_box hS hM (by decide) rfl rfl ?_; clear hS hM; intro a b6 w hb6 hS hM
  refine s_box hS hM (by decide) rfl rfl ?_; clear hS hM; intro a b7 w hb7 hS hM
  refine s_val hS (by decide) rfl rfl (r_assign hS rfl) ?_; clear hS; intro a hS
  refine s_nil ?_
  refine k_seq ?_
  refine c_seq ?_
  refine c_region ?_
  refine s_pure hS hM (by decide) rfl (alive7_ok _) ?_; clear hS hM; intro a w hS hM
  refine s_val hS (by decide) rfl rfl (r_assign hS rfl) ?_; clear hS; intro a hS
  refine s_nil ?_
  refine k_seq ?_
  refine c_seq ?_
  refine c_plan 49 (fun w => Mem w0 w _) [(13, _), (6, _), (7, _), (2, _), (5, _), (3, _), (4, _)] (by kernel_rfl) (by kernel_rfl) hS ⟨rfl, rfl, rfl, rfl, rfl, rfl, rfl, trivial⟩ (hM.drawn _) ?_; clear hS hM
  refine p_step rfl (fun a w hS hM => y_val rfl (r_move hS rfl)) ?_
  refine p_step rfl (fun a w hS hM => y_val rfl (r_move hS rfl)) ?_
  refine p_step rfl (fun a w hS hM => y_valg hS rfl rfl rfl rfl (r_loadAll hS hM rfl (j := 1) rfl Try.underlying36 rfl sz36 cells_len)) ?_
  refine p_step rfl (fun a w hS hM => y_valg hS rfl rfl rfl rfl (r_loadAll hS hM rfl (j := 0) rfl Try.underlying25 rfl sz25 cells_len)) ?_
  refine p_step rfl (fun a w hS hM => y_callg (by kernel_rfl) hS rfl rfl rfl rfl ((step_ok _ _ _).mem hM)) ?_
  refine p_step rfl (fun a w hS hM => y_valg hS rfl rfl rfl rfl (r_loadAll hS hM rfl (j := 1) rfl Try.underlying36 rfl sz36 cells_len)) ?_
  refine p_step rfl (fun a w hS hM => y_valg hS rfl rfl rfl rfl (r_loadAll hS hM rfl (j := 0) rfl Try.underlying25 rfl sz25 cells_len)) ?_
  refine p_step rfl (fun a w hS hM => y_callg (by kernel_rfl) hS rfl rfl rfl rfl ((rstep_ok _ _ _).mem hM)) ?_
  refine p_step rfl (fun a w hS hM => y_valg hS rfl rfl rfl rfl (r_eqlUt hS rfl rfl (by kernel_rfl) Try.underlying36 Try.underlying24 sz24 (fun _ _ => rfl))) ?_
  refine p_step rfl (fun a w hS hM => y_val rfl (r_pick hS rfl rfl)) ?_
  refine p_step rfl (fun a w hS hM => y_val rfl (r_move hS rfl)) ?_
  refine p_step rfl (fun a w hS hM => y_valg hS rfl rfl rfl rfl (r_loadAll hS hM rfl (j := 0) rfl Try.underlying25 rfl sz25 cells_len)) ?_
  refine p_step rfl (fun a w hS hM => y_callg (by kernel_rfl) hS rfl rfl rfl rfl ((schedule_ok _ _).mem hM)) ?_
  refine p_step rfl (fun a w hS hM => y_valg hS rfl rfl rfl rfl (r_loadAll hS hM rfl (j := 0) rfl Try.underlying25 rfl sz25 cells_len)) ?_
  refine p_step rfl (fun a w hS hM => y_callg (by kernel_rfl) hS rfl rfl rfl rfl ((rschedule_ok _ _).mem hM)) ?_
  refine p_step rfl (fun a w hS hM => y_valg hS rfl rfl rfl rfl (r_eqlUt hS rfl rfl (by kernel_rfl) Try.underlying33 Try.underlying24 sz24 (fun _ _ => rfl))) ?_
  refine p_step rfl (fun a w hS hM => y_val rfl (r_pick hS rfl rfl)) ?_
  refine p_step rfl (fun a w hS hM => y_val rfl (r_move hS rfl)) ?_
  refine p_step rfl (fun a w hS hM => y_valg hS rfl rfl rfl rfl (r_move hS rfl)) ?_
  refine p_step rfl (fun a w hS hM => y_valg hS rfl rfl rfl rfl (r_move hS rfl)) ?_
  refine p_step rfl (fun a w hS hM => y_callg (by kernel_rfl) hS rfl rfl rfl rfl ((rotr_ok _ _ (by omega) _).mem hM)) ?_
  refine p_step rfl (fun a w hS hM => y_valg hS rfl rfl rfl rfl (r_move hS rfl)) ?_
  refine p_step rfl (fun a w hS hM => y_valg hS rfl rfl rfl rfl (r_move hS rfl)) ?_
  refine p_step rfl (fun a w hS hM => y_callg (by kernel_rfl) hS rfl rfl rfl rfl ((rrotr_ok _ _ (by omega) _).mem hM)) ?_
  refine p_step rfl (fun a w hS hM => y_valg hS rfl rfl rfl rfl (r_bv hS rfl rfl gU (b_eqlUt rfl))) ?_
  refine p_step rfl (fun a w hS hM => y_val rfl (r_pick hS rfl rfl)) ?_
  refine p_step rfl (fun a w hS hM => y_val rfl (r_move hS rfl)) ?_
  refine p_step rfl (fun a w hS hM => y_valg hS rfl rfl rfl rfl (r_move hS rfl)) ?_
  refine p_step rfl (fun a w hS hM => y_valg hS rfl rfl rfl rfl (r_move hS rfl)) ?_
  refine p_step rfl (fun a w hS hM => y_valg hS rfl rfl rfl rfl (r_move hS rfl)) ?_
  refine p_step rfl (fun a w hS hM => y_callg (by kernel_rfl) hS rfl rfl rfl rfl ((ch_ok _ _ _ _).mem hM)) ?_
  refine p_step rfl (fun a w hS hM => y_valg hS rfl rfl rfl rfl (r_move hS rfl)) ?_
  refine p_step rfl (fun a w hS hM => y_valg hS rfl rfl rfl rfl (r_move hS rfl)) ?_
  refine p_step rfl (fun a w hS hM => y_valg hS rfl rfl rfl rfl (r_move hS rfl)) ?_
  refine p_step rfl (fun a w hS hM => y_callg (by kernel_rfl) hS rfl rfl rfl rfl ((rch_ok _ _ _ _).mem hM)) ?_
  refine p_step rfl (fun a w hS hM => y_valg hS rfl rfl rfl rfl (r_bv hS rfl rfl gU (b_eqlUt (chTo_all _ _ _).symm))) ?_
  refine p_step rfl (fun a w hS hM => y_val rfl (r_pick hS rfl rfl)) ?_
  refine p_step rfl (fun a w hS hM => y_val rfl (r_move hS rfl)) ?_
  refine p_step rfl (fun a w hS hM => y_valg hS rfl rfl rfl rfl (r_move hS rfl)) ?_
  refine p_step rfl (fun a w hS hM => y_valg hS rfl rfl rfl rfl (r_move hS rfl)) ?_
  refine p_step rfl (fun a w hS hM => y_valg hS rfl rfl rfl rfl (r_move hS rfl)) ?_
  refine p_step rfl (fun a w hS hM => y_callg (by kernel_rfl) hS rfl rfl rfl rfl ((maj_ok _ _ _ _).mem hM)) ?_
  refine p_step rfl (fun a w hS hM => y_valg hS rfl rfl rfl rfl (r_move hS rfl)) ?_
  refine p_step rfl (fun a w hS hM => y_valg hS rfl rfl rfl rfl (r_move hS rfl)) ?_
  refine p_step rfl (fun a w hS hM => y_valg hS rfl rfl rfl rfl (r_move hS rfl)) ?_
  refine p_step rfl (fun a w hS hM => y_callg (by kernel_rfl) hS rfl rfl rfl rfl ((rmaj_ok _ _ _ _).mem hM)) ?_
  refine p_step rfl (fun a w hS hM => y_valg hS rfl rfl rfl rfl (r_bv hS rfl rfl gU (b_eqlUt (majTo_all _ _ _).symm))) ?_
  refine p_step rfl (fun a w hS hM => y_val rfl (r_pick hS rfl rfl)) ?_
  refine p_step rfl (fun a w hS hM => y_val rfl (r_assign hS rfl)) ?_
  refine p_nil rfl ?_; intro a w hS hM
  refine s_nil ?_
  refine k_seq ?_
  refine c_ret ?_
  exact k_res1 hS rfl (RV.tmp rfl) ⟨rfl, hM.done ⟨hb7, hb6, trivial⟩⟩

set_option maxRecDepth 100000 in
theorem pressSchedule_ok (w0 : World) (m : Nat → BitVec 64) (n : Int) (hn : -9223372036854775808 ≤ n ∧ n < 9223372036854775808) : Pure Try.prog 6 #[.agg (cU 16 m).toArray, .int .i64 n] w0 (.bool true) := by
  refine ⟨by kernel_rfl, ?_⟩
  refine calls_sym Try.func6 rfl (by kernel_rfl) ?_
  intro a hS
  have hM : Mem w0 w0 [] := Mem.refl w0
  refine c_seq ?_
  refine c_region ?_
  refine s_box hS hM (by decide) rfl rfl ?_; clear hS hM; intro a b2 w hb2 hS hM
  refine s_val hS (by decide) rfl rfl (r_assign hS rfl) ?_; clear hS; intro a hS
  refine s_nil ?_
  refine k_seq ?_
  refine c_seq ?_
  refine c_region ?_
  refine s_pure hS hM (by decide) rfl (alive7_ok _) ?_; clear hS hM; intro a w hS hM
  refine s_val hS (by decide) rfl rfl (r_assign hS rfl) ?_; clear hS; intro a hS
  refine s_nil ?_
  refine k_seq ?_
  refine c_seq ?_
  refine c_region ?_
  refine s_val hS (by decide) rfl rfl (r_loadAll hS hM rfl (j := 0) rfl Try.underlying25 rfl sz25 cells_len) ?_; clear hS; intro a hS
  refine s_pure hS hM (by decide) rfl (schedule_ok _ _) ?_; clear hS hM; intro a w hS hM
  refine s_alloc hS hM (by decide) zero33 ?_; clear hS hM; intro a b6 w hb6 hS hM
  refine s_storeAll hS hM rfl rfl (j := 0) rfl sz33 cells_len cells_len cU_one ?_; clear hS hM; intro a w hS hM
  refine s_nil ?_
  refine k_seq ?_
  refine c_seq ?_
  refine c_seq ?_
  refine c_region ?_
  refine s_val hS (by decide) rfl rfl (r_move hS rfl) ?_; clear hS; intro a hS
  refine s_val hS (by decide) rfl rfl (r_not hS rfl) ?_; clear hS; intro a hS
  refine s_val hS (by decide) rfl rfl (r_move hS rfl) ?_; clear hS; intro a hS
  refine s_valg hS (by decide) rfl rfl rfl rfl rfl (r_move hS rfl) ?_; clear hS; intro a hS
  refine s_valgb hS (by decide) rfl rfl rfl rfl rfl (r_bv hS rfl (show ev _ _ = some (.int .i64 (0)) from rfl) gZ (b_lssZ _ _ _)) (fun hc => ?_) (fun hc => ?_)
  · clear hS; intro a hS
    refine s_val hS (by decide) rfl rfl (r_pick hS rfl rfl) ?_; clear hS; intro a hS
    refine s_val hS (by decide) rfl rfl (r_move hS rfl) ?_; clear hS; intro a hS
    refine s_skip hS (by decide) rfl rfl rfl rfl rfl ?_; clear hS; intro a hS
    refine s_skip hS (by decide) rfl rfl rfl rfl rfl ?_; clear hS; intro a hS
    refine s_val hS (by decide) rfl rfl (r_pick hS rfl rfl) ?_; clear hS; intro a hS
    refine s_nil ?_
    refine k_seq ?_
    refine c_true hS rfl rfl ?_
    refine c_seq ?_
    refine c_region ?_
    refine s_val hS (by decide) rfl rfl (r_move hS rfl) ?_; clear hS; intro a hS
    refine s_val hS (by decide) rfl rfl (r_assign hS rfl) ?_; clear hS; intro a hS
    refine s_nil ?_
    refine k_seq ?_
    refine c_ret ?_
    refine k_thenr ?_
    exact k_res1 hS rfl (RV.tmp rfl) ⟨rfl, hM.done ⟨hb6, hb2, trivial⟩⟩
  · clear hS; intro a hS; have h1 := of_decide_eq_false hc
    refine s_val hS (by decide) rfl rfl (r_pick hS rfl rfl) ?_; clear hS; intro a hS
    refine s_val hS (by decide) rfl rfl (r_move hS rfl) ?_; clear hS; intro a hS
    refine s_valg hS (by decide) rfl rfl rfl rfl rfl (r_move hS rfl) ?_; clear hS; intro a hS
    refine s_valgb hS (by decide) rfl rfl rfl rfl rfl (r_bv hS rfl (show ev _ _ = some (.int .i64 (63)) from rfl) gZ (b_gtrZ _ _ _)) (fun hc => ?_) (fun hc => ?_)
    · clear hS; intro a hS
      refine s_val hS (by decide) rfl rfl (r_pick hS rfl rfl) ?_; clear hS; intro a hS
      refine s_nil ?_
      refine k_seq ?_
      refine c_true hS rfl rfl ?_
      refine c_seq ?_
      refine c_region ?_
      refine s_val hS (by decide) rfl rfl (r_move hS rfl) ?_; clear hS; intro a hS
      refine s_val hS (by decide) rfl rfl (r_assign hS rfl) ?_; clear hS; intro a hS
      refine s_nil ?_
      refine k_seq ?_
      refine c_ret ?_
      refine k_thenr ?_
      exact k_res1 hS rfl (RV.tmp rfl) ⟨rfl, hM.done ⟨hb6, hb2, trivial⟩⟩
    · clear hS; intro a hS; have h2 := of_decide_eq_false hc; obtain ⟨p, rfl⟩ : ∃ j : Nat, n = (j : Int) := ⟨n.toNat, by omega⟩
      refine s_val hS (by decide) rfl rfl (r_pick hS rfl rfl) ?_; clear hS; intro a hS
      refine s_nil ?_
      refine k_seq ?_
      refine c_false hS rfl rfl ?_
      refine c_skip ?_
      refine k_seq ?_
      refine c_seq ?_
      refine c_region ?_
      refine s_val hS (by decide) rfl rfl (r_build hS rfl (cs := cU 16 (fun _ => 0)) (fun _ => by kernel_rfl)) ?_; clear hS; intro a hS
      refine s_alloc hS hM (by decide) zero25 ?_; clear hS hM; intro a b7 w hb7 hS hM
      refine s_storeAll hS hM rfl rfl (j := 0) rfl sz25 cells_len cells_len cU_one ?_; clear hS hM; intro a w hS hM
      refine s_nil ?_
      refine k_seq ?_
      refine c_seq ?_
      refine c_seq ?_
      refine c_region ?_
      refine s_val hS (by decide) rfl rfl (r_assign hS (show ev _ _ = some (N 0) from rfl)) ?_; clear hS; intro a hS
      refine s_nil ?_
      refine k_seq ?_
      refine c_block ?_
      refine c_loop (σ := Nat) (fun k a w => (k ≤ 16) ∧ Slots a 54 (env [(1, N p), (6, ptr b6 0), (7, ptr b7 0), (8, N k)]) ∧ Mem w0 w ([⟨b7, 25, cU 16 (fillTo 0 (fun i => schTo m 80 (p + i)) k)⟩, ⟨b6, 33, cU 80 (schTo m 80)⟩, ⟨b2, 25, cU 16 m⟩])) (fun k => 16 - k) (0) ⟨by omega, hS.to _ ⟨rfl, rfl, rfl, rfl, trivial⟩, hM⟩ ?_
      clear hS hM; rintro k a w ⟨hk, hS, hM⟩
      refine c_seq ?_
      refine c_seq ?_
      refine c_region ?_
      refine s_val hS (by decide) rfl rfl (r_move hS rfl) ?_; clear hS; intro a hS
      refine s_val hS (by decide) rfl rfl (r_bv hS rfl (show ev _ _ = some (N 16) from rfl) gN (b_lssN _ _ _)) ?_; clear hS; intro a hS
      refine s_nil ?_
      refine k_seq ?_
      refine c_cond hS rfl (fun hc => ?_) (fun hc => ?_)
      · have hk1 := of_decide_eq_true hc
        refine c_skip ?_
        refine k_seq ?_
        refine c_seq ?_
        refine c_block ?_
        refine c_region ?_
        refine s_val hS (by decide) rfl rfl (r_move hS rfl) ?_; clear hS; intro a hS
        refine s_val hS (by decide) rfl rfl (r_move hS rfl) ?_; clear hS; intro a hS
        refine s_val hS (by decide) rfl rfl (r_move hS rfl) ?_; clear hS; intro a hS
        refine s_val hS (by decide) rfl rfl (r_bv hS rfl rfl gN (b_addN _ _ _ (by omega))) ?_; clear hS; intro a hS
        refine s_val hS (by decide) rfl rfl (r_index0 hS rfl rfl Try.underlying33 sz24 (by omega)) ?_; clear hS; intro a hS
        refine s_val hS (by decide) rfl rfl (r_load hS hM rfl (j := 1) rfl Try.underlying24 rfl (cells_get (by omega))) ?_; clear hS; intro a hS
        refine s_val hS (by decide) rfl rfl (r_index0 hS rfl rfl Try.underlying25 sz24 (by omega)) ?_; clear hS; intro a hS
        refine s_storeU hS hM rfl rfl (j := 0) rfl sz24 (by omega) ?_; clear hS hM; intro a w hS hM
        refine s_nil ?_
        refine k_in ?_
        refine k_seq ?_
        refine c_region ?_
        refine s_val hS (by decide) rfl rfl (r_move hS rfl) ?_; clear hS; intro a hS
        refine s_val hS (by decide) rfl rfl (r_bv hS rfl (show ev _ _ = some (N 1) from rfl) gN (b_addN _ _ _ (by omega))) ?_; clear hS; intro a hS
        refine s_val hS (by decide) rfl rfl (r_assign hS rfl) ?_; clear hS; intro a hS
        refine s_nil ?_
        refine k_then ?_
        refine ⟨k + 1, by omega, by omega, hS.to _ ⟨rfl, rfl, rfl, rfl, trivial⟩, hM⟩
      · obtain rfl : k = 16 := by have := of_decide_eq_false hc; omega
        refine c_exit ?_
        refine k_thenx ?_
        refine k_thenx ?_
        refine k_inx ?_
        refine k_seq ?_
        refine c_seq ?_
        refine c_region ?_
        refine s_val hS (by decide) rfl rfl (r_loadAll hS hM rfl (j := 0) rfl Try.underlying25 rfl sz25 cells_len) ?_; clear hS; intro a hS
        refine s_pure hS hM (by decide) rfl (schedule_ok _ _) ?_; clear hS hM; intro a w hS hM
        refine s_alloc hS hM (by decide) zero33 ?_; clear hS hM; intro a b9 w hb9 hS hM
        refine s_storeAll hS hM rfl rfl (j := 0) rfl sz33 cells_len cells_len cU_one ?_; clear hS hM; intro a w hS hM
        refine s_nil ?_
        refine k_seq ?_
        refine c_seq ?_
        refine c_seq ?_
        refine c_region ?_
        refine s_val hS (by decide) rfl rfl (r_assign hS (show ev _ _ = some (N 0) from rfl)) ?_; clear hS; intro a hS
        refine s_nil ?_
        refine k_seq ?_
        refine c_block ?_
        refine c_loop (σ := Nat) (fun k a w => (k ≤ 80 - p) ∧ Slots a 54 (env [(1, N p), (6, ptr b6 0), (9, ptr b9 0), (10, N k)]) ∧ Mem w0 w ([⟨b9, 33, cU 80 (schTo (fillTo 0 (fun i => schTo m 80 (p + i)) 16) 80)⟩, ⟨b7, 25, cU 16 (fillTo 0 (fun i => schTo m 80 (p + i)) 16)⟩, ⟨b6, 33, cU 80 (schTo m 80)⟩, ⟨b2, 25, cU 16 m⟩])) (fun k => 80 - k) (0) ⟨by omega, hS.to _ ⟨rfl, rfl, rfl, rfl, trivial⟩, hM⟩ ?_
        clear hS hM; rintro k a w ⟨hk, hS, hM⟩
        refine c_seq ?_
        refine c_seq ?_
        refine c_region ?_
        refine s_val hS (by decide) rfl rfl (r_move hS rfl) ?_; clear hS; intro a hS
        refine s_val hS (by decide) rfl rfl (r_move hS rfl) ?_; clear hS; intro a hS
        refine s_val hS (by decide) rfl rfl (r_bv hS (show ev _ _ = some (N 80) from rfl) rfl gN (b_subN _ _ _ (by omega) (by omega))) ?_; clear hS; intro a hS
        refine s_val hS (by decide) rfl rfl (r_bv hS rfl rfl gN (b_lssN _ _ _)) ?_; clear hS; intro a hS
        refine s_nil ?_
        refine k_seq ?_
        refine c_cond hS rfl (fun hc => ?_) (fun hc => ?_)
        · have hk1 := of_decide_eq_true hc
          refine c_skip ?_
          refine k_seq ?_
          refine c_seq ?_
          refine c_block ?_
          refine c_seq ?_
          refine c_plan 9 (fun w => Mem w0 w _) [(10, _), (9, _), (1, _), (6, _), (39, _), (40, _), (41, _), (42, _)] (by kernel_rfl) (by kernel_rfl) hS ⟨rfl, rfl, rfl, rfl, rfl, rfl, rfl, rfl, trivial⟩ (hM.drawn _) ?_; clear hS hM
          refine p_step rfl (fun a w hS hM => y_val rfl (r_move hS rfl)) ?_
          refine p_step rfl (fun a w hS hM => y_val rfl (r_index0 hS rfl rfl Try.underlying33 sz24 (by omega))) ?_
          refine p_step rfl (fun a w hS hM => y_val rfl (r_load hS hM rfl (j := 0) rfl Try.underlying24 rfl (cells_get (by omega)))) ?_
          refine p_step rfl (fun a w hS hM => y_val rfl (r_move hS rfl)) ?_
          refine p_step rfl (fun a w hS hM => y_val rfl (r_move hS rfl)) ?_
          refine p_step rfl (fun a w hS hM => y_val rfl (r_bv hS rfl rfl gN (b_addN _ _ _ (by omega)))) ?_
          refine p_step rfl (fun a w hS hM => y_val rfl (r_index0 hS rfl rfl Try.underlying33 sz24 (by omega))) ?_
          refine p_step rfl (fun a w hS hM => y_val rfl (r_load hS hM rfl (j := 2) rfl Try.underlying24 rfl (cells_get (by omega)))) ?_
          refine p_step rfl (fun a w hS hM => y_val rfl (r_bv hS rfl rfl gU (b_neqU _ _ _))) ?_
          refine p_nil rfl ?_; intro a w hS hM
          refine s_nil ?_
          refine k_seq ?_
          refine c_false hS rfl (by rw [decide_eq_true (sched_part m p k (by omega) hk1)]; rfl) ?_
          refine c_skip ?_
          refine k_in ?_
          refine k_seq ?_
          refine c_region ?_
          refine s_val hS (by decide) rfl rfl (r_move hS rfl) ?_; clear hS; intro a hS
          refine s_val hS (by decide) rfl rfl (r_bv hS rfl (show ev _ _ = some (N 1) from rfl) gN (b_addN _ _ _ (by omega))) ?_; clear hS; intro a hS
          refine s_val hS (by decide) rfl rfl (r_assign hS rfl) ?_; clear hS; intro a hS
          refine s_nil ?_
          refine k_then ?_
          refine ⟨k + 1, by omega, by omega, hS.to _ ⟨rfl, rfl, rfl, rfl, trivial⟩, hM⟩
        · have hk2 := of_decide_eq_false hc
          refine c_exit ?_
          refine k_thenx ?_
          refine k_thenx ?_
          refine k_inx ?_
          refine k_seq ?_
          refine c_seq ?_
          refine c_region ?_
          refine s_val hS (by decide) rfl rfl (r_assign hS rfl) ?_; clear hS; intro a hS
          refine s_nil ?_
          refine k_seq ?_
          refine c_ret ?_
          exact k_res1 hS rfl (RV.tmp rfl) ⟨rfl, hM.done ⟨hb9, hb7, hb6, hb2, trivial⟩⟩
end Go.Proofs.Ytfojllcccncdbaa
