/- The walks through Load, Of and parts. Printed by a program of mine (walk.py). -/
import Derived.Test.YtfojllcccncdbaaSha3
import Derived.Test.YtfojllcccncdbaaSha4
namespace Go.Proofs.Ytfojllcccncdbaa
open Go Go.Sym
attribute [local irreducible] sstep wordsTo HS.puts be flatB numTo num HS.many

theorem hbld_load (n : Nat) (w : World) : (Instr.build 56 ([(0, .bool true), (2, N n)] : List (Nat × Value)).toArray).run Try.prog w = .ok (.agg (hC true (fun _ => 0) n (fun _ => 0)).toArray) w := by kernel_rfl
theorem write_t (w0 : World) (b : Nat) (h : HS) {v : Value} {m : Nat} {f : Nat → BitVec 8} (hb : w0.heap[b]? = some (.cells (hH true h).toArray 56 (0, 0))) (hr : Rd w0 v m (fun i => B (f i))) (hne : 0 < m → rb v ≠ b) (hn : h.n + m < 4611686018427387904) : Wrote Try.prog 34 #[ptr b 0, v] w0 b 56 (hH true (h.puts f m)) (.tuple #[]) := write_ok w0 b true h hb hr hne hn
theorem sum_t (w0 : World) (b : Nat) (h : HS) (hb : w0.heap[b]? = some (.cells (hH true h).toArray 56 (0, 0))) (hn : h.n < 2305843009213693952) : Pure Try.prog 31 #[ptr b 0] w0 (.agg (cB 64 (flatB h.sum.s)).toArray) := sum_ok w0 b true h hb hn
theorem mid_t (w0 : World) (b : Nat) (h : HS) (hb : w0.heap[b]? = some (.cells (hH true h).toArray 56 (0, 0))) : NewRow Try.prog 35 #[ptr b 0] w0 5 200 (fun i => B (midF h i)) := mid_ok w0 b true h hb
theorem sz22 : (Try.prog.info? 22).map (·.size) = some 1 := by kernel_rfl

set_option maxRecDepth 100000 in
theorem number_ok (w0 : World) {v : Value} {m : Nat} {f : Nat → BitVec 8} (hr : Rd w0 v m (fun i => B (f i))) (hm : 8 ≤ m) : Pure Try.prog 57 #[v] w0 (U (num f)) := by
  refine ⟨by kernel_rfl, ?_⟩
  refine calls_sym Try.func57 rfl (by kernel_rfl) ?_
  intro a hS
  have hM : Mem w0 w0 [] := Mem.refl w0
  refine c_seq ?_
  refine c_region ?_
  refine s_val hS (by decide) rfl rfl (r_assign hS (show ev _ _ = some (U 0#64) from rfl)) ?_; clear hS; intro a hS
  refine s_nil ?_
  refine k_seq ?_
  refine c_seq ?_
  refine c_region ?_
  refine s_val hS (by decide) rfl rfl (r_assign hS (show ev _ _ = some (U 0#64) from rfl)) ?_; clear hS; intro a hS
  refine s_nil ?_
  refine k_seq ?_
  refine c_seq ?_
  refine c_seq ?_
  refine c_region ?_
  refine s_val hS (by decide) rfl rfl (r_move hS rfl) ?_; clear hS; intro a hS
  refine s_val hS (by decide) rfl rfl (r_sliceR hS rfl (hr.keepGe hM trivial) Try.underlying22 sz5 rfl ⟨_, (show ev _ _ = some (.int .i64 ((8 : Nat) : Int)) from rfl)⟩ (by omega) (by omega)) ?_; clear hS; intro a hS
  refine s_val hS (by decide) rfl rfl (r_lenR hS rfl ((hr.keepGe hM trivial).slc (by omega) (by omega)) Try.underlying22) ?_; clear hS; intro a hS
  refine s_val hS (by decide) rfl rfl (r_move hS (show ev _ _ = some (N 0) from rfl)) ?_; clear hS; intro a hS
  refine s_nil ?_
  refine k_seq ?_
  refine c_block ?_
  refine c_loop (σ := Nat) (fun k a w => (k ≤ 8) ∧ Slots a 20 (env [(3, U (numTo f k)), (7, slc v 0 8), (8, N 8), (9, N k)]) ∧ Mem w0 w ([])) (fun k => 8 - k) (0) ⟨by omega, hS.to _ ⟨congrArg (fun q => some (U q)) (by unfold numTo; rfl), rfl, rfl, rfl, trivial⟩, hM⟩ ?_
  clear hS hM; rintro k a w ⟨hk, hS, hM⟩
  refine c_seq ?_
  refine c_region ?_
  refine s_val hS (by decide) rfl rfl (r_bv hS rfl rfl gN (b_lssN _ _ _)) ?_; clear hS; intro a hS
  refine s_nil ?_
  refine k_seq ?_
  refine c_seq ?_
  refine c_cond hS rfl (fun hc => ?_) (fun hc => ?_)
  · have hk1 := of_decide_eq_true hc
    refine c_skip ?_
    refine k_seq ?_
    refine c_seq ?_
    refine c_block ?_
    refine c_seq ?_
    refine c_region ?_
    refine s_val hS (by decide) rfl rfl (r_indexR hS rfl ((hr.keepGe hM trivial).slc (l := 0) (h := 8) (by omega) (by omega)) rfl Try.underlying22 sz5 (by omega)) ?_; clear hS; intro a hS
    refine s_val hS (by decide) rfl rfl (r_loadR hS rfl ((hr.keepGe hM trivial).slc (l := 0) (h := 8) (by omega) (by omega)) (by omega) Try.underlying5 rfl) ?_; clear hS; intro a hS
    refine s_val hS (by decide) rfl rfl (r_assign hS rfl) ?_; clear hS; intro a hS
    refine s_nil ?_
    refine k_seq ?_
    refine c_region ?_
    refine s_val hS (by decide) rfl rfl (r_move hS rfl) ?_; clear hS; intro a hS
    refine s_val hS (by decide) rfl rfl (r_bv hS rfl (show ev _ _ = some (.int .u64 ((8 : Nat) : Int)) from rfl) gU (b_shlU _ _ _ 8)) ?_; clear hS; intro a hS
    refine s_val hS (by decide) rfl rfl (r_move hS rfl) ?_; clear hS; intro a hS
    refine s_val hS (by decide) rfl rfl (r_conv hS rfl (by kernel_rfl) Try.underlying24 (cv_BU _)) ?_; clear hS; intro a hS
    refine s_val hS (by decide) rfl rfl (r_bv hS rfl rfl gU (b_orU _ _ _)) ?_; clear hS; intro a hS
    refine s_val hS (by decide) rfl rfl (r_assign hS rfl) ?_; clear hS; intro a hS
    refine s_nil ?_
    refine k_in ?_
    refine k_seq ?_
    refine c_region ?_
    refine s_val hS (by decide) rfl rfl (r_bv hS rfl (show ev _ _ = some (N 1) from rfl) gN (b_addN _ _ _ (by omega))) ?_; clear hS; intro a hS
    refine s_val hS (by decide) rfl rfl (r_move hS rfl) ?_; clear hS; intro a hS
    refine s_nil ?_
    refine k_then ?_
    refine ⟨k + 1, by omega, by omega, hS.to _ ⟨congrArg (fun q => some (U q)) (by rw [numTo, Nat.zero_add]), rfl, rfl, rfl, trivial⟩, hM⟩
  · obtain rfl : k = 8 := by have := of_decide_eq_false hc; omega
    refine c_exit ?_
    refine k_thenx ?_
    refine k_thenx ?_
    refine k_inx ?_
    refine k_seq ?_
    refine c_seq ?_
    refine c_region ?_
    refine s_val hS (by decide) rfl rfl (r_move hS rfl) ?_; clear hS; intro a hS
    refine s_val hS (by decide) rfl rfl (r_assign hS rfl) ?_; clear hS; intro a hS
    refine s_nil ?_
    refine k_seq ?_
    refine c_ret ?_
    exact k_res1 hS rfl (RV.tmp rfl) ⟨(congrArg (fun q => Ending.returned (U q)) (by unfold num; rfl)), hM.done trivial⟩

set_option maxRecDepth 100000 in
theorem load_yes (w0 : World) {v : Value} {m : Nat} {f : Nat → BitVec 8} (hr : Rd w0 v m (fun i => B (f i))) (hv : mayLoad m f) : NewObj2 Try.prog 37 #[v] w0 56 (hH true (loadH f)) := by
  refine ⟨by kernel_rfl, ?_⟩
  refine calls_sym Try.func37 rfl (by kernel_rfl) ?_
  intro a hS
  have hM : Mem w0 w0 [] := Mem.refl w0
  refine c_seq ?_
  refine c_region ?_
  refine s_val hS (by decide) rfl rfl (r_assign hS rfl) ?_; clear hS; intro a hS
  refine s_val hS (by decide) rfl rfl (r_assign hS rfl) ?_; clear hS; intro a hS
  refine s_nil ?_
  refine k_seq ?_
  refine c_seq ?_
  refine c_seq ?_
  refine c_region ?_
  refine s_val hS (by decide) rfl rfl (r_move hS rfl) ?_; clear hS; intro a hS
  refine s_val hS (by decide) rfl rfl (r_lenR hS rfl (hr.keepGe hM trivial) Try.underlying22) ?_; clear hS; intro a hS
  refine s_valb hS (by decide) rfl rfl (r_bv hS rfl (show ev _ _ = some (N 200) from rfl) gN (b_neqN _ _ _)) (fun hc => ?_) (fun hc => ?_)
  · clear hS; intro a hS; have hm : ¬ m = 200 := by simpa using hc
    exact absurd hv.1 hm
  · clear hS; intro a hS; have hm : m = 200 := (by simpa using hc); subst hm
    refine s_val hS (by decide) rfl rfl (r_move hS rfl) ?_; clear hS; intro a hS
    refine s_valg hS (by decide) rfl rfl rfl rfl rfl (r_move hS rfl) ?_; clear hS; intro a hS
    refine s_valg hS (by decide) rfl rfl rfl rfl rfl (r_sliceR hS rfl (hr.keepGe hM trivial) Try.underlying22 sz5 ⟨_, (show ev _ _ = some (.int .i64 ((64 : Nat) : Int)) from rfl)⟩ rfl (by omega) (by omega)) ?_; clear hS; intro a hS
    refine s_pureg hS hM (by decide) rfl rfl rfl rfl (number_ok _ ((hr.keepGe hM trivial).slc (by omega) (by omega)) (by omega)) ?_; clear hS hM; intro a w hS hM
    refine s_valg hS (by decide) rfl rfl rfl rfl rfl (r_bv hS rfl (show ev _ _ = some (U 1152921504606846976#64) from rfl) gU (b_gtrU _ _ _)) ?_; clear hS; intro a hS
    refine s_val hS (by decide) rfl rfl (r_pick hS rfl rfl) ?_; clear hS; intro a hS
    refine s_nil ?_
    refine k_seq ?_
    refine c_cond hS rfl (fun hc => ?_) (fun hc => ?_)
    · skip
      exact absurd (of_decide_eq_true hc) (Nat.not_lt.2 hv.2.1)
    · have h1 := of_decide_eq_false hc
      refine c_skip ?_
      refine k_seq ?_
      refine c_seq ?_
      refine c_region ?_
      refine s_val hS (by decide) rfl rfl (r_move hS rfl) ?_; clear hS; intro a hS
      refine s_val hS (by decide) rfl rfl (r_sliceR hS rfl (hr.keepGe hM trivial) Try.underlying22 sz5 ⟨_, (show ev _ _ = some (.int .i64 ((64 : Nat) : Int)) from rfl)⟩ rfl (by omega) (by omega)) ?_; clear hS; intro a hS
      refine s_pure hS hM (by decide) rfl (number_ok _ ((hr.keepGe hM trivial).slc (by omega) (by omega)) (by omega)) ?_; clear hS hM; intro a w hS hM
      refine s_val hS (by decide) rfl rfl (r_conv hS rfl (by kernel_rfl) Try.underlying3 (cv_UN _ (by have h2 : ¬ 1152921504606846976 < (loadN f).toNat := h1; show (loadN f).toNat < _; omega))) ?_; clear hS; intro a hS
      refine s_val hS (by decide) rfl rfl (r_build hS rfl (hbld_load _)) ?_; clear hS; intro a hS
      refine s_box hS hM (by decide) rfl rfl ?_; clear hS hM; intro a b22 w hb22 hS hM
      refine s_val hS (by decide) rfl rfl (r_assign hS rfl) ?_; clear hS; intro a hS
      refine s_nil ?_
      refine k_seq ?_
      refine c_seq ?_
      refine c_seq ?_
      refine c_region ?_
      refine s_val hS (by decide) rfl rfl (r_move hS rfl) ?_; clear hS; intro a hS
      refine s_val hS (by decide) rfl rfl (r_move hS rfl) ?_; clear hS; intro a hS
      refine s_val hS (by decide) rfl rfl (r_nilCheck hS rfl) ?_; clear hS; intro a hS
      refine s_val hS (by decide) rfl rfl (r_field0 hS rfl Try.underlying56 rfl (s := 0) sz3 (k := 9) rfl) ?_; clear hS; intro a hS
      refine s_val hS (by decide) rfl rfl (r_load hS hM rfl (j := 0) rfl Try.underlying3 rfl (hC_n _ _ _ _)) ?_; clear hS; intro a hS
      refine s_val hS (by decide) rfl rfl (r_bv hS rfl (show ev _ _ = some (N 128) from rfl) gN (b_remN _ _ _ (by omega))) ?_; clear hS; intro a hS
      refine s_val hS (by decide) rfl rfl (r_bv hS (show ev _ _ = some (N 72) from rfl) rfl gN (b_addN _ _ _ (by omega))) ?_; clear hS; intro a hS
      refine s_val hS (by decide) rfl rfl (r_sliceR hS rfl (hr.keepGe hM ⟨hb22, trivial⟩) Try.underlying22 sz5 ⟨_, rfl⟩ rfl (by omega) (by omega)) ?_; clear hS; intro a hS
      refine s_val hS (by decide) rfl rfl (r_lenR hS rfl ((hr.keepGe hM ⟨hb22, trivial⟩).slc (by omega) (by omega)) Try.underlying22) ?_; clear hS; intro a hS
      refine s_val hS (by decide) rfl rfl (r_move hS (show ev _ _ = some (N 0) from rfl)) ?_; clear hS; intro a hS
      refine s_nil ?_
      refine k_seq ?_
      refine c_block ?_
      refine c_loop (σ := Nat) (fun k a w => (k ≤ (200 - (72 + (loadN f).toNat % 128))) ∧ Slots a 61 (env [(0, v), (2, .pointer none), (4, ptr b22 0), (30, slc v (72 + (loadN f).toNat % 128) 200), (31, N (200 - (72 + (loadN f).toNat % 128))), (32, N k)]) ∧ Mem w0 w ([⟨b22, 56, hC true (fun _ => 0) (loadN f).toNat (fun _ => 0)⟩])) (fun k => (200 - (72 + (loadN f).toNat % 128)) - k) (0) ⟨by omega, hS.to _ ⟨rfl, rfl, rfl, rfl, rfl, rfl, trivial⟩, hM⟩ ?_
      clear hS hM; rintro k a w ⟨hk, hS, hM⟩
      have hlt : (loadN f).toNat % 128 < 128 := Nat.mod_lt _ (by decide)
      refine c_seq ?_
      refine c_region ?_
      refine s_val hS (by decide) rfl rfl (r_bv hS rfl rfl gN (b_lssN _ _ _)) ?_; clear hS; intro a hS
      refine s_nil ?_
      refine k_seq ?_
      refine c_seq ?_
      refine c_cond hS rfl (fun hc => ?_) (fun hc => ?_)
      · have hk1 := of_decide_eq_true hc
        refine c_skip ?_
        refine k_seq ?_
        refine c_seq ?_
        refine c_block ?_
        refine c_seq ?_
        refine c_region ?_
        refine s_val hS (by decide) rfl rfl (r_indexR hS rfl ((hr.keepGe hM ⟨hb22, trivial⟩).slc (l := 72 + (loadN f).toNat % 128) (h := 200) (by omega) (by omega)) rfl Try.underlying22 sz5 (by omega)) ?_; clear hS; intro a hS
        refine s_val hS (by decide) rfl rfl (r_loadR hS rfl ((hr.keepGe hM ⟨hb22, trivial⟩).slc (l := 72 + (loadN f).toNat % 128) (h := 200) (by omega) (by omega)) (by omega) Try.underlying5 rfl) ?_; clear hS; intro a hS
        refine s_val hS (by decide) rfl rfl (r_assign hS rfl) ?_; clear hS; intro a hS
        refine s_nil ?_
        refine k_seq ?_
        refine c_seq ?_
        refine c_region ?_
        refine s_val hS (by decide) rfl rfl (r_move hS rfl) ?_; clear hS; intro a hS
        refine s_val hS (by decide) rfl rfl (r_bv hS rfl (show ev _ _ = some (B 0#8) from rfl) gB (b_neqB _ _ _)) ?_; clear hS; intro a hS
        refine s_nil ?_
        refine k_seq ?_
        refine c_cond hS rfl (fun hc => ?_) (fun hc => ?_)
        · skip
          exact absurd (hv.2.2 (72 + (loadN f).toNat % 128 + k) (Nat.le_add_right _ _) (by omega)) (by simpa using hc)
        · skip
          refine c_skip ?_
          refine k_in ?_
          refine k_seq ?_
          refine c_region ?_
          refine s_val hS (by decide) rfl rfl (r_bv hS rfl (show ev _ _ = some (N 1) from rfl) gN (b_addN _ _ _ (by omega))) ?_; clear hS; intro a hS
          refine s_val hS (by decide) rfl rfl (r_move hS rfl) ?_; clear hS; intro a hS
          refine s_nil ?_
          refine k_then ?_
          refine ⟨k + 1, by omega, by omega, hS.to _ ⟨rfl, rfl, rfl, rfl, rfl, rfl, trivial⟩, hM⟩
      · obtain rfl : k = (200 - (72 + (loadN f).toNat % 128)) := by have := of_decide_eq_false hc; omega
        refine c_exit ?_
        refine k_thenx ?_
        refine k_thenx ?_
        refine k_inx ?_
        refine k_seq ?_
        refine c_seq ?_
        refine c_seq ?_
        refine c_region ?_
        refine s_val hS (by decide) rfl rfl (r_move hS (show ev _ _ = some (N 0) from rfl)) ?_; clear hS; intro a hS
        refine s_nil ?_
        refine k_seq ?_
        refine c_block ?_
        refine c_loop (σ := Nat) (fun k a w => (k ≤ 8) ∧ Slots a 61 (env [(0, v), (4, ptr b22 0), (39, N k)]) ∧ Mem w0 w ([⟨b22, 56, hC true (fil8 0#64 (loadS f) k) (loadN f).toNat (fun _ => 0)⟩])) (fun k => 8 - k) (0) ⟨by omega, hS.to _ ⟨rfl, rfl, rfl, trivial⟩, (by rw [fil8_zero]; exact hM)⟩ ?_
        clear hS hM; rintro k a w ⟨hk, hS, hM⟩
        refine c_seq ?_
        refine c_region ?_
        refine s_val hS (by decide) rfl rfl (r_bv hS rfl (show ev _ _ = some (N 8) from rfl) gN (b_lssN _ _ _)) ?_; clear hS; intro a hS
        refine s_nil ?_
        refine k_seq ?_
        refine c_seq ?_
        refine c_cond hS rfl (fun hc => ?_) (fun hc => ?_)
        · have hk1 := of_decide_eq_true hc
          refine c_skip ?_
          refine k_seq ?_
          refine c_seq ?_
          refine c_block ?_
          refine c_seq ?_
          refine c_region ?_
          refine s_val hS (by decide) rfl rfl (r_move hS rfl) ?_; clear hS; intro a hS
          refine s_val hS (by decide) rfl rfl (r_assign hS rfl) ?_; clear hS; intro a hS
          refine s_nil ?_
          refine k_seq ?_
          refine c_plan 10 (fun w => Mem w0 w _) [(4, _), (7, _), (0, _), (39, _), (40, _), (41, _)] (by kernel_rfl) (by kernel_rfl) hS ⟨rfl, rfl, rfl, rfl, rfl, rfl, trivial⟩ (hM.drawn _) ?_; clear hS hM
          refine p_step rfl (fun a w hS hM => y_val rfl (r_move hS rfl)) ?_
          refine p_step rfl (fun a w hS hM => y_val rfl (r_move hS rfl)) ?_
          refine p_step rfl (fun a w hS hM => y_val rfl (r_move hS rfl)) ?_
          refine p_step rfl (fun a w hS hM => y_val rfl (r_move hS rfl)) ?_
          refine p_step rfl (fun a w hS hM => y_val rfl (r_bv hS (show ev _ _ = some (N 8) from rfl) rfl gN (b_mulN _ _ _ (by omega)))) ?_
          refine p_step rfl (fun a w hS hM => y_val rfl (r_sliceR hS rfl (hr.keepGe hM ⟨hb22, trivial⟩) Try.underlying22 sz5 ⟨_, rfl⟩ rfl (by omega) (by omega))) ?_
          refine p_step rfl (fun a w hS hM => y_call (by kernel_rfl) hS rfl ((number_ok _ ((hr.keepGe hM ⟨hb22, trivial⟩).slc (by omega) (by omega)) (by omega)).mem hM)) ?_
          refine p_step rfl (fun a w hS hM => y_val rfl (r_nilCheck hS rfl)) ?_
          refine p_step rfl (fun a w hS hM => y_val rfl (r_field0 hS rfl Try.underlying56 rfl (s := 7) sz36 (k := 1) rfl)) ?_
          refine p_step rfl (fun a w hS hM => y_val rfl (r_index1 hS rfl rfl Try.underlying36 sz24 (by omega))) ?_
          refine p_nil rfl ?_; intro a w hS hM
          refine s_store hS hM rfl rfl (j := 0) rfl sz24 rfl (hC_s _ _ _ _ (by omega)) ?_; clear hS hM; intro a w hS hM
          replace hM : Mem w0 w [⟨b22, 56, (hC true (fil8 0#64 (loadS f) k) (loadN f).toNat (fun _ => 0)).set (1 + k) (U (loadS f k))⟩] := hM
          rw [hC_set_s _ _ _ _ _ hk1, fil8_step] at hM
          refine s_nil ?_
          refine k_in ?_
          refine k_seq ?_
          refine c_region ?_
          refine s_val hS (by decide) rfl rfl (r_bv hS rfl (show ev _ _ = some (N 1) from rfl) gN (b_addN _ _ _ (by omega))) ?_; clear hS; intro a hS
          refine s_val hS (by decide) rfl rfl (r_move hS rfl) ?_; clear hS; intro a hS
          refine s_nil ?_
          refine k_then ?_
          refine ⟨k + 1, by omega, by omega, hS.to _ ⟨rfl, rfl, rfl, trivial⟩, hM⟩
        · obtain rfl : k = 8 := by have := of_decide_eq_false hc; omega
          refine c_exit ?_
          refine k_thenx ?_
          refine k_thenx ?_
          refine k_inx ?_
          refine k_seq ?_
          refine c_seq ?_
          refine c_plan 6 (fun w => Mem w0 w _) [(4, _), (0, _)] (by kernel_rfl) (by kernel_rfl) hS ⟨rfl, rfl, trivial⟩ (hM.drawn _) ?_; clear hS hM
          refine p_step rfl (fun a w hS hM => y_val rfl (r_move hS rfl)) ?_
          refine p_step rfl (fun a w hS hM => y_val rfl (r_nilCheck hS rfl)) ?_
          refine p_step rfl (fun a w hS hM => y_val rfl (r_field0 hS rfl Try.underlying56 rfl (s := 127) sz54 (k := 10) rfl)) ?_
          refine p_step rfl (fun a w hS hM => y_val rfl (r_sliceA0 hS rfl Try.underlying54 sz5)) ?_
          refine p_step rfl (fun a w hS hM => y_val rfl (r_move hS rfl)) ?_
          refine p_step rfl (fun a w hS hM => y_val rfl (r_sliceR hS rfl (hr.keepGe hM ⟨hb22, trivial⟩) Try.underlying22 sz5 ⟨_, (show ev _ _ = some (.int .i64 ((72 : Nat) : Int)) from rfl)⟩ rfl (by omega) (by omega))) ?_
          refine p_nil rfl ?_; intro a w hS hM
          refine s_copy hS hM (by decide) rfl rfl Try.underlying22 sz5 (j := 0) rfl ((hr.keepGe hM ⟨hb22, trivial⟩).slc (by omega) (by omega)) (fun _ _ => rfl) (by rw [hC_len]; decide) ?_; clear hS hM; intro a w hS hM
          replace hM : Mem w0 w [⟨b22, 56, splice (hC true (fil8 0#64 (loadS f) 8) (loadN f).toNat (fun _ => 0)) 10 (cB 128 (fun i => f (72 + i)))⟩] := hM
          rw [hC_splice_w, hC_fil8] at hM
          refine s_nil ?_
          refine k_seq ?_
          refine c_seq ?_
          refine c_region ?_
          refine s_val hS (by decide) rfl rfl (r_move hS rfl) ?_; clear hS; intro a hS
          refine s_val hS (by decide) rfl rfl (r_assign hS rfl) ?_; clear hS; intro a hS
          refine s_val hS (by decide) rfl rfl (r_assign hS rfl) ?_; clear hS; intro a hS
          refine s_nil ?_
          refine k_seq ?_
          refine c_ret ?_
          exact k_res2 hS rfl (RV.tmp rfl) (RV.tmp rfl) ⟨_, rfl, hb22, hM⟩

set_option maxRecDepth 100000 in
theorem load_no (w0 : World) {v : Value} {m : Nat} {f : Nat → BitVec 8} (hr : Rd w0 v m (fun i => B (f i))) (hv : ¬ mayLoad m f) : Pure Try.prog 37 #[v] w0 (.tuple #[.pointer none, .bool false]) := by
  refine ⟨by kernel_rfl, ?_⟩
  refine calls_sym Try.func37 rfl (by kernel_rfl) ?_
  intro a hS
  have hM : Mem w0 w0 [] := Mem.refl w0
  refine c_seq ?_
  refine c_region ?_
  refine s_val hS (by decide) rfl rfl (r_assign hS rfl) ?_; clear hS; intro a hS
  refine s_val hS (by decide) rfl rfl (r_assign hS rfl) ?_; clear hS; intro a hS
  refine s_nil ?_
  refine k_seq ?_
  refine c_seq ?_
  refine c_seq ?_
  refine c_region ?_
  refine s_val hS (by decide) rfl rfl (r_move hS rfl) ?_; clear hS; intro a hS
  refine s_val hS (by decide) rfl rfl (r_lenR hS rfl (hr.keepGe hM trivial) Try.underlying22) ?_; clear hS; intro a hS
  refine s_valb hS (by decide) rfl rfl (r_bv hS rfl (show ev _ _ = some (N 200) from rfl) gN (b_neqN _ _ _)) (fun hc => ?_) (fun hc => ?_)
  · clear hS; intro a hS; have hm : ¬ m = 200 := by simpa using hc
    refine s_val hS (by decide) rfl rfl (r_move hS rfl) ?_; clear hS; intro a hS
    refine s_skip hS (by decide) rfl rfl rfl rfl rfl ?_; clear hS; intro a hS
    refine s_skip hS (by decide) rfl rfl rfl rfl rfl ?_; clear hS; intro a hS
    refine s_skip hS (by decide) rfl rfl rfl rfl rfl ?_; clear hS; intro a hS
    refine s_skip hS (by decide) rfl rfl rfl rfl rfl ?_; clear hS; intro a hS
    refine s_val hS (by decide) rfl rfl (r_pick hS rfl rfl) ?_; clear hS; intro a hS
    refine s_nil ?_
    refine k_seq ?_
    refine c_true hS rfl rfl ?_
    refine c_seq ?_
    refine c_region ?_
    refine s_val hS (by decide) rfl rfl (r_assign hS rfl) ?_; clear hS; intro a hS
    refine s_val hS (by decide) rfl rfl (r_assign hS rfl) ?_; clear hS; intro a hS
    refine s_nil ?_
    refine k_seq ?_
    refine c_ret ?_
    refine k_thenr ?_
    exact k_res2 hS rfl (RV.tmp rfl) (RV.tmp rfl) ⟨rfl, (by first | exact hM.done trivial | exact hM.done ⟨hb22, trivial⟩)⟩
  · clear hS; intro a hS; have hm : m = 200 := (by simpa using hc); subst hm
    refine s_val hS (by decide) rfl rfl (r_move hS rfl) ?_; clear hS; intro a hS
    refine s_valg hS (by decide) rfl rfl rfl rfl rfl (r_move hS rfl) ?_; clear hS; intro a hS
    refine s_valg hS (by decide) rfl rfl rfl rfl rfl (r_sliceR hS rfl (hr.keepGe hM trivial) Try.underlying22 sz5 ⟨_, (show ev _ _ = some (.int .i64 ((64 : Nat) : Int)) from rfl)⟩ rfl (by omega) (by omega)) ?_; clear hS; intro a hS
    refine s_pureg hS hM (by decide) rfl rfl rfl rfl (number_ok _ ((hr.keepGe hM trivial).slc (by omega) (by omega)) (by omega)) ?_; clear hS hM; intro a w hS hM
    refine s_valg hS (by decide) rfl rfl rfl rfl rfl (r_bv hS rfl (show ev _ _ = some (U 1152921504606846976#64) from rfl) gU (b_gtrU _ _ _)) ?_; clear hS; intro a hS
    refine s_val hS (by decide) rfl rfl (r_pick hS rfl rfl) ?_; clear hS; intro a hS
    refine s_nil ?_
    refine k_seq ?_
    refine c_cond hS rfl (fun hc => ?_) (fun hc => ?_)
    · have h1 := of_decide_eq_true hc
      refine c_seq ?_
      refine c_region ?_
      refine s_val hS (by decide) rfl rfl (r_assign hS rfl) ?_; clear hS; intro a hS
      refine s_val hS (by decide) rfl rfl (r_assign hS rfl) ?_; clear hS; intro a hS
      refine s_nil ?_
      refine k_seq ?_
      refine c_ret ?_
      refine k_thenr ?_
      exact k_res2 hS rfl (RV.tmp rfl) (RV.tmp rfl) ⟨rfl, (by first | exact hM.done trivial | exact hM.done ⟨hb22, trivial⟩)⟩
    · have h1 := of_decide_eq_false hc
      refine c_skip ?_
      refine k_seq ?_
      refine c_seq ?_
      refine c_region ?_
      refine s_val hS (by decide) rfl rfl (r_move hS rfl) ?_; clear hS; intro a hS
      refine s_val hS (by decide) rfl rfl (r_sliceR hS rfl (hr.keepGe hM trivial) Try.underlying22 sz5 ⟨_, (show ev _ _ = some (.int .i64 ((64 : Nat) : Int)) from rfl)⟩ rfl (by omega) (by omega)) ?_; clear hS; intro a hS
      refine s_pure hS hM (by decide) rfl (number_ok _ ((hr.keepGe hM trivial).slc (by omega) (by omega)) (by omega)) ?_; clear hS hM; intro a w hS hM
      refine s_val hS (by decide) rfl rfl (r_conv hS rfl (by kernel_rfl) Try.underlying3 (cv_UN _ (by have h2 : ¬ 1152921504606846976 < (loadN f).toNat := h1; show (loadN f).toNat < _; omega))) ?_; clear hS; intro a hS
      refine s_val hS (by decide) rfl rfl (r_build hS rfl (hbld_load _)) ?_; clear hS; intro a hS
      refine s_box hS hM (by decide) rfl rfl ?_; clear hS hM; intro a b22 w hb22 hS hM
      refine s_val hS (by decide) rfl rfl (r_assign hS rfl) ?_; clear hS; intro a hS
      refine s_nil ?_
      refine k_seq ?_
      refine c_seq ?_
      refine c_seq ?_
      refine c_region ?_
      refine s_val hS (by decide) rfl rfl (r_move hS rfl) ?_; clear hS; intro a hS
      refine s_val hS (by decide) rfl rfl (r_move hS rfl) ?_; clear hS; intro a hS
      refine s_val hS (by decide) rfl rfl (r_nilCheck hS rfl) ?_; clear hS; intro a hS
      refine s_val hS (by decide) rfl rfl (r_field0 hS rfl Try.underlying56 rfl (s := 0) sz3 (k := 9) rfl) ?_; clear hS; intro a hS
      refine s_val hS (by decide) rfl rfl (r_load hS hM rfl (j := 0) rfl Try.underlying3 rfl (hC_n _ _ _ _)) ?_; clear hS; intro a hS
      refine s_val hS (by decide) rfl rfl (r_bv hS rfl (show ev _ _ = some (N 128) from rfl) gN (b_remN _ _ _ (by omega))) ?_; clear hS; intro a hS
      refine s_val hS (by decide) rfl rfl (r_bv hS (show ev _ _ = some (N 72) from rfl) rfl gN (b_addN _ _ _ (by omega))) ?_; clear hS; intro a hS
      refine s_val hS (by decide) rfl rfl (r_sliceR hS rfl (hr.keepGe hM ⟨hb22, trivial⟩) Try.underlying22 sz5 ⟨_, rfl⟩ rfl (by omega) (by omega)) ?_; clear hS; intro a hS
      refine s_val hS (by decide) rfl rfl (r_lenR hS rfl ((hr.keepGe hM ⟨hb22, trivial⟩).slc (by omega) (by omega)) Try.underlying22) ?_; clear hS; intro a hS
      refine s_val hS (by decide) rfl rfl (r_move hS (show ev _ _ = some (N 0) from rfl)) ?_; clear hS; intro a hS
      refine s_nil ?_
      refine k_seq ?_
      refine c_block ?_
      refine c_loop (σ := Nat) (fun k a w => (k ≤ (200 - (72 + (loadN f).toNat % 128)) ∧ ∀ i, i < k → f (72 + (loadN f).toNat % 128 + i) = 0#8) ∧ Slots a 61 (env [(0, v), (2, .pointer none), (4, ptr b22 0), (30, slc v (72 + (loadN f).toNat % 128) 200), (31, N (200 - (72 + (loadN f).toNat % 128))), (32, N k)]) ∧ Mem w0 w ([⟨b22, 56, hC true (fun _ => 0) (loadN f).toNat (fun _ => 0)⟩])) (fun k => (200 - (72 + (loadN f).toNat % 128)) - k) (0) ⟨⟨Nat.zero_le _, fun i hi => absurd hi (Nat.not_lt_zero i)⟩, hS.to _ ⟨rfl, rfl, rfl, rfl, rfl, rfl, trivial⟩, hM⟩ ?_
      clear hS hM; rintro k a w ⟨hk, hS, hM⟩
      have hlt : (loadN f).toNat % 128 < 128 := Nat.mod_lt _ (by decide)
      refine c_seq ?_
      refine c_region ?_
      refine s_val hS (by decide) rfl rfl (r_bv hS rfl rfl gN (b_lssN _ _ _)) ?_; clear hS; intro a hS
      refine s_nil ?_
      refine k_seq ?_
      refine c_seq ?_
      refine c_cond hS rfl (fun hc => ?_) (fun hc => ?_)
      · have hk1 := of_decide_eq_true hc
        refine c_skip ?_
        refine k_seq ?_
        refine c_seq ?_
        refine c_block ?_
        refine c_seq ?_
        refine c_region ?_
        refine s_val hS (by decide) rfl rfl (r_indexR hS rfl ((hr.keepGe hM ⟨hb22, trivial⟩).slc (l := 72 + (loadN f).toNat % 128) (h := 200) (by omega) (by omega)) rfl Try.underlying22 sz5 (by omega)) ?_; clear hS; intro a hS
        refine s_val hS (by decide) rfl rfl (r_loadR hS rfl ((hr.keepGe hM ⟨hb22, trivial⟩).slc (l := 72 + (loadN f).toNat % 128) (h := 200) (by omega) (by omega)) (by omega) Try.underlying5 rfl) ?_; clear hS; intro a hS
        refine s_val hS (by decide) rfl rfl (r_assign hS rfl) ?_; clear hS; intro a hS
        refine s_nil ?_
        refine k_seq ?_
        refine c_seq ?_
        refine c_region ?_
        refine s_val hS (by decide) rfl rfl (r_move hS rfl) ?_; clear hS; intro a hS
        refine s_val hS (by decide) rfl rfl (r_bv hS rfl (show ev _ _ = some (B 0#8) from rfl) gB (b_neqB _ _ _)) ?_; clear hS; intro a hS
        refine s_nil ?_
        refine k_seq ?_
        refine c_cond hS rfl (fun hc => ?_) (fun hc => ?_)
        · skip
          refine c_seq ?_
          refine c_region ?_
          refine s_val hS (by decide) rfl rfl (r_assign hS rfl) ?_; clear hS; intro a hS
          refine s_val hS (by decide) rfl rfl (r_assign hS rfl) ?_; clear hS; intro a hS
          refine s_nil ?_
          refine k_seq ?_
          refine c_ret ?_
          refine k_inr ?_
          refine k_thenr ?_
          refine k_thenr ?_
          refine k_inr ?_
          refine k_thenr ?_
          exact k_res2 hS rfl (RV.tmp rfl) (RV.tmp rfl) ⟨rfl, (by first | exact hM.done trivial | exact hM.done ⟨hb22, trivial⟩)⟩
        · have h0 : f (72 + (loadN f).toNat % 128 + k) = 0#8 := by simpa using hc
          refine c_skip ?_
          refine k_in ?_
          refine k_seq ?_
          refine c_region ?_
          refine s_val hS (by decide) rfl rfl (r_bv hS rfl (show ev _ _ = some (N 1) from rfl) gN (b_addN _ _ _ (by omega))) ?_; clear hS; intro a hS
          refine s_val hS (by decide) rfl rfl (r_move hS rfl) ?_; clear hS; intro a hS
          refine s_nil ?_
          refine k_then ?_
          refine ⟨k + 1, by omega, ⟨by omega, fun i hi => by rcases Nat.lt_or_ge i k with q | q; exact hk.2 i q; rw [show i = k by omega]; exact h0⟩, hS.to _ ⟨rfl, rfl, rfl, rfl, rfl, rfl, trivial⟩, hM⟩
      · obtain rfl : k = (200 - (72 + (loadN f).toNat % 128)) := by have := of_decide_eq_false hc; omega
        exact absurd ⟨rfl, Nat.not_lt.1 h1, fun i h8 h9 => by have := hk.2 (i - (72 + (loadN f).toNat % 128)) (by omega); rwa [show 72 + (loadN f).toNat % 128 + (i - (72 + (loadN f).toNat % 128)) = i by omega] at this⟩ hv

set_option maxRecDepth 100000 in
theorem of_ok (w0 : World) {v : Value} {c : Nat} {sv : Nat → Value} {ms : Nat → Nat} {fs : Nat → Nat → BitVec 8} (hr : Rd w0 v c sv) (hs : ∀ i, i < c → Rd w0 (sv i) (ms i) (fun j => B (fs i j))) (ht : tot ms c < 1152921504606846976) (hc : c < 1000) : Pure Try.prog 28 #[v] w0 (.agg (cB 64 (flatB (HS.zero.many fs ms c).sum.s)).toArray) := by
  refine ⟨by kernel_rfl, ?_⟩
  refine calls_sym Try.func28 rfl (by kernel_rfl) ?_
  intro a hS
  have hM : Mem w0 w0 [] := Mem.refl w0
  refine c_seq ?_
  refine c_region ?_
  refine s_alloc hS hM (by decide) zero39 ?_; clear hS hM; intro a b2 w hb2 hS hM
  refine s_nil ?_
  refine k_seq ?_
  refine c_seq ?_
  refine c_region ?_
  refine s_newobj hS hM (by decide) rfl (new_ok _) ?_; clear hS hM; intro a w b6 hb6 hS hM
  refine s_val hS (by decide) rfl rfl (r_assign hS rfl) ?_; clear hS; intro a hS
  refine s_nil ?_
  refine k_seq ?_
  refine c_seq ?_
  refine c_seq ?_
  refine c_region ?_
  refine s_val hS (by decide) rfl rfl (r_move hS rfl) ?_; clear hS; intro a hS
  refine s_val hS (by decide) rfl rfl (r_lenR hS rfl (hr.keepGe hM ⟨hb6, hb2, trivial⟩) Try.underlying68) ?_; clear hS; intro a hS
  refine s_val hS (by decide) rfl rfl (r_move hS (show ev _ _ = some (N 0) from rfl)) ?_; clear hS; intro a hS
  refine s_nil ?_
  refine k_seq ?_
  refine c_block ?_
  refine c_loop (σ := Nat) (fun k a w => (k ≤ c) ∧ Slots a 19 (env [(2, ptr b2 0), (3, ptr b6 0), (7, v), (8, N c), (9, N k)]) ∧ Mem w0 w ([⟨b6, 56, hH true (HS.zero.many fs ms k)⟩, ⟨b2, 39, cB 64 (fun _ => 0)⟩])) (fun k => c - k) (0) ⟨by omega, hS.to _ ⟨rfl, rfl, rfl, rfl, rfl, trivial⟩, (hM.congr (by rw [HS.many]))⟩ ?_
  clear hS hM; rintro k a w ⟨hk, hS, hM⟩
  have hx := HS.many_n HS.zero fs ms k
  have hz : HS.zero.n = 0 := rfl
  have hl := tot_le ms (Nat.succ_le_of_lt (Nat.lt_succ_of_le hk))
  have hl2 : k < c → tot ms k + ms k ≤ tot ms c := fun q => tot_le ms (j := k + 1) q
  refine c_seq ?_
  refine c_region ?_
  refine s_val hS (by decide) rfl rfl (r_bv hS rfl rfl gN (b_lssN _ _ _)) ?_; clear hS; intro a hS
  refine s_nil ?_
  refine k_seq ?_
  refine c_seq ?_
  refine c_cond hS rfl (fun hc => ?_) (fun hc => ?_)
  · have hk1 := of_decide_eq_true hc
    refine c_skip ?_
    refine k_seq ?_
    refine c_seq ?_
    refine c_block ?_
    refine c_seq ?_
    refine c_region ?_
    refine s_val hS (by decide) rfl rfl (r_indexR hS rfl (hr.keepGe hM ⟨hb6, hb2, trivial⟩) rfl Try.underlying68 sz22 (by omega)) ?_; clear hS; intro a hS
    refine s_val hS (by decide) rfl rfl (r_loadR hS rfl (hr.keepGe hM ⟨hb6, hb2, trivial⟩) (by omega) Try.underlying22 rfl) ?_; clear hS; intro a hS
    refine s_val hS (by decide) rfl rfl (r_assign hS rfl) ?_; clear hS; intro a hS
    refine s_nil ?_
    refine k_seq ?_
    refine c_region ?_
    refine s_val hS (by decide) rfl rfl (r_move hS rfl) ?_; clear hS; intro a hS
    refine s_val hS (by decide) rfl rfl (r_move hS rfl) ?_; clear hS; intro a hS
    refine s_wrote hS hM (by decide) rfl (j := 0) rfl (write_t _ _ _ (hM.block (j := 0) rfl) ((hs k hk1).keepGe hM ⟨hb6, hb2, trivial⟩) (fun hm => Nat.ne_of_lt (Nat.lt_of_lt_of_le ((hs k hk1).lt hm) hb6)) (by omega)) ?_; clear hS hM; intro a w hS hM
    refine s_nil ?_
    refine k_in ?_
    refine k_seq ?_
    refine c_region ?_
    refine s_val hS (by decide) rfl rfl (r_bv hS rfl (show ev _ _ = some (N 1) from rfl) gN (b_addN _ _ _ (by omega))) ?_; clear hS; intro a hS
    refine s_val hS (by decide) rfl rfl (r_move hS rfl) ?_; clear hS; intro a hS
    refine s_nil ?_
    refine k_then ?_
    refine ⟨k + 1, by omega, by omega, hS.to _ ⟨rfl, rfl, rfl, rfl, rfl, trivial⟩, (hM.congr (by rw [HS.many_succ]; try rfl))⟩
  · obtain rfl : k = c := by have := of_decide_eq_false hc; omega
    refine c_exit ?_
    refine k_thenx ?_
    refine k_thenx ?_
    refine k_inx ?_
    refine k_seq ?_
    refine c_seq ?_
    refine c_region ?_
    refine s_val hS (by decide) rfl rfl (r_move hS rfl) ?_; clear hS; intro a hS
    refine s_pure hS hM (by decide) rfl (sum_t _ _ _ (hM.block (j := 0) rfl) (by omega)) ?_; clear hS hM; intro a w hS hM
    refine s_storeAll hS hM rfl rfl (j := 1) rfl sz39 cells_len cells_len cB_one ?_; clear hS hM; intro a w hS hM
    refine s_nil ?_
    refine k_seq ?_
    refine c_ret ?_
    exact k_res1 hS rfl (RV.row rfl (hM.have_ _ (mem_of_get (j := 1) rfl)) Try.underlying39 rfl (by rw [sz39]; exact congrArg some cells_len.symm)) ⟨rfl, hM.done ⟨hb6, hb2, trivial⟩⟩

set_option maxRecDepth 100000 in
theorem parts_ok (w0 : World) (b : Nat) (h : HS) {v vc : Value} {m mc : Nat} {f : Nat → BitVec 8} {g : Nat → Int} (hb : w0.heap[b]? = some (.cells (hH true h).toArray 56 (0, 0))) (hr : Rd w0 v m (fun i => B (f i))) (hne : 0 < m → rb v ≠ b) (hrc : Rd w0 vc mc (fun i => .int .i64 (g i))) (hnc : 0 < mc → rb vc ≠ b) (hn : h.n + m < 1152921504606846976) (hmc : mc < 1152921504606846976) : Wrote Try.prog 32 #[ptr b 0, v, vc] w0 b 56 (hH true (h.puts f m)) (.tuple #[]) := by
  refine ⟨by kernel_rfl, ?_⟩
  refine calls_sym Try.func32 rfl (by kernel_rfl) ?_
  intro a hS
  have hM : Mem w0 w0 [⟨b, 56, hH true h⟩] := Mem.start hb
  refine c_seq ?_
  refine c_region ?_
  refine s_val hS (by decide) rfl rfl (r_assign hS (show ev _ _ = some (N 0) from rfl)) ?_; clear hS; intro a hS
  refine s_nil ?_
  refine k_seq ?_
  refine c_block ?_
  refine c_loop (σ := Nat × Nat × Value) (fun s a w => (s.1 ≤ mc + 1 ∧ (s.1 ≤ mc ∨ s.2.1 = m) ∧ s.2.1 ≤ m ∧ Rd w0 s.2.2 (m - s.2.1) (fun j => B (f (s.2.1 + j))) ∧ (0 < m - s.2.1 → rb s.2.2 ≠ b)) ∧ Slots a 46 (env [(0, ptr b 0), (1, s.2.2), (2, vc), (6, N s.1)]) ∧ Mem w0 w ([⟨b, 56, hH true (h.puts f s.2.1)⟩])) (fun s => mc + 1 - s.1) (0, 0, v) ⟨⟨Nat.zero_le _, Or.inl (Nat.zero_le _), Nat.zero_le _, hr.congr (fun j _ => by rw [Nat.zero_add]), hne⟩, hS.to _ ⟨rfl, rfl, rfl, rfl, trivial⟩, (hM.congr (by rw [HS.puts]))⟩ ?_
  clear hS hM; rintro ⟨i, p, u⟩ a w ⟨hk, hS, hM⟩
  obtain ⟨hi1, hi2, hp, hu, hun⟩ := hk; dsimp only at hi1 hi2 hp hu hun hS hM
  have hpn := HS.puts_n h f p
  refine c_seq ?_
  refine c_seq ?_
  refine c_region ?_
  refine s_val hS (by decide) rfl rfl (r_move hS rfl) ?_; clear hS; intro a hS
  refine s_val hS (by decide) rfl rfl (r_lenR hS rfl (hu.keep hM (ne_one hun)) Try.underlying22) ?_; clear hS; intro a hS
  refine s_val hS (by decide) rfl rfl (r_bv hS rfl (show ev _ _ = some (N 0) from rfl) gN (b_gtrN _ _ _)) ?_; clear hS; intro a hS
  refine s_nil ?_
  refine k_seq ?_
  refine c_cond hS rfl (fun hc => ?_) (fun hc => ?_)
  · have hk1 := of_decide_eq_true hc; have hi : i ≤ mc := by omega
    refine c_skip ?_
    refine k_seq ?_
    refine c_seq ?_
    refine c_block ?_
    refine c_seq ?_
    refine c_region ?_
    refine s_val hS (by decide) rfl rfl (r_move hS rfl) ?_; clear hS; intro a hS
    refine s_val hS (by decide) rfl rfl (r_lenR hS rfl (hu.keep hM (ne_one hun)) Try.underlying22) ?_; clear hS; intro a hS
    refine s_val hS (by decide) rfl rfl (r_assign hS rfl) ?_; clear hS; intro a hS
    refine s_nil ?_
    refine k_seq ?_
    refine c_seq ?_
    refine c_seq ?_
    refine c_region ?_
    refine s_val hS (by decide) rfl rfl (r_move hS rfl) ?_; clear hS; intro a hS
    refine s_val hS (by decide) rfl rfl (r_move hS rfl) ?_; clear hS; intro a hS
    refine s_val hS (by decide) rfl rfl (r_lenR hS rfl (hrc.keep hM (ne_one hnc)) Try.underlying46) ?_; clear hS; intro a hS
    refine s_valb hS (by decide) rfl rfl (r_bv hS rfl rfl gN (b_lssN _ _ _)) (fun hc => ?_) (fun hc => ?_)
    · clear hS; intro a hS; have h1 := of_decide_eq_true hc
      refine s_val hS (by decide) rfl rfl (r_move hS rfl) ?_; clear hS; intro a hS
      refine s_valg hS (by decide) rfl rfl rfl rfl rfl (r_move hS rfl) ?_; clear hS; intro a hS
      refine s_valg hS (by decide) rfl rfl rfl rfl rfl (r_move hS rfl) ?_; clear hS; intro a hS
      refine s_valg hS (by decide) rfl rfl rfl rfl rfl (r_indexR hS rfl (hrc.keep hM (ne_one hnc)) rfl Try.underlying46 sz3 (by omega)) ?_; clear hS; intro a hS
      refine s_valg hS (by decide) rfl rfl rfl rfl rfl (r_loadR hS rfl (hrc.keep hM (ne_one hnc)) (by omega) Try.underlying3 rfl) ?_; clear hS; intro a hS
      refine s_valgb hS (by decide) rfl rfl rfl rfl rfl (r_bv hS rfl (show ev _ _ = some (.int .i64 (0)) from rfl) gZ (b_geqZ _ _ _)) (fun hc => ?_) (fun hc => ?_)
      · clear hS; intro a hS; have h2 := of_decide_eq_true hc
        refine s_val hS (by decide) rfl rfl (r_pick hS rfl rfl) ?_; clear hS; intro a hS
        refine s_val hS (by decide) rfl rfl (r_move hS rfl) ?_; clear hS; intro a hS
        refine s_valg hS (by decide) rfl rfl rfl rfl rfl (r_move hS rfl) ?_; clear hS; intro a hS
        refine s_valg hS (by decide) rfl rfl rfl rfl rfl (r_move hS rfl) ?_; clear hS; intro a hS
        refine s_valg hS (by decide) rfl rfl rfl rfl rfl (r_indexR hS rfl (hrc.keep hM (ne_one hnc)) rfl Try.underlying46 sz3 (by omega)) ?_; clear hS; intro a hS
        refine s_valg hS (by decide) rfl rfl rfl rfl rfl (r_loadR hS rfl (hrc.keep hM (ne_one hnc)) (by omega) Try.underlying3 rfl) ?_; clear hS; intro a hS
        refine s_valg hS (by decide) rfl rfl rfl rfl rfl (r_move hS rfl) ?_; clear hS; intro a hS
        refine s_valg hS (by decide) rfl rfl rfl rfl rfl (r_bv hS rfl rfl gZ (b_lssZ _ _ _)) ?_; clear hS; intro a hS
        refine s_val hS (by decide) rfl rfl (r_pick hS rfl rfl) ?_; clear hS; intro a hS
        refine s_nil ?_
        refine k_seq ?_
        refine c_cond hS rfl (fun hc => ?_) (fun hc => ?_)
        · have h3 := of_decide_eq_true hc; obtain ⟨q, hq⟩ : ∃ q : Nat, g i = (q : Int) := ⟨(g i).toNat, by omega⟩; have hq1 : q ≤ m - p := (by omega); have hq2 : i < mc ∨ q = m - p := Or.inl h1
          refine c_region ?_
          refine s_val hS (by decide) rfl rfl (r_move hS rfl) ?_; clear hS; intro a hS
          refine s_val hS (by decide) rfl rfl (r_move hS rfl) ?_; clear hS; intro a hS
          refine s_val hS (by decide) rfl rfl (r_indexR hS rfl (hrc.keep hM (ne_one hnc)) rfl Try.underlying46 sz3 (by omega)) ?_; clear hS; intro a hS
          refine s_val hS (by decide) rfl rfl (r_loadR hS rfl (hrc.keep hM (ne_one hnc)) (by omega) Try.underlying3 rfl) ?_; clear hS; intro a hS
          refine s_val hS (by decide) rfl rfl (r_assign hS rfl) ?_; clear hS; intro a hS
          rw [hq] at hS
          refine s_nil ?_
          refine k_seq ?_
          refine c_seq ?_
          refine c_region ?_
          refine s_val hS (by decide) rfl rfl (r_move hS rfl) ?_; clear hS; intro a hS
          refine s_val hS (by decide) rfl rfl (r_move hS rfl) ?_; clear hS; intro a hS
          refine s_val hS (by decide) rfl rfl (r_move hS rfl) ?_; clear hS; intro a hS
          refine s_val hS (by decide) rfl rfl (r_sliceR hS rfl (hu.keep hM (ne_one hun)) Try.underlying22 sz5 rfl ⟨_, rfl⟩ (Nat.zero_le _) hq1) ?_; clear hS; intro a hS
          refine s_wrote hS hM (by decide) rfl (j := 0) rfl (write_t _ _ _ (hM.block (j := 0) rfl) ((hu.keep hM (ne_one hun)).slc (Nat.zero_le _) hq1) (fun h8 => by rw [rb_slc hu (by omega)]; exact hun (by omega)) (by omega)) ?_; clear hS hM; intro a w hS hM
          refine s_nil ?_
          refine k_seq ?_
          refine c_region ?_
          refine s_val hS (by decide) rfl rfl (r_move hS rfl) ?_; clear hS; intro a hS
          refine s_val hS (by decide) rfl rfl (r_move hS rfl) ?_; clear hS; intro a hS
          refine s_val hS (by decide) rfl rfl (r_sliceR hS rfl (hu.keep hM (ne_one hun)) Try.underlying22 sz5 ⟨_, rfl⟩ rfl hq1 (Nat.le_refl _)) ?_; clear hS; intro a hS
          refine s_val hS (by decide) rfl rfl (r_assign hS rfl) ?_; clear hS; intro a hS
          refine s_nil ?_
          refine k_in ?_
          refine k_seq ?_
          refine c_region ?_
          refine s_val hS (by decide) rfl rfl (r_move hS rfl) ?_; clear hS; intro a hS
          refine s_val hS (by decide) rfl rfl (r_bv hS rfl (show ev _ _ = some (N 1) from rfl) gN (b_addN _ _ _ (by omega))) ?_; clear hS; intro a hS
          refine s_val hS (by decide) rfl rfl (r_assign hS rfl) ?_; clear hS; intro a hS
          refine s_nil ?_
          refine k_then ?_
          refine ⟨(i + 1, p + q, _), (by show mc + 1 - (i + 1) < mc + 1 - i; omega), ⟨(by show i + 1 ≤ mc + 1; omega), (by show i + 1 ≤ mc ∨ p + q = m; omega), (by show p + q ≤ m; omega), (by have e := hu.slc (l := q) (h := m - p) hq1 (Nat.le_refl _); rw [show m - p - q = m - (p + q) by omega] at e; exact e.congr (fun j _ => by show B (f (p + (q + j))) = B (f (p + q + j)); rw [Nat.add_assoc])), (fun h8 => by have h9 : 0 < m - (p + q) := h8; show rb (slc u q (m - p)) ≠ b; rw [rb_slc hu (by omega)]; exact hun (by omega))⟩, hS.to _ ⟨rfl, rfl, rfl, rfl, trivial⟩, (hM.congr (by rw [← puts_split h f p q]; simp only [Nat.zero_add]; try rfl))⟩
        · obtain ⟨q, hq⟩ : ∃ q : Nat, q = m - p := ⟨_, rfl⟩; rw [← hq] at hS; have hq1 : q ≤ m - p := (by omega); have hq2 : i < mc ∨ q = m - p := Or.inr hq
          refine c_skip ?_
          refine k_seq ?_
          refine c_seq ?_
          refine c_region ?_
          refine s_val hS (by decide) rfl rfl (r_move hS rfl) ?_; clear hS; intro a hS
          refine s_val hS (by decide) rfl rfl (r_move hS rfl) ?_; clear hS; intro a hS
          refine s_val hS (by decide) rfl rfl (r_move hS rfl) ?_; clear hS; intro a hS
          refine s_val hS (by decide) rfl rfl (r_sliceR hS rfl (hu.keep hM (ne_one hun)) Try.underlying22 sz5 rfl ⟨_, rfl⟩ (Nat.zero_le _) hq1) ?_; clear hS; intro a hS
          refine s_wrote hS hM (by decide) rfl (j := 0) rfl (write_t _ _ _ (hM.block (j := 0) rfl) ((hu.keep hM (ne_one hun)).slc (Nat.zero_le _) hq1) (fun h8 => by rw [rb_slc hu (by omega)]; exact hun (by omega)) (by omega)) ?_; clear hS hM; intro a w hS hM
          refine s_nil ?_
          refine k_seq ?_
          refine c_region ?_
          refine s_val hS (by decide) rfl rfl (r_move hS rfl) ?_; clear hS; intro a hS
          refine s_val hS (by decide) rfl rfl (r_move hS rfl) ?_; clear hS; intro a hS
          refine s_val hS (by decide) rfl rfl (r_sliceR hS rfl (hu.keep hM (ne_one hun)) Try.underlying22 sz5 ⟨_, rfl⟩ rfl hq1 (Nat.le_refl _)) ?_; clear hS; intro a hS
          refine s_val hS (by decide) rfl rfl (r_assign hS rfl) ?_; clear hS; intro a hS
          refine s_nil ?_
          refine k_in ?_
          refine k_seq ?_
          refine c_region ?_
          refine s_val hS (by decide) rfl rfl (r_move hS rfl) ?_; clear hS; intro a hS
          refine s_val hS (by decide) rfl rfl (r_bv hS rfl (show ev _ _ = some (N 1) from rfl) gN (b_addN _ _ _ (by omega))) ?_; clear hS; intro a hS
          refine s_val hS (by decide) rfl rfl (r_assign hS rfl) ?_; clear hS; intro a hS
          refine s_nil ?_
          refine k_then ?_
          refine ⟨(i + 1, p + q, _), (by show mc + 1 - (i + 1) < mc + 1 - i; omega), ⟨(by show i + 1 ≤ mc + 1; omega), (by show i + 1 ≤ mc ∨ p + q = m; omega), (by show p + q ≤ m; omega), (by have e := hu.slc (l := q) (h := m - p) hq1 (Nat.le_refl _); rw [show m - p - q = m - (p + q) by omega] at e; exact e.congr (fun j _ => by show B (f (p + (q + j))) = B (f (p + q + j)); rw [Nat.add_assoc])), (fun h8 => by have h9 : 0 < m - (p + q) := h8; show rb (slc u q (m - p)) ≠ b; rw [rb_slc hu (by omega)]; exact hun (by omega))⟩, hS.to _ ⟨rfl, rfl, rfl, rfl, trivial⟩, (hM.congr (by rw [← puts_split h f p q]; simp only [Nat.zero_add]; try rfl))⟩
      · clear hS; intro a hS; have h2 := of_decide_eq_false hc
        refine s_val hS (by decide) rfl rfl (r_pick hS rfl rfl) ?_; clear hS; intro a hS
        refine s_val hS (by decide) rfl rfl (r_move hS rfl) ?_; clear hS; intro a hS
        refine s_skip hS (by decide) rfl rfl rfl rfl rfl ?_; clear hS; intro a hS
        refine s_skip hS (by decide) rfl rfl rfl rfl rfl ?_; clear hS; intro a hS
        refine s_skip hS (by decide) rfl rfl rfl rfl rfl ?_; clear hS; intro a hS
        refine s_skip hS (by decide) rfl rfl rfl rfl rfl ?_; clear hS; intro a hS
        refine s_skip hS (by decide) rfl rfl rfl rfl rfl ?_; clear hS; intro a hS
        refine s_skip hS (by decide) rfl rfl rfl rfl rfl ?_; clear hS; intro a hS
        refine s_val hS (by decide) rfl rfl (r_pick hS rfl rfl) ?_; clear hS; intro a hS
        refine s_nil ?_
        refine k_seq ?_
        refine c_false hS rfl rfl ?_
        obtain ⟨q, hq⟩ : ∃ q : Nat, q = m - p := ⟨_, rfl⟩; rw [← hq] at hS; have hq1 : q ≤ m - p := (by omega); have hq2 : i < mc ∨ q = m - p := Or.inr hq
        refine c_skip ?_
        refine k_seq ?_
        refine c_seq ?_
        refine c_region ?_
        refine s_val hS (by decide) rfl rfl (r_move hS rfl) ?_; clear hS; intro a hS
        refine s_val hS (by decide) rfl rfl (r_move hS rfl) ?_; clear hS; intro a hS
        refine s_val hS (by decide) rfl rfl (r_move hS rfl) ?_; clear hS; intro a hS
        refine s_val hS (by decide) rfl rfl (r_sliceR hS rfl (hu.keep hM (ne_one hun)) Try.underlying22 sz5 rfl ⟨_, rfl⟩ (Nat.zero_le _) hq1) ?_; clear hS; intro a hS
        refine s_wrote hS hM (by decide) rfl (j := 0) rfl (write_t _ _ _ (hM.block (j := 0) rfl) ((hu.keep hM (ne_one hun)).slc (Nat.zero_le _) hq1) (fun h8 => by rw [rb_slc hu (by omega)]; exact hun (by omega)) (by omega)) ?_; clear hS hM; intro a w hS hM
        refine s_nil ?_
        refine k_seq ?_
        refine c_region ?_
        refine s_val hS (by decide) rfl rfl (r_move hS rfl) ?_; clear hS; intro a hS
        refine s_val hS (by decide) rfl rfl (r_move hS rfl) ?_; clear hS; intro a hS
        refine s_val hS (by decide) rfl rfl (r_sliceR hS rfl (hu.keep hM (ne_one hun)) Try.underlying22 sz5 ⟨_, rfl⟩ rfl hq1 (Nat.le_refl _)) ?_; clear hS; intro a hS
        refine s_val hS (by decide) rfl rfl (r_assign hS rfl) ?_; clear hS; intro a hS
        refine s_nil ?_
        refine k_in ?_
        refine k_seq ?_
        refine c_region ?_
        refine s_val hS (by decide) rfl rfl (r_move hS rfl) ?_; clear hS; intro a hS
        refine s_val hS (by decide) rfl rfl (r_bv hS rfl (show ev _ _ = some (N 1) from rfl) gN (b_addN _ _ _ (by omega))) ?_; clear hS; intro a hS
        refine s_val hS (by decide) rfl rfl (r_assign hS rfl) ?_; clear hS; intro a hS
        refine s_nil ?_
        refine k_then ?_
        refine ⟨(i + 1, p + q, _), (by show mc + 1 - (i + 1) < mc + 1 - i; omega), ⟨(by show i + 1 ≤ mc + 1; omega), (by show i + 1 ≤ mc ∨ p + q = m; omega), (by show p + q ≤ m; omega), (by have e := hu.slc (l := q) (h := m - p) hq1 (Nat.le_refl _); rw [show m - p - q = m - (p + q) by omega] at e; exact e.congr (fun j _ => by show B (f (p + (q + j))) = B (f (p + q + j)); rw [Nat.add_assoc])), (fun h8 => by have h9 : 0 < m - (p + q) := h8; show rb (slc u q (m - p)) ≠ b; rw [rb_slc hu (by omega)]; exact hun (by omega))⟩, hS.to _ ⟨rfl, rfl, rfl, rfl, trivial⟩, (hM.congr (by rw [← puts_split h f p q]; simp only [Nat.zero_add]; try rfl))⟩
    · clear hS; intro a hS; have h1 := of_decide_eq_false hc
      refine s_val hS (by decide) rfl rfl (r_move hS rfl) ?_; clear hS; intro a hS
      refine s_skip hS (by decide) rfl rfl rfl rfl rfl ?_; clear hS; intro a hS
      refine s_skip hS (by decide) rfl rfl rfl rfl rfl ?_; clear hS; intro a hS
      refine s_skip hS (by decide) rfl rfl rfl rfl rfl ?_; clear hS; intro a hS
      refine s_skip hS (by decide) rfl rfl rfl rfl rfl ?_; clear hS; intro a hS
      refine s_skip hS (by decide) rfl rfl rfl rfl rfl ?_; clear hS; intro a hS
      refine s_val hS (by decide) rfl rfl (r_pick hS rfl rfl) ?_; clear hS; intro a hS
      refine s_val hS (by decide) rfl rfl (r_move hS rfl) ?_; clear hS; intro a hS
      refine s_skip hS (by decide) rfl rfl rfl rfl rfl ?_; clear hS; intro a hS
      refine s_skip hS (by decide) rfl rfl rfl rfl rfl ?_; clear hS; intro a hS
      refine s_skip hS (by decide) rfl rfl rfl rfl rfl ?_; clear hS; intro a hS
      refine s_skip hS (by decide) rfl rfl rfl rfl rfl ?_; clear hS; intro a hS
      refine s_skip hS (by decide) rfl rfl rfl rfl rfl ?_; clear hS; intro a hS
      refine s_skip hS (by decide) rfl rfl rfl rfl rfl ?_; clear hS; intro a hS
      refine s_val hS (by decide) rfl rfl (r_pick hS rfl rfl) ?_; clear hS; intro a hS
      refine s_nil ?_
      refine k_seq ?_
      refine c_false hS rfl rfl ?_
      obtain ⟨q, hq⟩ : ∃ q : Nat, q = m - p := ⟨_, rfl⟩; rw [← hq] at hS; have hq1 : q ≤ m - p := (by omega); have hq2 : i < mc ∨ q = m - p := Or.inr hq
      refine c_skip ?_
      refine k_seq ?_
      refine c_seq ?_
      refine c_region ?_
      refine s_val hS (by decide) rfl rfl (r_move hS rfl) ?_; clear hS; intro a hS
      refine s_val hS (by decide) rfl rfl (r_move hS rfl) ?_; clear hS; intro a hS
      refine s_val hS (by decide) rfl rfl (r_move hS rfl) ?_; clear hS; intro a hS
      refine s_val hS (by decide) rfl rfl (r_sliceR hS rfl (hu.keep hM (ne_one hun)) Try.underlying22 sz5 rfl ⟨_, rfl⟩ (Nat.zero_le _) hq1) ?_; clear hS; intro a hS
      refine s_wrote hS hM (by decide) rfl (j := 0) rfl (write_t _ _ _ (hM.block (j := 0) rfl) ((hu.keep hM (ne_one hun)).slc (Nat.zero_le _) hq1) (fun h8 => by rw [rb_slc hu (by omega)]; exact hun (by omega)) (by omega)) ?_; clear hS hM; intro a w hS hM
      refine s_nil ?_
      refine k_seq ?_
      refine c_region ?_
      refine s_val hS (by decide) rfl rfl (r_move hS rfl) ?_; clear hS; intro a hS
      refine s_val hS (by decide) rfl rfl (r_move hS rfl) ?_; clear hS; intro a hS
      refine s_val hS (by decide) rfl rfl (r_sliceR hS rfl (hu.keep hM (ne_one hun)) Try.underlying22 sz5 ⟨_, rfl⟩ rfl hq1 (Nat.le_refl _)) ?_; clear hS; intro a hS
      refine s_val hS (by decide) rfl rfl (r_assign hS rfl) ?_; clear hS; intro a hS
      refine s_nil ?_
      refine k_in ?_
      refine k_seq ?_
      refine c_region ?_
      refine s_val hS (by decide) rfl rfl (r_move hS rfl) ?_; clear hS; intro a hS
      refine s_val hS (by decide) rfl rfl (r_bv hS rfl (show ev _ _ = some (N 1) from rfl) gN (b_addN _ _ _ (by omega))) ?_; clear hS; intro a hS
      refine s_val hS (by decide) rfl rfl (r_assign hS rfl) ?_; clear hS; intro a hS
      refine s_nil ?_
      refine k_then ?_
      refine ⟨(i + 1, p + q, _), (by show mc + 1 - (i + 1) < mc + 1 - i; omega), ⟨(by show i + 1 ≤ mc + 1; omega), (by show i + 1 ≤ mc ∨ p + q = m; omega), (by show p + q ≤ m; omega), (by have e := hu.slc (l := q) (h := m - p) hq1 (Nat.le_refl _); rw [show m - p - q = m - (p + q) by omega] at e; exact e.congr (fun j _ => by show B (f (p + (q + j))) = B (f (p + q + j)); rw [Nat.add_assoc])), (fun h8 => by have h9 : 0 < m - (p + q) := h8; show rb (slc u q (m - p)) ≠ b; rw [rb_slc hu (by omega)]; exact hun (by omega))⟩, hS.to _ ⟨rfl, rfl, rfl, rfl, trivial⟩, (hM.congr (by rw [← puts_split h f p q]; simp only [Nat.zero_add]; try rfl))⟩
  · have hk1 := of_decide_eq_false hc; obtain rfl : p = m := by omega
    refine c_exit ?_
    refine k_thenx ?_
    refine k_thenx ?_
    refine k_inx ?_
    exact k_res0n hS rfl ⟨rfl, hM⟩
end Go.Proofs.Ytfojllcccncdbaa
