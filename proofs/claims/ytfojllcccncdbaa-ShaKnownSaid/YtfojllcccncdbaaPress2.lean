/- The walks through package press, and its definition's: schedule and step. Printed by a program of mine (walk.py). -/
import Derived.Test.YtfojllcccncdbaaPress1
import Derived.Test.YtfojllcccncdbaaPlainLaw
import Derived.Test.YtfojllcccncdbaaSymSlice
import Derived.Test.YtfojllcccncdbaaSymGrow
namespace Go.Proofs.Ytfojllcccncdbaa
open Go Go.Sym
theorem sz33 : (Try.prog.info? 33).map (·.size) = some 80 := by kernel_rfl
theorem sz36 : (Try.prog.info? 36).map (·.size) = some 8 := by kernel_rfl
theorem zero33 : Zero Try.prog 33 (cU 80 (fun _ => 0)) := fun _ => by kernel_rfl
theorem zero36 : Zero Try.prog 36 (cU 8 (fun _ => 0)) := fun _ => by kernel_rfl
theorem build33 (x0 x1 x2 x3 x4 x5 x6 x7 x8 x9 x10 x11 x12 x13 x14 x15 x16 x17 x18 x19 x20 x21 x22 x23 x24 x25 x26 x27 x28 x29 x30 x31 x32 x33 x34 x35 x36 x37 x38 x39 x40 x41 x42 x43 x44 x45 x46 x47 x48 x49 x50 x51 x52 x53 x54 x55 x56 x57 x58 x59 x60 x61 x62 x63 x64 x65 x66 x67 x68 x69 x70 x71 x72 x73 x74 x75 x76 x77 x78 x79 : BitVec 64) (w : World) : (Instr.build 33 ([(0, U x0), (1, U x1), (2, U x2), (3, U x3), (4, U x4), (5, U x5), (6, U x6), (7, U x7), (8, U x8), (9, U x9), (10, U x10), (11, U x11), (12, U x12), (13, U x13), (14, U x14), (15, U x15), (16, U x16), (17, U x17), (18, U x18), (19, U x19), (20, U x20), (21, U x21), (22, U x22), (23, U x23), (24, U x24), (25, U x25), (26, U x26), (27, U x27), (28, U x28), (29, U x29), (30, U x30), (31, U x31), (32, U x32), (33, U x33), (34, U x34), (35, U x35), (36, U x36), (37, U x37), (38, U x38), (39, U x39), (40, U x40), (41, U x41), (42, U x42), (43, U x43), (44, U x44), (45, U x45), (46, U x46), (47, U x47), (48, U x48), (49, U x49), (50, U x50), (51, U x51), (52, U x52), (53, U x53), (54, U x54), (55, U x55), (56, U x56), (57, U x57), (58, U x58), (59, U x59), (60, U x60), (61, U x61), (62, U x62), (63, U x63), (64, U x64), (65, U x65), (66, U x66), (67, U x67), (68, U x68), (69, U x69), (70, U x70), (71, U x71), (72, U x72), (73, U x73), (74, U x74), (75, U x75), (76, U x76), (77, U x77), (78, U x78), (79, U x79)] : List (Nat × Value)).toArray).run Try.prog w = .ok (.agg (cU 80 (lst 0 [x0, x1, x2, x3, x4, x5, x6, x7, x8, x9, x10, x11, x12, x13, x14, x15, x16, x17, x18, x19, x20, x21, x22, x23, x24, x25, x26, x27, x28, x29, x30, x31, x32, x33, x34, x35, x36, x37, x38, x39, x40, x41, x42, x43, x44, x45, x46, x47, x48, x49, x50, x51, x52, x53, x54, x55, x56, x57, x58, x59, x60, x61, x62, x63, x64, x65, x66, x67, x68, x69, x70, x71, x72, x73, x74, x75, x76, x77, x78, x79])).toArray) w := by kernel_rfl
theorem build36 (x0 x1 x2 x3 x4 x5 x6 x7 : BitVec 64) (w : World) : (Instr.build 36 ([(0, U x0), (1, U x1), (2, U x2), (3, U x3), (4, U x4), (5, U x5), (6, U x6), (7, U x7)] : List (Nat × Value)).toArray).run Try.prog w = .ok (.agg (cU 8 (lst 0 [x0, x1, x2, x3, x4, x5, x6, x7])).toArray) w := by kernel_rfl

set_option maxRecDepth 100000 in
theorem rrotr0_ok (x : BitVec 64) (n : Int) (_hn : -9223372036854775808 ≤ n ∧ n < 9223372036854775808) (w0 : World) : Pure Try.prog 24 #[U x, .int .i64 n] w0 (U (refRotr x n)) := by
  have ht := tmod64 n
  have h2 : 0 ≤ (n.tmod 64 + 64).tmod 64 := Int.tmod_nonneg _ (by omega)
  refine ⟨by kernel_rfl, ?_⟩
  refine calls_sym Try.func24 rfl (by kernel_rfl) ?_
  intro a hS
  have hM : Mem w0 w0 [] := Mem.refl w0
  refine c_seq ?_
  refine c_region ?_
  refine s_val hS (by decide) rfl rfl (r_assign hS (show ev _ _ = some (U 0#64) from rfl)) ?_; clear hS; intro a hS
  refine s_nil ?_
  refine k_seq ?_
  refine c_seq ?_
  refine c_region ?_
  refine s_val hS (by decide) rfl rfl (r_move hS rfl) ?_; clear hS; intro a hS
  refine s_val hS (by decide) rfl rfl (r_bv hS rfl (show ev _ _ = some (.int .i64 (64)) from rfl) gZ (b_remZ _ _ _ (by omega))) ?_; clear hS; intro a hS
  refine s_val hS (by decide) rfl rfl (r_bv hS rfl (show ev _ _ = some (.int .i64 (64)) from rfl) gZ (b_addZ _ _ _ (by omega))) ?_; clear hS; intro a hS
  refine s_val hS (by decide) rfl rfl (r_bv hS rfl (show ev _ _ = some (.int .i64 (64)) from rfl) gZ (b_remZ _ _ _ (by omega))) ?_; clear hS; intro a hS
  refine s_val hS (by decide) rfl rfl (r_conv hS rfl (by kernel_rfl) Try.underlying44 (cv_ZU _)) ?_; clear hS; intro a hS
  refine s_val hS (by decide) rfl rfl (r_assign hS rfl) ?_; clear hS; intro a hS
  refine s_nil ?_
  refine k_seq ?_
  refine c_seq ?_
  refine c_seq ?_
  refine c_region ?_
  refine s_val hS (by decide) rfl rfl (r_move hS rfl) ?_; clear hS; intro a hS
  refine s_val hS (by decide) rfl rfl (r_bv hS rfl (show ev _ _ = some (U 0#64) from rfl) gU (b_eqlU _ _ _)) ?_; clear hS; intro a hS
  refine s_nil ?_
  refine k_seq ?_
  refine c_cond hS rfl (fun hc => ?_) (fun hc => ?_)
  · have hc' : BitVec.ofInt 64 ((n.tmod 64 + 64).tmod 64) = 0#64 := of_decide_eq_true hc
    refine c_seq ?_
    refine c_region ?_
    refine s_val hS (by decide) rfl rfl (r_move hS rfl) ?_; clear hS; intro a hS
    refine s_val hS (by decide) rfl rfl (r_assign hS rfl) ?_; clear hS; intro a hS
    refine s_nil ?_
    refine k_seq ?_
    refine c_ret ?_
    refine k_thenr ?_
    exact k_res1 hS rfl (RV.tmp rfl) ⟨(congrArg (fun v => Ending.returned (U v)) (by unfold refRotr; first | exact (if_pos hc').symm | exact (if_neg hc').symm)), hM.done trivial⟩
  · have hc' : ¬ BitVec.ofInt 64 ((n.tmod 64 + 64).tmod 64) = 0#64 := of_decide_eq_false hc
    refine c_skip ?_
    refine k_seq ?_
    refine c_seq ?_
    refine c_region ?_
    refine s_val hS (by decide) rfl rfl (r_move hS rfl) ?_; clear hS; intro a hS
    refine s_val hS (by decide) rfl rfl (r_move hS rfl) ?_; clear hS; intro a hS
    refine s_val hS (by decide) rfl rfl (r_bv hS rfl rfl gU (b_shrU _ _ _ (BitVec.toNat _))) ?_; clear hS; intro a hS
    refine s_val hS (by decide) rfl rfl (r_move hS rfl) ?_; clear hS; intro a hS
    refine s_val hS (by decide) rfl rfl (r_move hS rfl) ?_; clear hS; intro a hS
    refine s_val hS (by decide) rfl rfl (r_bv hS (show ev _ _ = some (U 64#64) from rfl) rfl gU (b_subU _ _ _)) ?_; clear hS; intro a hS
    refine s_val hS (by decide) rfl rfl (r_bv hS rfl rfl gU (b_shlU _ _ _ (BitVec.toNat _))) ?_; clear hS; intro a hS
    refine s_val hS (by decide) rfl rfl (r_bv hS rfl rfl gU (b_orU _ _ _)) ?_; clear hS; intro a hS
    refine s_val hS (by decide) rfl rfl (r_assign hS rfl) ?_; clear hS; intro a hS
    refine s_nil ?_
    refine k_seq ?_
    refine c_ret ?_
    exact k_res1 hS rfl (RV.tmp rfl) ⟨(congrArg (fun v => Ending.returned (U v)) (by unfold refRotr; first | exact (if_pos hc').symm | exact (if_neg hc').symm)), hM.done trivial⟩

theorem rrotr_ok (x : BitVec 64) (n : Int) (hn : -9223372036854775808 ≤ n ∧ n < 9223372036854775808) (w0 : World) : Pure Try.prog 24 #[U x, .int .i64 n] w0 (U (rotr x n)) := by rw [← refRotr_eq]; exact rrotr0_ok x n hn w0

set_option maxRecDepth 100000 in
theorem rch_ok (x y z : BitVec 64) (w0 : World) : Pure Try.prog 25 #[U x, U y, U z] w0 (U (chTo x y z 64)) := by
  refine ⟨by kernel_rfl, ?_⟩
  refine calls_sym Try.func25 rfl (by kernel_rfl) ?_
  intro a hS
  have hM : Mem w0 w0 [] := Mem.refl w0
  refine c_seq ?_
  refine c_region ?_
  refine s_val hS (by decide) rfl rfl (r_assign hS (show ev _ _ = some (U 0#64) from rfl)) ?_; clear hS; intro a hS
  refine s_nil ?_
  refine k_seq ?_
  refine c_seq ?_
  refine c_region ?_
  refine s_val hS (by decide) rfl rfl (r_assign hS (show ev _ _ = some (U 0#64) from rfl)) ?_; clear hS; intro a hS
  refine s_nil ?_
  refine k_seq ?_
  refine c_seq ?_
  refine c_seq ?_
  refine c_region ?_
  refine s_val hS (by decide) rfl rfl (r_assign hS (show ev _ _ = some (U 0#64) from rfl)) ?_; clear hS; intro a hS
  refine s_nil ?_
  refine k_seq ?_
  refine c_block ?_
  refine c_loop (σ := Nat) (fun k a w => (k ≤ 64) ∧ Slots a 33 (env [(0, U x), (1, U y), (2, U z), (7, U (chTo x y z k)), (8, U (BitVec.ofNat 64 k))]) ∧ Mem w0 w ([])) (fun k => 64 - k) (0) ⟨by omega, hS.to _ ⟨rfl, rfl, rfl, rfl, rfl, trivial⟩, hM⟩ ?_
  clear hS hM; rintro k a w ⟨hk, hS, hM⟩
  have e64 : (BitVec.ofNat 64 k).toNat = k := by rw [BitVec.toNat_ofNat]; omega
  refine c_seq ?_
  refine c_seq ?_
  refine c_region ?_
  refine s_val hS (by decide) rfl rfl (r_move hS rfl) ?_; clear hS; intro a hS
  refine s_val hS (by decide) rfl rfl (r_bv hS rfl (show ev _ _ = some (U 64#64) from rfl) gU (b_lssU _ _ _)) ?_; clear hS; intro a hS
  refine s_nil ?_
  refine k_seq ?_
  refine c_cond hS rfl (fun hc => ?_) (fun hc => ?_)
  · have hk1 : k < 64 := by have := of_decide_eq_true hc; simp only [e64] at this; exact this
    refine c_skip ?_
    refine k_seq ?_
    refine c_seq ?_
    refine c_block ?_
    refine c_seq ?_
    refine c_region ?_
    refine s_val hS (by decide) rfl rfl (r_move hS rfl) ?_; clear hS; intro a hS
    refine s_val hS (by decide) rfl rfl (r_move hS rfl) ?_; clear hS; intro a hS
    refine s_val hS (by decide) rfl rfl (r_bv hS rfl rfl gU (b_shrU _ _ _ (BitVec.toNat _))) ?_; clear hS; intro a hS
    refine s_val hS (by decide) rfl rfl (r_bv hS rfl (show ev _ _ = some (U 1#64) from rfl) gU (b_andU _ _ _)) ?_; clear hS; intro a hS
    refine s_val hS (by decide) rfl rfl (r_assign hS rfl) ?_; clear hS; intro a hS
    refine s_nil ?_
    refine k_seq ?_
    refine c_seq ?_
    refine c_seq ?_
    refine c_region ?_
    refine s_val hS (by decide) rfl rfl (r_move hS rfl) ?_; clear hS; intro a hS
    refine s_val hS (by decide) rfl rfl (r_move hS rfl) ?_; clear hS; intro a hS
    refine s_val hS (by decide) rfl rfl (r_bv hS rfl rfl gU (b_shrU _ _ _ (BitVec.toNat _))) ?_; clear hS; intro a hS
    refine s_val hS (by decide) rfl rfl (r_bv hS rfl (show ev _ _ = some (U 1#64) from rfl) gU (b_andU _ _ _)) ?_; clear hS; intro a hS
    refine s_val hS (by decide) rfl rfl (r_bv hS rfl (show ev _ _ = some (U 1#64) from rfl) gU (b_eqlU _ _ _)) ?_; clear hS; intro a hS
    refine s_nil ?_
    refine k_seq ?_
    refine c_cond hS rfl (fun hc => ?_) (fun hc => ?_)
    · have hc' := of_decide_eq_true hc
      refine c_region ?_
      refine s_val hS (by decide) rfl rfl (r_move hS rfl) ?_; clear hS; intro a hS
      refine s_val hS (by decide) rfl rfl (r_move hS rfl) ?_; clear hS; intro a hS
      refine s_val hS (by decide) rfl rfl (r_bv hS rfl rfl gU (b_shrU _ _ _ (BitVec.toNat _))) ?_; clear hS; intro a hS
      refine s_val hS (by decide) rfl rfl (r_bv hS rfl (show ev _ _ = some (U 1#64) from rfl) gU (b_andU _ _ _)) ?_; clear hS; intro a hS
      refine s_val hS (by decide) rfl rfl (r_assign hS rfl) ?_; clear hS; intro a hS
      refine s_nil ?_
      refine k_seq ?_
      refine c_region ?_
      refine s_val hS (by decide) rfl rfl (r_move hS rfl) ?_; clear hS; intro a hS
      refine s_val hS (by decide) rfl rfl (r_move hS rfl) ?_; clear hS; intro a hS
      refine s_val hS (by decide) rfl rfl (r_move hS rfl) ?_; clear hS; intro a hS
      refine s_val hS (by decide) rfl rfl (r_bv hS rfl rfl gU (b_shlU _ _ _ (BitVec.toNat _))) ?_; clear hS; intro a hS
      refine s_val hS (by decide) rfl rfl (r_bv hS rfl rfl gU (b_orU _ _ _)) ?_; clear hS; intro a hS
      refine s_val hS (by decide) rfl rfl (r_assign hS rfl) ?_; clear hS; intro a hS
      refine s_nil ?_
      refine k_in ?_
      refine k_seq ?_
      refine c_region ?_
      refine s_val hS (by decide) rfl rfl (r_move hS rfl) ?_; clear hS; intro a hS
      refine s_val hS (by decide) rfl rfl (r_bv hS rfl (show ev _ _ = some (U 1#64) from rfl) gU (b_addU _ _ _)) ?_; clear hS; intro a hS
      refine s_val hS (by decide) rfl rfl (r_assign hS rfl) ?_; clear hS; intro a hS
      refine s_nil ?_
      refine k_then ?_
      refine ⟨k + 1, by omega, by omega, hS.to _ ⟨rfl, rfl, rfl, congrArg (fun v => some (U v)) (by simp only [e64] at hc' ⊢; first | exact (by rw [chTo, if_pos hc']) | exact (by rw [chTo, if_neg hc'])), congrArg (fun v => some (U v)) (by apply BitVec.eq_of_toNat_eq; simp only [BitVec.toNat_add, BitVec.toNat_ofNat]; omega), trivial⟩, hM⟩
    · have hc' := of_decide_eq_false hc
      refine c_skip ?_
      refine k_seq ?_
      refine c_region ?_
      refine s_val hS (by decide) rfl rfl (r_move hS rfl) ?_; clear hS; intro a hS
      refine s_val hS (by decide) rfl rfl (r_move hS rfl) ?_; clear hS; intro a hS
      refine s_val hS (by decide) rfl rfl (r_move hS rfl) ?_; clear hS; intro a hS
      refine s_val hS (by decide) rfl rfl (r_bv hS rfl rfl gU (b_shlU _ _ _ (BitVec.toNat _))) ?_; clear hS; intro a hS
      refine s_val hS (by decide) rfl rfl (r_bv hS rfl rfl gU (b_orU _ _ _)) ?_; clear hS; intro a hS
      refine s_val hS (by decide) rfl rfl (r_assign hS rfl) ?_; clear hS; intro a hS
      refine s_nil ?_
      refine k_in ?_
      refine k_seq ?_
      refine c_region ?_
      refine s_val hS (by decide) rfl rfl (r_move hS rfl) ?_; clear hS; intro a hS
      refine s_val hS (by decide) rfl rfl (r_bv hS rfl (show ev _ _ = some (U 1#64) from rfl) gU (b_addU _ _ _)) ?_; clear hS; intro a hS
      refine s_val hS (by decide) rfl rfl (r_assign hS rfl) ?_; clear hS; intro a hS
      refine s_nil ?_
      refine k_then ?_
      refine ⟨k + 1, by omega, by omega, hS.to _ ⟨rfl, rfl, rfl, congrArg (fun v => some (U v)) (by simp only [e64] at hc' ⊢; first | exact (by rw [chTo, if_pos hc']) | exact (by rw [chTo, if_neg hc'])), congrArg (fun v => some (U v)) (by apply BitVec.eq_of_toNat_eq; simp only [BitVec.toNat_add, BitVec.toNat_ofNat]; omega), trivial⟩, hM⟩
  · obtain rfl : k = 64 := by have := of_decide_eq_false hc; simp only [e64] at this; have h' : ¬ k < 64 := this; omega
    refine c_exit ?_
    refine k_thenx ?_
    refine k_thenx ?_
    refine k_inx ?_
    refine k_seq ?_
    refine c_seq ?_
    refine c_region ?_
    refine s_val hS (by decide) rfl rfl (r_move hS rfl) ?_; clear hS; intro a hS
    refine s_val hS (by decide) rfl rfl (r_assign hS rfl) ?_; clear hS; intro a hS
    refine s_nil ?_
    refine k_seq ?_
    refine c_ret ?_
    exact k_res1 hS rfl (RV.tmp rfl) ⟨rfl, hM.done trivial⟩

set_option maxRecDepth 100000 in
theorem rmaj_ok (x y z : BitVec 64) (w0 : World) : Pure Try.prog 26 #[U x, U y, U z] w0 (U (majTo x y z 64)) := by
  refine ⟨by kernel_rfl, ?_⟩
  refine calls_sym Try.func26 rfl (by kernel_rfl) ?_
  intro a hS
  have hM : Mem w0 w0 [] := Mem.refl w0
  refine c_seq ?_
  refine c_region ?_
  refine s_val hS (by decide) rfl rfl (r_assign hS (show ev _ _ = some (U 0#64) from rfl)) ?_; clear hS; intro a hS
  refine s_nil ?_
  refine k_seq ?_
  refine c_seq ?_
  refine c_region ?_
  refine s_val hS (by decide) rfl rfl (r_assign hS (show ev _ _ = some (U 0#64) from rfl)) ?_; clear hS; intro a hS
  refine s_nil ?_
  refine k_seq ?_
  refine c_seq ?_
  refine c_seq ?_
  refine c_region ?_
  refine s_val hS (by decide) rfl rfl (r_assign hS (show ev _ _ = some (U 0#64) from rfl)) ?_; clear hS; intro a hS
  refine s_nil ?_
  refine k_seq ?_
  refine c_block ?_
  refine c_loop (σ := Nat) (fun k a w => (k ≤ 64) ∧ Slots a 33 (env [(0, U x), (1, U y), (2, U z), (7, U (majTo x y z k)), (8, U (BitVec.ofNat 64 k))]) ∧ Mem w0 w ([])) (fun k => 64 - k) (0) ⟨by omega, hS.to _ ⟨rfl, rfl, rfl, rfl, rfl, trivial⟩, hM⟩ ?_
  clear hS hM; rintro k a w ⟨hk, hS, hM⟩
  have e64 : (BitVec.ofNat 64 k).toNat = k := by rw [BitVec.toNat_ofNat]; omega
  refine c_seq ?_
  refine c_seq ?_
  refine c_region ?_
  refine s_val hS (by decide) rfl rfl (r_move hS rfl) ?_; clear hS; intro a hS
  refine s_val hS (by decide) rfl rfl (r_bv hS rfl (show ev _ _ = some (U 64#64) from rfl) gU (b_lssU _ _ _)) ?_; clear hS; intro a hS
  refine s_nil ?_
  refine k_seq ?_
  refine c_cond hS rfl (fun hc => ?_) (fun hc => ?_)
  · have hk1 : k < 64 := by have := of_decide_eq_true hc; simp only [e64] at this; exact this
    refine c_skip ?_
    refine k_seq ?_
    refine c_seq ?_
    refine c_block ?_
    refine c_seq ?_
    refine c_region ?_
    refine s_val hS (by decide) rfl rfl (r_move hS rfl) ?_; clear hS; intro a hS
    refine s_val hS (by decide) rfl rfl (r_move hS rfl) ?_; clear hS; intro a hS
    refine s_val hS (by decide) rfl rfl (r_bv hS rfl rfl gU (b_shrU _ _ _ (BitVec.toNat _))) ?_; clear hS; intro a hS
    refine s_val hS (by decide) rfl rfl (r_bv hS rfl (show ev _ _ = some (U 1#64) from rfl) gU (b_andU _ _ _)) ?_; clear hS; intro a hS
    refine s_val hS (by decide) rfl rfl (r_move hS rfl) ?_; clear hS; intro a hS
    refine s_val hS (by decide) rfl rfl (r_move hS rfl) ?_; clear hS; intro a hS
    refine s_val hS (by decide) rfl rfl (r_bv hS rfl rfl gU (b_shrU _ _ _ (BitVec.toNat _))) ?_; clear hS; intro a hS
    refine s_val hS (by decide) rfl rfl (r_bv hS rfl (show ev _ _ = some (U 1#64) from rfl) gU (b_andU _ _ _)) ?_; clear hS; intro a hS
    refine s_val hS (by decide) rfl rfl (r_bv hS rfl rfl gU (b_addU _ _ _)) ?_; clear hS; intro a hS
    refine s_val hS (by decide) rfl rfl (r_move hS rfl) ?_; clear hS; intro a hS
    refine s_val hS (by decide) rfl rfl (r_move hS rfl) ?_; clear hS; intro a hS
    refine s_val hS (by decide) rfl rfl (r_bv hS rfl rfl gU (b_shrU _ _ _ (BitVec.toNat _))) ?_; clear hS; intro a hS
    refine s_val hS (by decide) rfl rfl (r_bv hS rfl (show ev _ _ = some (U 1#64) from rfl) gU (b_andU _ _ _)) ?_; clear hS; intro a hS
    refine s_val hS (by decide) rfl rfl (r_bv hS rfl rfl gU (b_addU _ _ _)) ?_; clear hS; intro a hS
    refine s_val hS (by decide) rfl rfl (r_bv hS rfl (show ev _ _ = some (U 2#64) from rfl) gU (b_geqU _ _ _)) ?_; clear hS; intro a hS
    refine s_nil ?_
    refine k_seq ?_
    refine c_cond hS rfl (fun hc => ?_) (fun hc => ?_)
    · have hc' := of_decide_eq_true hc
      refine c_region ?_
      refine s_val hS (by decide) rfl rfl (r_move hS rfl) ?_; clear hS; intro a hS
      refine s_val hS (by decide) rfl rfl (r_move hS rfl) ?_; clear hS; intro a hS
      refine s_val hS (by decide) rfl rfl (r_bv hS (show ev _ _ = some (U 1#64) from rfl) rfl gU (b_shlU _ _ _ (BitVec.toNat _))) ?_; clear hS; intro a hS
      refine s_val hS (by decide) rfl rfl (r_bv hS rfl rfl gU (b_orU _ _ _)) ?_; clear hS; intro a hS
      refine s_val hS (by decide) rfl rfl (r_assign hS rfl) ?_; clear hS; intro a hS
      refine s_nil ?_
      refine k_in ?_
      refine k_seq ?_
      refine c_region ?_
      refine s_val hS (by decide) rfl rfl (r_move hS rfl) ?_; clear hS; intro a hS
      refine s_val hS (by decide) rfl rfl (r_bv hS rfl (show ev _ _ = some (U 1#64) from rfl) gU (b_addU _ _ _)) ?_; clear hS; intro a hS
      refine s_val hS (by decide) rfl rfl (r_assign hS rfl) ?_; clear hS; intro a hS
      refine s_nil ?_
      refine k_then ?_
      refine ⟨k + 1, by omega, by omega, hS.to _ ⟨rfl, rfl, rfl, congrArg (fun v => some (U v)) (by simp only [e64] at hc' ⊢; first | exact (if_pos hc').symm | exact (if_neg hc').symm), congrArg (fun v => some (U v)) (by apply BitVec.eq_of_toNat_eq; simp only [BitVec.toNat_add, BitVec.toNat_ofNat]; omega), trivial⟩, hM⟩
    · have hc' := of_decide_eq_false hc
      refine c_skip ?_
      refine k_in ?_
      refine k_seq ?_
      refine c_region ?_
      refine s_val hS (by decide) rfl rfl (r_move hS rfl) ?_; clear hS; intro a hS
      refine s_val hS (by decide) rfl rfl (r_bv hS rfl (show ev _ _ = some (U 1#64) from rfl) gU (b_addU _ _ _)) ?_; clear hS; intro a hS
      refine s_val hS (by decide) rfl rfl (r_assign hS rfl) ?_; clear hS; intro a hS
      refine s_nil ?_
      refine k_then ?_
      refine ⟨k + 1, by omega, by omega, hS.to _ ⟨rfl, rfl, rfl, congrArg (fun v => some (U v)) (by simp only [e64] at hc' ⊢; first | exact (if_pos hc').symm | exact (if_neg hc').symm), congrArg (fun v => some (U v)) (by apply BitVec.eq_of_toNat_eq; simp only [BitVec.toNat_add, BitVec.toNat_ofNat]; omega), trivial⟩, hM⟩
  · obtain rfl : k = 64 := by have := of_decide_eq_false hc; simp only [e64] at this; have h' : ¬ k < 64 := this; omega
    refine c_exit ?_
    refine k_thenx ?_
    refine k_thenx ?_
    refine k_inx ?_
    refine k_seq ?_
    refine c_seq ?_
    refine c_region ?_
    refine s_val hS (by decide) rfl rfl (r_move hS rfl) ?_; clear hS; intro a hS
    refine s_val hS (by decide) rfl rfl (r_assign hS rfl) ?_; clear hS; intro a hS
    refine s_nil ?_
    refine k_seq ?_
    refine c_ret ?_
    exact k_res1 hS rfl (RV.tmp rfl) ⟨rfl, hM.done trivial⟩

set_option maxRecDepth 100000 in
theorem rk_ok  (w0 : World) : Pure Try.prog 44 #[] w0 (.agg (cU 80 rk).toArray) := by
  refine ⟨by kernel_rfl, ?_⟩
  refine calls_sym Try.func44 rfl (by kernel_rfl) ?_
  intro a hS
  have hM : Mem w0 w0 [] := Mem.refl w0
  refine c_seq ?_
  refine c_region ?_
  refine s_alloc hS hM (by decide) zero33 ?_; clear hS hM; intro a b0 w hb0 hS hM
  refine s_nil ?_
  refine k_seq ?_
  refine c_seq ?_
  refine c_region ?_
  refine s_val hS (by decide) rfl rfl (r_build hS (vs := [(0, U 4794697086780616226#64), (1, U 8158064640168781261#64), (2, U 13096744586834688815#64), (3, U 16840607885511220156#64), (4, U 4131703408338449720#64), (5, U 6480981068601479193#64), (6, U 10538285296894168987#64), (7, U 12329834152419229976#64), (8, U 15566598209576043074#64), (9, U 1334009975649890238#64), (10, U 2608012711638119052#64), (11, U 6128411473006802146#64), (12, U 8268148722764581231#64), (13, U 9286055187155687089#64), (14, U 11230858885718282805#64), (15, U 13951009754708518548#64), (16, U 16472876342353939154#64), (17, U 17275323862435702243#64), (18, U 1135362057144423861#64), (19, U 2597628984639134821#64), (20, U 3308224258029322869#64), (21, U 5365058923640841347#64), (22, U 6679025012923562964#64), (23, U 8573033837759648693#64), (24, U 10970295158949994411#64), (25, U 12119686244451234320#64), (26, U 12683024718118986047#64), (27, U 13788192230050041572#64), (28, U 14330467153632333762#64), (29, U 15395433587784984357#64), (30, U 489312712824947311#64), (31, U 1452737877330783856#64), (32, U 2861767655752347644#64), (33, U 3322285676063803686#64), (34, U 5560940570517711597#64), (35, U 5996557281743188959#64), (36, U 7280758554555802590#64), (37, U 8532644243296465576#64), (38, U 9350256976987008742#64), (39, U 10552545826968843579#64), (40, U 11727347734174303076#64), (41, U 12113106623233404929#64), (42, U 14000437183269869457#64), (43, U 14369950271660146224#64), (44, U 15101387698204529176#64), (45, U 15463397548674623760#64), (46, U 17586052441742319658#64), (47, U 1182934255886127544#64), (48, U 1847814050463011016#64), (49, U 2177327727835720531#64), (50, U 2830643537854262169#64), (51, U 3796741975233480872#64), (52, U 4115178125766777443#64), (53, U 5681478168544905931#64), (54, U 6601373596472566643#64), (55, U 7507060721942968483#64), (56, U 8399075790359081724#64), (57, U 8693463985226723168#64), (58, U 9568029438360202098#64), (59, U 10144078919501101548#64), (60, U 10430055236837252648#64), (61, U 11840083180663258601#64), (62, U 13761210420658862357#64), (63, U 14299343276471374635#64), (64, U 14566680578165727644#64), (65, U 15097957966210449927#64), (66, U 16922976911328602910#64), (67, U 17689382322260857208#64), (68, U 500013540394364858#64), (69, U 748580250866718886#64), (70, U 1242879168328830382#64), (71, U 1977374033974150939#64), (72, U 2944078676154940804#64), (73, U 3659926193048069267#64), (74, U 4368137639120453308#64), (75, U 4836135668995329356#64), (76, U 5532061633213252278#64), (77, U 6448918945643986474#64), (78, U 6902733635092675308#64), (79, U 7801388544844847127#64)]) rfl (build33 _ _ _ _ _ _ _ _ _ _ _ _ _ _ _ _ _ _ _ _ _ _ _ _ _ _ _ _ _ _ _ _ _ _ _ _ _ _ _ _ _ _ _ _ _ _ _ _ _ _ _ _ _ _ _ _ _ _ _ _ _ _ _ _ _ _ _ _ _ _ _ _ _ _ _ _ _ _ _ _)) ?_; clear hS; intro a hS
  refine s_storeAll hS hM rfl rfl (j := 0) rfl sz33 cells_len cells_len cU_one ?_; clear hS hM; intro a w hS hM
  refine s_nil ?_
  refine k_seq ?_
  refine c_ret ?_
  exact k_res1 hS rfl (RV.row rfl (hM.have_ _ (mem_of_get (j := 0) rfl)) Try.underlying33 rfl (by rw [sz33]; exact congrArg some cells_len.symm)) ⟨rfl, hM.done ⟨hb0, trivial⟩⟩

set_option maxRecDepth 100000 in
theorem rrk_ok  (w0 : World) : Pure Try.prog 46 #[] w0 (.agg (cU 80 rk).toArray) := by
  refine ⟨by kernel_rfl, ?_⟩
  refine calls_sym Try.func46 rfl (by kernel_rfl) ?_
  intro a hS
  have hM : Mem w0 w0 [] := Mem.refl w0
  refine c_seq ?_
  refine c_region ?_
  refine s_alloc hS hM (by decide) zero33 ?_; clear hS hM; intro a b0 w hb0 hS hM
  refine s_nil ?_
  refine k_seq ?_
  refine c_seq ?_
  refine c_region ?_
  refine s_val hS (by decide) rfl rfl (r_build hS (vs := [(0, U 4794697086780616226#64), (1, U 8158064640168781261#64), (2, U 13096744586834688815#64), (3, U 16840607885511220156#64), (4, U 4131703408338449720#64), (5, U 6480981068601479193#64), (6, U 10538285296894168987#64), (7, U 12329834152419229976#64), (8, U 15566598209576043074#64), (9, U 1334009975649890238#64), (10, U 2608012711638119052#64), (11, U 6128411473006802146#64), (12, U 8268148722764581231#64), (13, U 9286055187155687089#64), (14, U 11230858885718282805#64), (15, U 13951009754708518548#64), (16, U 16472876342353939154#64), (17, U 17275323862435702243#64), (18, U 1135362057144423861#64), (19, U 2597628984639134821#64), (20, U 3308224258029322869#64), (21, U 5365058923640841347#64), (22, U 6679025012923562964#64), (23, U 8573033837759648693#64), (24, U 10970295158949994411#64), (25, U 12119686244451234320#64), (26, U 12683024718118986047#64), (27, U 13788192230050041572#64), (28, U 14330467153632333762#64), (29, U 15395433587784984357#64), (30, U 489312712824947311#64), (31, U 1452737877330783856#64), (32, U 2861767655752347644#64), (33, U 3322285676063803686#64), (34, U 5560940570517711597#64), (35, U 5996557281743188959#64), (36, U 7280758554555802590#64), (37, U 8532644243296465576#64), (38, U 9350256976987008742#64), (39, U 10552545826968843579#64), (40, U 11727347734174303076#64), (41, U 12113106623233404929#64), (42, U 14000437183269869457#64), (43, U 14369950271660146224#64), (44, U 15101387698204529176#64), (45, U 15463397548674623760#64), (46, U 17586052441742319658#64), (47, U 1182934255886127544#64), (48, U 1847814050463011016#64), (49, U 2177327727835720531#64), (50, U 2830643537854262169#64), (51, U 3796741975233480872#64), (52, U 4115178125766777443#64), (53, U 5681478168544905931#64), (54, U 6601373596472566643#64), (55, U 7507060721942968483#64), (56, U 8399075790359081724#64), (57, U 8693463985226723168#64), (58, U 9568029438360202098#64), (59, U 10144078919501101548#64), (60, U 10430055236837252648#64), (61, U 11840083180663258601#64), (62, U 13761210420658862357#64), (63, U 14299343276471374635#64), (64, U 14566680578165727644#64), (65, U 15097957966210449927#64), (66, U 16922976911328602910#64), (67, U 17689382322260857208#64), (68, U 500013540394364858#64), (69, U 748580250866718886#64), (70, U 1242879168328830382#64), (71, U 1977374033974150939#64), (72, U 2944078676154940804#64), (73, U 3659926193048069267#64), (74, U 4368137639120453308#64), (75, U 4836135668995329356#64), (76, U 5532061633213252278#64), (77, U 6448918945643986474#64), (78, U 6902733635092675308#64), (79, U 7801388544844847127#64)]) rfl (build33 _ _ _ _ _ _ _ _ _ _ _ _ _ _ _ _ _ _ _ _ _ _ _ _ _ _ _ _ _ _ _ _ _ _ _ _ _ _ _ _ _ _ _ _ _ _ _ _ _ _ _ _ _ _ _ _ _ _ _ _ _ _ _ _ _ _ _ _ _ _ _ _ _ _ _ _ _ _ _ _)) ?_; clear hS; intro a hS
  refine s_storeAll hS hM rfl rfl (j := 0) rfl sz33 cells_len cells_len cU_one ?_; clear hS hM; intro a w hS hM
  refine s_nil ?_
  refine k_seq ?_
  refine c_ret ?_
  exact k_res1 hS rfl (RV.row rfl (hM.have_ _ (mem_of_get (j := 0) rfl)) Try.underlying33 rfl (by rw [sz33]; exact congrArg some cells_len.symm)) ⟨rfl, hM.done ⟨hb0, trivial⟩⟩

set_option maxRecDepth 100000 in
theorem schedule_ok (m : Nat → BitVec 64) (w0 : World) : Pure Try.prog 20 #[.agg (cU 16 m).toArray] w0 (.agg (cU 80 (schTo m 80)).toArray) := by
  refine ⟨by kernel_rfl, ?_⟩
  refine calls_sym Try.func20 rfl (by kernel_rfl) ?_
  intro a hS
  have hM : Mem w0 w0 [] := Mem.refl w0
  refine c_seq ?_
  refine c_region ?_
  refine s_box hS hM (by decide) rfl rfl ?_; clear hS hM; intro a b1 w hb1 hS hM
  refine s_alloc hS hM (by decide) zero33 ?_; clear hS hM; intro a b2 w hb2 hS hM
  refine s_nil ?_
  refine k_seq ?_
  refine c_seq ?_
  refine c_region ?_
  refine s_alloc hS hM (by decide) zero33 ?_; clear hS hM; intro a b3 w hb3 hS hM
  refine s_nil ?_
  refine k_seq ?_
  refine c_seq ?_
  refine c_plan 2 (fun w => Mem w0 w _) [(3, _), (1, _), (2, _)] (by kernel_rfl) (by kernel_rfl) hS ⟨rfl, rfl, rfl, trivial⟩ (hM.drawn _) ?_; clear hS hM
  refine p_step rfl (fun a w hS hM => y_val rfl (r_sliceA0 hS rfl Try.underlying33 sz24)) ?_
  refine p_step rfl (fun a w hS hM => y_val rfl (r_sliceA0 hS rfl Try.underlying25 sz24)) ?_
  refine p_nil rfl ?_; intro a w hS hM
  refine s_copy hS hM (by decide) rfl rfl Try.underlying65 sz24 (j := 0) rfl (Rd.of_mem hM (j := 2) (o := 0) rfl (Nat.le_refl _) (fun i hi => by rw [Nat.zero_add]; exact cells_get hi)) (fun _ _ => rfl) (by simp only [cells_len]; decide) ?_; clear hS hM; intro a w hS hM
  replace hM := hM.congr (L' := [⟨b3, 33, cU 80 (schTo m 16)⟩, ⟨b2, 33, cU 80 (fun _ => 0)⟩, ⟨b1, 25, cU 16 m⟩]) (congrArg (fun c => [(⟨b3, 33, c⟩ : Blk), ⟨b2, 33, cU 80 (fun _ => 0)⟩, ⟨b1, 25, cU 16 m⟩]) (by rw [show min 16 80 = 16 from rfl, splice_cells (by decide)]; refine cells_congr fun i _ => ?_; rw [schTo_16]; by_cases h : i < 16 <;> simp [h]))
  refine s_nil ?_
  refine k_seq ?_
  refine c_seq ?_
  refine c_seq ?_
  refine c_region ?_
  refine s_val hS (by decide) rfl rfl (r_assign hS (show ev _ _ = some (N 16) from rfl)) ?_; clear hS; intro a hS
  refine s_nil ?_
  refine k_seq ?_
  refine c_block ?_
  refine c_loop (σ := Nat) (fun k a w => (16 ≤ k ∧ k ≤ 80) ∧ Slots a 36 (env [(2, ptr b2 0), (3, ptr b3 0), (4, N k)]) ∧ Mem w0 w ([⟨b3, 33, cU 80 (schTo m k)⟩, ⟨b2, 33, cU 80 (fun _ => 0)⟩, ⟨b1, 25, cU 16 m⟩])) (fun k => 80 - k) (16) ⟨by omega, hS.to _ ⟨rfl, rfl, rfl, trivial⟩, hM⟩ ?_
  clear hS hM; rintro k a w ⟨hk, hS, hM⟩
  refine c_seq ?_
  refine c_seq ?_
  refine c_region ?_
  refine s_val hS (by decide) rfl rfl (r_move hS rfl) ?_; clear hS; intro a hS
  refine s_val hS (by decide) rfl rfl (r_bv hS rfl (show ev _ _ = some (N 80) from rfl) gN (b_lssN _ _ _)) ?_; clear hS; intro a hS
  refine s_nil ?_
  refine k_seq ?_
  refine c_cond hS rfl (fun hc => ?_) (fun hc => ?_)
  · have hk1 := of_decide_eq_true hc
    refine c_skip ?_
    refine k_seq ?_
    refine c_seq ?_
    refine c_block ?_
    refine c_plan 23 (fun w => Mem w0 w _) [(4, _), (3, _), (2, _), (8, _), (9, _)] (by kernel_rfl) (by kernel_rfl) hS ⟨rfl, rfl, rfl, rfl, rfl, trivial⟩ (hM.drawn _) ?_; clear hS hM
    refine p_step rfl (fun a w hS hM => y_val rfl (r_move hS rfl)) ?_
    refine p_step rfl (fun a w hS hM => y_val rfl (r_move hS rfl)) ?_
    refine p_step rfl (fun a w hS hM => y_val rfl (r_bv hS rfl (show ev _ _ = some (N 2) from rfl) gN (b_subN _ _ _ (by omega) (by omega)))) ?_
    refine p_step rfl (fun a w hS hM => y_val rfl (r_index0 hS rfl rfl Try.underlying33 sz24 (by omega))) ?_
    refine p_step rfl (fun a w hS hM => y_val rfl (r_load hS hM rfl (j := 0) rfl Try.underlying24 rfl (cells_get (by omega)))) ?_
    refine p_step rfl (fun a w hS hM => y_call (by kernel_rfl) hS (vs := [_, N 19, N 61, N 6]) rfl ((small_ok _ _ _ _ (by omega) _).mem hM)) ?_
    refine p_step rfl (fun a w hS hM => y_val rfl (r_move hS rfl)) ?_
    refine p_step rfl (fun a w hS hM => y_val rfl (r_bv hS rfl (show ev _ _ = some (N 7) from rfl) gN (b_subN _ _ _ (by omega) (by omega)))) ?_
    refine p_step rfl (fun a w hS hM => y_val rfl (r_index0 hS rfl rfl Try.underlying33 sz24 (by omega))) ?_
    refine p_step rfl (fun a w hS hM => y_val rfl (r_load hS hM rfl (j := 0) rfl Try.underlying24 rfl (cells_get (by omega)))) ?_
    refine p_step rfl (fun a w hS hM => y_val rfl (r_bv hS rfl rfl gU (b_addU _ _ _))) ?_
    refine p_step rfl (fun a w hS hM => y_val rfl (r_move hS rfl)) ?_
    refine p_step rfl (fun a w hS hM => y_val rfl (r_bv hS rfl (show ev _ _ = some (N 15) from rfl) gN (b_subN _ _ _ (by omega) (by omega)))) ?_
    refine p_step rfl (fun a w hS hM => y_val rfl (r_index0 hS rfl rfl Try.underlying33 sz24 (by omega))) ?_
    refine p_step rfl (fun a w hS hM => y_val rfl (r_load hS hM rfl (j := 0) rfl Try.underlying24 rfl (cells_get (by omega)))) ?_
    refine p_step rfl (fun a w hS hM => y_call (by kernel_rfl) hS (vs := [_, N 1, N 8, N 7]) rfl ((small_ok _ _ _ _ (by omega) _).mem hM)) ?_
    refine p_step rfl (fun a w hS hM => y_val rfl (r_bv hS rfl rfl gU (b_addU _ _ _))) ?_
    refine p_step rfl (fun a w hS hM => y_val rfl (r_move hS rfl)) ?_
    refine p_step rfl (fun a w hS hM => y_val rfl (r_bv hS rfl (show ev _ _ = some (N 16) from rfl) gN (b_subN _ _ _ (by omega) (by omega)))) ?_
    refine p_step rfl (fun a w hS hM => y_val rfl (r_index0 hS rfl rfl Try.underlying33 sz24 (by omega))) ?_
    refine p_step rfl (fun a w hS hM => y_val rfl (r_load hS hM rfl (j := 0) rfl Try.underlying24 rfl (cells_get (by omega)))) ?_
    refine p_step rfl (fun a w hS hM => y_val rfl (r_bv hS rfl rfl gU (b_addU _ _ _))) ?_
    refine p_step rfl (fun a w hS hM => y_val rfl (r_index0 hS rfl rfl Try.underlying33 sz24 (by omega))) ?_
    refine p_nil rfl ?_; intro a w hS hM
    refine s_storeU hS hM rfl rfl (j := 0) rfl sz24 (by omega) ?_; clear hS hM; intro a w hS hM
    refine s_nil ?_
    refine k_in ?_
    refine k_seq ?_
    refine c_region ?_
    refine s_val hS (by decide) rfl rfl (r_move hS rfl) ?_; clear hS; intro a hS
    refine s_val hS (by decide) rfl rfl (r_bv hS rfl (show ev _ _ = some (N 1) from rfl) gN (b_addN _ _ _ (by omega))) ?_; clear hS; intro a hS
    refine s_val hS (by decide) rfl rfl (r_assign hS rfl) ?_; clear hS; intro a hS
    refine s_nil ?_
    refine k_then ?_
    refine ⟨k + 1, by omega, by omega, hS.to _ ⟨rfl, rfl, rfl, trivial⟩, (hM.congr (by rw [schTo_high m k hk.1]; rfl))⟩
  · obtain rfl : k = 80 := by have := of_decide_eq_false hc; omega
    refine c_exit ?_
    refine k_thenx ?_
    refine k_thenx ?_
    refine k_inx ?_
    refine k_seq ?_
    refine c_seq ?_
    refine c_region ?_
    refine s_val hS (by decide) rfl rfl (r_loadAll hS hM rfl (j := 0) rfl Try.underlying33 rfl sz33 cells_len) ?_; clear hS; intro a hS
    refine s_storeAll hS hM rfl rfl (j := 1) rfl sz33 cells_len cells_len cU_one ?_; clear hS hM; intro a w hS hM
    refine s_nil ?_
    refine k_seq ?_
    refine c_ret ?_
    exact k_res1 hS rfl (RV.row rfl (hM.have_ _ (mem_of_get (j := 1) rfl)) Try.underlying33 rfl (by rw [sz33]; exact congrArg some cells_len.symm)) ⟨rfl, hM.done ⟨hb3, hb2, hb1, trivial⟩⟩

set_option maxRecDepth 100000 in
theorem rschedule_ok (m : Nat → BitVec 64) (w0 : World) : Pure Try.prog 23 #[.agg (cU 16 m).toArray] w0 (.agg (cU 80 (schTo m 80)).toArray) := by
  refine ⟨by kernel_rfl, ?_⟩
  refine calls_sym Try.func23 rfl (by kernel_rfl) ?_
  intro a hS
  have hM : Mem w0 w0 [] := Mem.refl w0
  refine c_seq ?_
  refine c_region ?_
  refine s_box hS hM (by decide) rfl rfl ?_; clear hS hM; intro a b1 w hb1 hS hM
  refine s_alloc hS hM (by decide) zero33 ?_; clear hS hM; intro a b2 w hb2 hS hM
  refine s_nil ?_
  refine k_seq ?_
  refine c_seq ?_
  refine c_region ?_
  refine s_val hS (by decide) rfl rfl (r_build hS rfl (cs := cU 80 (fun _ => 0)) (fun _ => by kernel_rfl)) ?_; clear hS; intro a hS
  refine s_alloc hS hM (by decide) zero33 ?_; clear hS hM; intro a b3 w hb3 hS hM
  refine s_storeAll hS hM rfl rfl (j := 0) rfl sz33 cells_len cells_len cU_one ?_; clear hS hM; intro a w hS hM
  refine s_nil ?_
  refine k_seq ?_
  refine c_seq ?_
  refine c_seq ?_
  refine c_region ?_
  refine s_val hS (by decide) rfl rfl (r_assign hS (show ev _ _ = some (N 0) from rfl)) ?_; clear hS; intro a hS
  refine s_nil ?_
  refine k_seq ?_
  refine c_block ?_
  refine c_loop (σ := Nat) (fun k a w => (k ≤ 80) ∧ Slots a 57 (env [(1, ptr b1 0), (2, ptr b2 0), (3, ptr b3 0), (4, N k)]) ∧ Mem w0 w ([⟨b3, 33, cU 80 (schTo m k)⟩, ⟨b2, 33, cU 80 (fun _ => 0)⟩, ⟨b1, 25, cU 16 m⟩])) (fun k => 80 - k) (0) ⟨by omega, hS.to _ ⟨rfl, rfl, rfl, rfl, trivial⟩, hM⟩ ?_
  clear hS hM; rintro k a w ⟨hk, hS, hM⟩
  refine c_seq ?_
  refine c_seq ?_
  refine c_region ?_
  refine s_val hS (by decide) rfl rfl (r_move hS rfl) ?_; clear hS; intro a hS
  refine s_val hS (by decide) rfl rfl (r_bv hS rfl (show ev _ _ = some (N 80) from rfl) gN (b_lssN _ _ _)) ?_; clear hS; intro a hS
  refine s_nil ?_
  refine k_seq ?_
  refine c_cond hS rfl (fun hc => ?_) (fun hc => ?_)
  · have hk1 := of_decide_eq_true hc
    refine c_skip ?_
    refine k_seq ?_
    refine c_seq ?_
    refine c_block ?_
    refine c_seq ?_
    refine c_seq ?_
    refine c_region ?_
    refine s_val hS (by decide) rfl rfl (r_move hS rfl) ?_; clear hS; intro a hS
    refine s_val hS (by decide) rfl rfl (r_bv hS rfl (show ev _ _ = some (N 16) from rfl) gN (b_lssN _ _ _)) ?_; clear hS; intro a hS
    refine s_nil ?_
    refine k_seq ?_
    refine c_cond hS rfl (fun hc => ?_) (fun hc => ?_)
    · have hc' := of_decide_eq_true hc
      refine c_seq ?_
      refine c_region ?_
      refine s_val hS (by decide) rfl rfl (r_move hS rfl) ?_; clear hS; intro a hS
      refine s_val hS (by decide) rfl rfl (r_move hS rfl) ?_; clear hS; intro a hS
      refine s_val hS (by decide) rfl rfl (r_index0 hS rfl rfl Try.underlying25 sz24 (by omega)) ?_; clear hS; intro a hS
      refine s_val hS (by decide) rfl rfl (r_load hS hM rfl (j := 2) rfl Try.underlying24 rfl (cells_get (by omega))) ?_; clear hS; intro a hS
      refine s_val hS (by decide) rfl rfl (r_index0 hS rfl rfl Try.underlying33 sz24 (by omega)) ?_; clear hS; intro a hS
      refine s_storeU hS hM rfl rfl (j := 0) rfl sz24 (by omega) ?_; clear hS hM; intro a w hS hM
      refine s_nil ?_
      refine k_seq ?_
      refine c_exit ?_
      refine k_thenx ?_
      refine k_inx ?_
      refine k_seq ?_
      refine c_region ?_
      refine s_val hS (by decide) rfl rfl (r_move hS rfl) ?_; clear hS; intro a hS
      refine s_val hS (by decide) rfl rfl (r_bv hS rfl (show ev _ _ = some (N 1) from rfl) gN (b_addN _ _ _ (by omega))) ?_; clear hS; intro a hS
      refine s_val hS (by decide) rfl rfl (r_assign hS rfl) ?_; clear hS; intro a hS
      refine s_nil ?_
      refine k_then ?_
      refine ⟨k + 1, by omega, by omega, hS.to _ ⟨rfl, rfl, rfl, rfl, trivial⟩, (hM.congr (by first | (rw [schTo_low m k hc']; rfl) | (rw [schTo_high m k (by omega)]; rfl)))⟩
    · have hc' := of_decide_eq_false hc
      refine c_skip ?_
      refine k_seq ?_
      refine c_seq ?_
      refine c_region ?_
      refine s_val hS (by decide) rfl rfl (r_move hS rfl) ?_; clear hS; intro a hS
      refine s_val hS (by decide) rfl rfl (r_bv hS rfl (show ev _ _ = some (N 15) from rfl) gN (b_subN _ _ _ (by omega) (by omega))) ?_; clear hS; intro a hS
      refine s_val hS (by decide) rfl rfl (r_index0 hS rfl rfl Try.underlying33 sz24 (by omega)) ?_; clear hS; intro a hS
      refine s_val hS (by decide) rfl rfl (r_load hS hM rfl (j := 0) rfl Try.underlying24 rfl (cells_get (by omega))) ?_; clear hS; intro a hS
      refine s_val hS (by decide) rfl rfl (r_assign hS rfl) ?_; clear hS; intro a hS
      refine s_nil ?_
      refine k_seq ?_
      refine c_seq ?_
      refine c_region ?_
      refine s_val hS (by decide) rfl rfl (r_move hS rfl) ?_; clear hS; intro a hS
      refine s_val hS (by decide) rfl rfl (r_bv hS rfl (show ev _ _ = some (N 2) from rfl) gN (b_subN _ _ _ (by omega) (by omega))) ?_; clear hS; intro a hS
      refine s_val hS (by decide) rfl rfl (r_index0 hS rfl rfl Try.underlying33 sz24 (by omega)) ?_; clear hS; intro a hS
      refine s_val hS (by decide) rfl rfl (r_load hS hM rfl (j := 0) rfl Try.underlying24 rfl (cells_get (by omega))) ?_; clear hS; intro a hS
      refine s_val hS (by decide) rfl rfl (r_assign hS rfl) ?_; clear hS; intro a hS
      refine s_nil ?_
      refine k_seq ?_
      refine c_plan 29 (fun w => Mem w0 w _) [(4, _), (6, _), (3, _), (5, _), (1, _), (2, _), (8, _), (9, _), (12, _), (13, _), (19, _), (20, _), (21, _), (22, _), (23, _), (24, _), (25, _), (26, _)] (by kernel_rfl) (by kernel_rfl) hS ⟨rfl, rfl, rfl, rfl, rfl, rfl, rfl, rfl, rfl, rfl, rfl, rfl, rfl, rfl, rfl, rfl, rfl, rfl, trivial⟩ (hM.drawn _) ?_; clear hS hM
      refine p_step rfl (fun a w hS hM => y_val rfl (r_move hS rfl)) ?_
      refine p_step rfl (fun a w hS hM => y_val rfl (r_move hS rfl)) ?_
      refine p_step rfl (fun a w hS hM => y_call (by kernel_rfl) hS (vs := [_, N 19]) rfl ((rrotr_ok _ _ (by omega) _).mem hM)) ?_
      refine p_step rfl (fun a w hS hM => y_val rfl (r_move hS rfl)) ?_
      refine p_step rfl (fun a w hS hM => y_call (by kernel_rfl) hS (vs := [_, N 61]) rfl ((rrotr_ok _ _ (by omega) _).mem hM)) ?_
      refine p_step rfl (fun a w hS hM => y_val rfl (r_bv hS rfl rfl gU (b_xorU _ _ _))) ?_
      refine p_step rfl (fun a w hS hM => y_val rfl (r_move hS rfl)) ?_
      refine p_step rfl (fun a w hS hM => y_val rfl (r_bv hS rfl (show ev _ _ = some (.int .u64 ((6 : Nat) : Int)) from rfl) gU (b_shrU _ _ _ 6))) ?_
      refine p_step rfl (fun a w hS hM => y_val rfl (r_bv hS rfl rfl gU (b_xorU _ _ _))) ?_
      refine p_step rfl (fun a w hS hM => y_val rfl (r_move hS rfl)) ?_
      refine p_step rfl (fun a w hS hM => y_val rfl (r_bv hS rfl (show ev _ _ = some (N 7) from rfl) gN (b_subN _ _ _ (by omega) (by omega)))) ?_
      refine p_step rfl (fun a w hS hM => y_val rfl (r_index0 hS rfl rfl Try.underlying33 sz24 (by omega))) ?_
      refine p_step rfl (fun a w hS hM => y_val rfl (r_load hS hM rfl (j := 0) rfl Try.underlying24 rfl (cells_get (by omega)))) ?_
      refine p_step rfl (fun a w hS hM => y_val rfl (r_bv hS rfl rfl gU (b_addU _ _ _))) ?_
      refine p_step rfl (fun a w hS hM => y_val rfl (r_move hS rfl)) ?_
      refine p_step rfl (fun a w hS hM => y_call (by kernel_rfl) hS (vs := [_, N 1]) rfl ((rrotr_ok _ _ (by omega) _).mem hM)) ?_
      refine p_step rfl (fun a w hS hM => y_val rfl (r_move hS rfl)) ?_
      refine p_step rfl (fun a w hS hM => y_call (by kernel_rfl) hS (vs := [_, N 8]) rfl ((rrotr_ok _ _ (by omega) _).mem hM)) ?_
      refine p_step rfl (fun a w hS hM => y_val rfl (r_bv hS rfl rfl gU (b_xorU _ _ _))) ?_
      refine p_step rfl (fun a w hS hM => y_val rfl (r_move hS rfl)) ?_
      refine p_step rfl (fun a w hS hM => y_val rfl (r_bv hS rfl (show ev _ _ = some (.int .u64 ((7 : Nat) : Int)) from rfl) gU (b_shrU _ _ _ 7))) ?_
      refine p_step rfl (fun a w hS hM => y_val rfl (r_bv hS rfl rfl gU (b_xorU _ _ _))) ?_
      refine p_step rfl (fun a w hS hM => y_val rfl (r_bv hS rfl rfl gU (b_addU _ _ _))) ?_
      refine p_step rfl (fun a w hS hM => y_val rfl (r_move hS rfl)) ?_
      refine p_step rfl (fun a w hS hM => y_val rfl (r_bv hS rfl (show ev _ _ = some (N 16) from rfl) gN (b_subN _ _ _ (by omega) (by omega)))) ?_
      refine p_step rfl (fun a w hS hM => y_val rfl (r_index0 hS rfl rfl Try.underlying33 sz24 (by omega))) ?_
      refine p_step rfl (fun a w hS hM => y_val rfl (r_load hS hM rfl (j := 0) rfl Try.underlying24 rfl (cells_get (by omega)))) ?_
      refine p_step rfl (fun a w hS hM => y_val rfl (r_bv hS rfl rfl gU (b_addU _ _ _))) ?_
      refine p_step rfl (fun a w hS hM => y_val rfl (r_index0 hS rfl rfl Try.underlying33 sz24 (by omega))) ?_
      refine p_nil rfl ?_; intro a w hS hM
      refine s_storeU hS hM rfl rfl (j := 0) rfl sz24 (by omega) ?_; clear hS hM; intro a w hS hM
      refine s_nil ?_
      refine k_in ?_
      refine k_seq ?_
      refine c_region ?_
      refine s_val hS (by decide) rfl rfl (r_move hS rfl) ?_; clear hS; intro a hS
      refine s_val hS (by decide) rfl rfl (r_bv hS rfl (show ev _ _ = some (N 1) from rfl) gN (b_addN _ _ _ (by omega))) ?_; clear hS; intro a hS
      refine s_val hS (by decide) rfl rfl (r_assign hS rfl) ?_; clear hS; intro a hS
      refine s_nil ?_
      refine k_then ?_
      refine ⟨k + 1, by omega, by omega, hS.to _ ⟨rfl, rfl, rfl, rfl, trivial⟩, (hM.congr (by first | (rw [schTo_low m k hc']; rfl) | (rw [schTo_high m k (by omega)]; rfl)))⟩
  · obtain rfl : k = 80 := by have := of_decide_eq_false hc; omega
    refine c_exit ?_
    refine k_thenx ?_
    refine k_thenx ?_
    refine k_inx ?_
    refine k_seq ?_
    refine c_seq ?_
    refine c_region ?_
    refine s_val hS (by decide) rfl rfl (r_loadAll hS hM rfl (j := 0) rfl Try.underlying33 rfl sz33 cells_len) ?_; clear hS; intro a hS
    refine s_storeAll hS hM rfl rfl (j := 1) rfl sz33 cells_len cells_len cU_one ?_; clear hS hM; intro a w hS hM
    refine s_nil ?_
    refine k_seq ?_
    refine c_ret ?_
    exact k_res1 hS rfl (RV.row rfl (hM.have_ _ (mem_of_get (j := 1) rfl)) Try.underlying33 rfl (by rw [sz33]; exact congrArg some cells_len.symm)) ⟨rfl, hM.done ⟨hb3, hb2, hb1, trivial⟩⟩

set_option maxRecDepth 100000 in
theorem step_ok (s m : Nat → BitVec 64) (w0 : World) : Pure Try.prog 21 #[.agg (cU 8 s).toArray, .agg (cU 16 m).toArray] w0 (.agg (cU 8 (sstep s m)).toArray) := by
  refine ⟨by kernel_rfl, ?_⟩
  refine calls_sym Try.func21 rfl (by kernel_rfl) ?_
  intro a hS
  have hM : Mem w0 w0 [] := Mem.refl w0
  refine c_seq ?_
  refine c_region ?_
  refine s_box hS hM (by decide) rfl rfl ?_; clear hS hM; intro a b2 w hb2 hS hM
  refine s_box hS hM (by decide) rfl rfl ?_; clear hS hM; intro a b3 w hb3 hS hM
  refine s_alloc hS hM (by decide) zero36 ?_; clear hS hM; intro a b4 w hb4 hS hM
  refine s_nil ?_
  refine k_seq ?_
  refine c_seq ?_
  refine c_gplan 5 (fun _ => [⟨b4, 36, cU 8 (fun _ => 0)⟩, ⟨b3, 25, cU 16 m⟩, ⟨b2, 36, cU 8 s⟩]) [(2, ptr b2 0), (3, ptr b3 0), (4, ptr b4 0)] (fun i V Bl => match i with | 0 => V 0 = .agg (cU 80 rk).toArray ∧ Bl 0 = [] | 1 => V 1 = .agg (cU 16 m).toArray ∧ Bl 1 = [] | 2 => V 2 = .agg (cU 80 (schTo m 80)).toArray ∧ Bl 2 = [] | 3 => ∃ b, V 3 = ptr b 0 ∧ Bl 3 = [⟨b, 33, cU 80 (fun _ => 0)⟩] | 4 => ∃ b, V 4 = ptr b 0 ∧ Bl 4 = [⟨b, 33, cU 80 (fun _ => 0)⟩] | _ => True) (by kernel_rfl) (by kernel_rfl) hS ⟨rfl, rfl, rfl, trivial⟩ hM ?_ ?_
  · clear hS hM
    refine ⟨?_, ?_, ?_, ?_, ?_, trivial⟩
    · intro S V Bl X a w hp hs hR hX hS hM hn
      exact gy_pure hS rfl (rk_ok _) hM fun w' hM' => ⟨⟨rfl, rfl⟩, (fun _ h => by cases h), hM'⟩
    · intro S V Bl X a w hp hs hR hX hS hM hn
      exact gy_val rfl (r_loadAll hS (hM.dropApp hn) rfl (j := 1) rfl Try.underlying25 rfl sz25 cells_len) ⟨⟨rfl, rfl⟩, (fun _ h => by cases h), hM⟩
    · intro S V Bl X a w hp hs hR hX hS hM hn
      have h1 : V 1 = .agg (cU 16 m).toArray := (hR 1 rfl).1
      replace hS := hS.to [(13, .agg (cU 16 m).toArray)] ⟨congrArg some h1, trivial⟩
      exact gy_pure hS rfl (schedule_ok _ _) hM fun w' hM' => ⟨⟨rfl, rfl⟩, (fun _ h => by cases h), hM'⟩
    · intro S V Bl X a w hp hs hR hX hS hM hn
      exact gy_alloc zero33 ⟨⟨_, rfl, rfl⟩, (fun e he => by simp only [List.mem_singleton] at he; subst he; exact hM.size), hM.alloc _ _⟩
    · intro S V Bl X a w hp hs hR hX hS hM hn
      exact gy_alloc zero33 ⟨⟨_, rfl, rfl⟩, (fun e he => by simp only [List.mem_singleton] at he; subst he; exact hM.size), hM.alloc _ _⟩
  clear hS hM; intro V Bl a w hR hN hS hM
  obtain ⟨v0, B0⟩ : V 0 = .agg (cU 80 rk).toArray ∧ Bl 0 = [] := hR 0 (by decide)
  have B1 : Bl 1 = [] := (hR 1 (by decide)).2
  obtain ⟨v2, B2⟩ : V 2 = .agg (cU 80 (schTo m 80)).toArray ∧ Bl 2 = [] := hR 2 (by decide)
  obtain ⟨b5, v3, B3⟩ : ∃ b, V 3 = ptr b 0 ∧ Bl 3 = [⟨b, 33, cU 80 (fun _ => 0)⟩] := hR 3 (by decide)
  obtain ⟨b6, v4, B4⟩ : ∃ b, V 4 = ptr b 0 ∧ Bl 4 = [⟨b, 33, cU 80 (fun _ => 0)⟩] := hR 4 (by decide)
  have hb5 : w0.heap.size ≤ b5 := hN 3 (by decide) _ (by rw [B3]; exact List.mem_singleton.2 rfl)
  have hb6 : w0.heap.size ≤ b6 := hN 4 (by decide) _ (by rw [B4]; exact List.mem_singleton.2 rfl)
  replace hS := hS.to [(12, .agg (cU 80 rk).toArray), (14, .agg (cU 80 (schTo m 80)).toArray), (5, ptr b5 0), (6, ptr b6 0), (2, ptr b2 0), (3, ptr b3 0), (4, ptr b4 0)] ⟨congrArg some v0, congrArg some v2, congrArg some v3, congrArg some v4, rfl, rfl, rfl, trivial⟩
  replace hM := hM.congr (L' := ⟨b5, 33, cU 80 (fun _ => 0)⟩ :: ⟨b6, 33, cU 80 (fun _ => 0)⟩ :: [⟨b4, 36, cU 8 (fun _ => 0)⟩, ⟨b3, 25, cU 16 m⟩, ⟨b2, 36, cU 8 s⟩]) (by show (Bl 0 ++ (Bl 1 ++ (Bl 2 ++ (Bl 3 ++ (Bl 4 ++ []))))) ++ _ = _; rw [B0, B1, B2, B3, B4]; rfl)
  clear hR hN v0 v2 v3 v4 B0 B1 B2 B3 B4
  refine s_storeAll hS hM rfl rfl (j := 0) rfl sz33 cells_len cells_len cU_one ?_; clear hS hM; intro a w hS hM
  refine s_storeAll hS hM rfl rfl (j := 1) rfl sz33 cells_len cells_len cU_one ?_; clear hS hM; intro a w hS hM
  refine s_nil ?_
  refine k_seq ?_
  refine c_seq ?_
  refine c_region ?_
  refine s_val hS (by decide) rfl rfl (r_loadAll hS hM rfl (j := 4) rfl Try.underlying36 rfl sz36 cells_len) ?_; clear hS; intro a hS
  refine s_alloc hS hM (by decide) zero36 ?_; clear hS hM; intro a b7 w hb7 hS hM
  refine s_storeAll hS hM rfl rfl (j := 0) rfl sz36 cells_len cells_len cU_one ?_; clear hS hM; intro a w hS hM
  refine s_nil ?_
  refine k_seq ?_
  refine c_seq ?_
  refine c_seq ?_
  refine c_region ?_
  refine s_val hS (by decide) rfl rfl (r_move hS (show ev _ _ = some (N 0) from rfl)) ?_; clear hS; intro a hS
  refine s_nil ?_
  refine k_seq ?_
  refine c_block ?_
  refine c_loop (σ := Nat) (fun k a w => (k ≤ 80) ∧ Slots a 86 (env [(2, ptr b2 0), (4, ptr b4 0), (5, ptr b5 0), (6, ptr b6 0), (7, ptr b7 0), (16, N k)]) ∧ Mem w0 w ([⟨b7, 36, cU 8 (rounds rk (schTo m 80) s k)⟩, ⟨b5, 33, cU 80 rk⟩, ⟨b6, 33, cU 80 (schTo m 80)⟩, ⟨b4, 36, cU 8 (fun _ => 0)⟩, ⟨b3, 25, cU 16 m⟩, ⟨b2, 36, cU 8 s⟩])) (fun k => 80 - k) (0) ⟨by omega, hS.to _ ⟨rfl, rfl, rfl, rfl, rfl, rfl, trivial⟩, hM⟩ ?_
  clear hS hM; rintro k a w ⟨hk, hS, hM⟩
  refine c_seq ?_
  refine c_region ?_
  refine s_val hS (by decide) rfl rfl (r_bv hS rfl (show ev _ _ = some (N 80) from rfl) gN (b_lssN _ _ _)) ?_; clear hS; intro a hS
  refine s_nil ?_
  refine k_seq ?_
  refine c_seq ?_
  refine c_cond hS rfl (fun hc => ?_) (fun hc => ?_)
  · have hk1 := of_decide_eq_true hc
    refine c_skip ?_
    refine k_seq ?_
    refine c_seq ?_
    refine c_block ?_
    refine c_seq ?_
    refine c_region ?_
    refine s_val hS (by decide) rfl rfl (r_move hS rfl) ?_; clear hS; intro a hS
    refine s_val hS (by decide) rfl rfl (r_assign hS rfl) ?_; clear hS; intro a hS
    refine s_nil ?_
    refine k_seq ?_
    refine c_seq ?_
    refine c_plan 23 (fun w => Mem w0 w _) [(7, _), (8, _), (5, _), (6, _), (2, _), (4, _), (16, _), (17, _), (18, _)] (by kernel_rfl) (by kernel_rfl) hS ⟨rfl, rfl, rfl, rfl, rfl, rfl, rfl, rfl, rfl, trivial⟩ (hM.drawn _) ?_; clear hS hM
    refine p_step rfl (fun a w hS hM => y_val rfl (r_index0 hS rfl (show ev _ _ = some (.int .i64 ((7 : Nat) : Int)) from rfl) Try.underlying36 sz24 (by decide))) ?_
    refine p_step rfl (fun a w hS hM => y_val rfl (r_load hS hM rfl (j := 0) rfl Try.underlying24 rfl (cells_get (by omega)))) ?_
    refine p_step rfl (fun a w hS hM => y_val rfl (r_index0 hS rfl (show ev _ _ = some (.int .i64 ((4 : Nat) : Int)) from rfl) Try.underlying36 sz24 (by decide))) ?_
    refine p_step rfl (fun a w hS hM => y_val rfl (r_load hS hM rfl (j := 0) rfl Try.underlying24 rfl (cells_get (by omega)))) ?_
    refine p_step rfl (fun a w hS hM => y_call (by kernel_rfl) hS (vs := [_, N 14, N 18, N 41]) rfl ((great_ok _ _ _ _ (by omega) _).mem hM)) ?_
    refine p_step rfl (fun a w hS hM => y_val rfl (r_bv hS rfl rfl gU (b_addU _ _ _))) ?_
    refine p_step rfl (fun a w hS hM => y_val rfl (r_index0 hS rfl (show ev _ _ = some (.int .i64 ((4 : Nat) : Int)) from rfl) Try.underlying36 sz24 (by decide))) ?_
    refine p_step rfl (fun a w hS hM => y_val rfl (r_load hS hM rfl (j := 0) rfl Try.underlying24 rfl (cells_get (by omega)))) ?_
    refine p_step rfl (fun a w hS hM => y_val rfl (r_index0 hS rfl (show ev _ _ = some (.int .i64 ((5 : Nat) : Int)) from rfl) Try.underlying36 sz24 (by decide))) ?_
    refine p_step rfl (fun a w hS hM => y_val rfl (r_load hS hM rfl (j := 0) rfl Try.underlying24 rfl (cells_get (by omega)))) ?_
    refine p_step rfl (fun a w hS hM => y_val rfl (r_index0 hS rfl (show ev _ _ = some (.int .i64 ((6 : Nat) : Int)) from rfl) Try.underlying36 sz24 (by decide))) ?_
    refine p_step rfl (fun a w hS hM => y_val rfl (r_load hS hM rfl (j := 0) rfl Try.underlying24 rfl (cells_get (by omega)))) ?_
    refine p_step rfl (fun a w hS hM => y_call (by kernel_rfl) hS rfl ((ch_ok _ _ _ _).mem hM)) ?_
    refine p_step rfl (fun a w hS hM => y_val rfl (r_bv hS rfl rfl gU (b_addU _ _ _))) ?_
    refine p_step rfl (fun a w hS hM => y_val rfl (r_move hS rfl)) ?_
    refine p_step rfl (fun a w hS hM => y_val rfl (r_index0 hS rfl rfl Try.underlying33 sz24 (by omega))) ?_
    refine p_step rfl (fun a w hS hM => y_val rfl (r_load hS hM rfl (j := 1) rfl Try.underlying24 rfl (cells_get (by omega)))) ?_
    refine p_step rfl (fun a w hS hM => y_val rfl (r_bv hS rfl rfl gU (b_addU _ _ _))) ?_
    refine p_step rfl (fun a w hS hM => y_val rfl (r_move hS rfl)) ?_
    refine p_step rfl (fun a w hS hM => y_val rfl (r_index0 hS rfl rfl Try.underlying33 sz24 (by omega))) ?_
    refine p_step rfl (fun a w hS hM => y_val rfl (r_load hS hM rfl (j := 2) rfl Try.underlying24 rfl (cells_get (by omega)))) ?_
    refine p_step rfl (fun a w hS hM => y_val rfl (r_bv hS rfl rfl gU (b_addU _ _ _))) ?_
    refine p_step rfl (fun a w hS hM => y_val rfl (r_assign hS rfl)) ?_
    refine p_nil rfl ?_; intro a w hS hM
    refine s_nil ?_
    refine k_seq ?_
    refine c_seq ?_
    refine c_plan 12 (fun w => Mem w0 w _) [(7, _), (2, _), (4, _), (5, _), (6, _), (8, _), (9, _), (16, _), (17, _), (18, _), (19, _), (20, _), (21, _), (22, _), (23, _), (24, _), (25, _), (26, _), (27, _), (28, _), (29, _), (30, _), (31, _), (32, _), (33, _), (34, _), (35, _), (36, _), (37, _), (38, _), (39, _), (40, _)] (by kernel_rfl) (by kernel_rfl) hS ⟨rfl, rfl, rfl, rfl, rfl, rfl, rfl, rfl, rfl, rfl, rfl, rfl, rfl, rfl, rfl, rfl, rfl, rfl, rfl, rfl, rfl, rfl, rfl, rfl, rfl, rfl, rfl, rfl, rfl, rfl, rfl, rfl, trivial⟩ (hM.drawn _) ?_; clear hS hM
    refine p_step rfl (fun a w hS hM => y_val rfl (r_index0 hS rfl (show ev _ _ = some (.int .i64 ((0 : Nat) : Int)) from rfl) Try.underlying36 sz24 (by decide))) ?_
    refine p_step rfl (fun a w hS hM => y_val rfl (r_load hS hM rfl (j := 0) rfl Try.underlying24 rfl (cells_get (by omega)))) ?_
    refine p_step rfl (fun a w hS hM => y_call (by kernel_rfl) hS (vs := [_, N 28, N 34, N 39]) rfl ((great_ok _ _ _ _ (by omega) _).mem hM)) ?_
    refine p_step rfl (fun a w hS hM => y_val rfl (r_index0 hS rfl (show ev _ _ = some (.int .i64 ((0 : Nat) : Int)) from rfl) Try.underlying36 sz24 (by decide))) ?_
    refine p_step rfl (fun a w hS hM => y_val rfl (r_load hS hM rfl (j := 0) rfl Try.underlying24 rfl (cells_get (by omega)))) ?_
    refine p_step rfl (fun a w hS hM => y_val rfl (r_index0 hS rfl (show ev _ _ = some (.int .i64 ((1 : Nat) : Int)) from rfl) Try.underlying36 sz24 (by decide))) ?_
    refine p_step rfl (fun a w hS hM => y_val rfl (r_load hS hM rfl (j := 0) rfl Try.underlying24 rfl (cells_get (by omega)))) ?_
    refine p_step rfl (fun a w hS hM => y_val rfl (r_index0 hS rfl (show ev _ _ = some (.int .i64 ((2 : Nat) : Int)) from rfl) Try.underlying36 sz24 (by decide))) ?_
    refine p_step rfl (fun a w hS hM => y_val rfl (r_load hS hM rfl (j := 0) rfl Try.underlying24 rfl (cells_get (by omega)))) ?_
    refine p_step rfl (fun a w hS hM => y_call (by kernel_rfl) hS rfl ((maj_ok _ _ _ _).mem hM)) ?_
    refine p_step rfl (fun a w hS hM => y_val rfl (r_bv hS rfl rfl gU (b_addU _ _ _))) ?_
    refine p_step rfl (fun a w hS hM => y_val rfl (r_assign hS rfl)) ?_
    refine p_nil rfl ?_; intro a w hS hM
    refine s_nil ?_
    refine k_seq ?_
    refine c_region ?_
    refine s_val hS (by decide) rfl rfl (r_move hS rfl) ?_; clear hS; intro a hS
    refine s_val hS (by decide) rfl rfl (r_move hS rfl) ?_; clear hS; intro a hS
    refine s_val hS (by decide) rfl rfl (r_bv hS rfl rfl gU (b_addU _ _ _)) ?_; clear hS; intro a hS
    refine s_val hS (by decide) rfl rfl (r_index0 hS rfl (show ev _ _ = some (.int .i64 ((0 : Nat) : Int)) from rfl) Try.underlying36 sz24 (by decide)) ?_; clear hS; intro a hS
    refine s_val hS (by decide) rfl rfl (r_load hS hM rfl (j := 0) rfl Try.underlying24 rfl (cells_get (by omega))) ?_; clear hS; intro a hS
    refine s_val hS (by decide) rfl rfl (r_index0 hS rfl (show ev _ _ = some (.int .i64 ((1 : Nat) : Int)) from rfl) Try.underlying36 sz24 (by decide)) ?_; clear hS; intro a hS
    refine s_val hS (by decide) rfl rfl (r_load hS hM rfl (j := 0) rfl Try.underlying24 rfl (cells_get (by omega))) ?_; clear hS; intro a hS
    refine s_val hS (by decide) rfl rfl (r_index0 hS rfl (show ev _ _ = some (.int .i64 ((2 : Nat) : Int)) from rfl) Try.underlying36 sz24 (by decide)) ?_; clear hS; intro a hS
    refine s_val hS (by decide) rfl rfl (r_load hS hM rfl (j := 0) rfl Try.underlying24 rfl (cells_get (by omega))) ?_; clear hS; intro a hS
    refine s_val hS (by decide) rfl rfl (r_index0 hS rfl (show ev _ _ = some (.int .i64 ((3 : Nat) : Int)) from rfl) Try.underlying36 sz24 (by decide)) ?_; clear hS; intro a hS
    refine s_val hS (by decide) rfl rfl (r_load hS hM rfl (j := 0) rfl Try.underlying24 rfl (cells_get (by omega))) ?_; clear hS; intro a hS
    refine s_val hS (by decide) rfl rfl (r_move hS rfl) ?_; clear hS; intro a hS
    refine s_val hS (by decide) rfl rfl (r_bv hS rfl rfl gU (b_addU _ _ _)) ?_; clear hS; intro a hS
    refine s_val hS (by decide) rfl rfl (r_index0 hS rfl (show ev _ _ = some (.int .i64 ((4 : Nat) : Int)) from rfl) Try.underlying36 sz24 (by decide)) ?_; clear hS; intro a hS
    refine s_val hS (by decide) rfl rfl (r_load hS hM rfl (j := 0) rfl Try.underlying24 rfl (cells_get (by omega))) ?_; clear hS; intro a hS
    refine s_val hS (by decide) rfl rfl (r_index0 hS rfl (show ev _ _ = some (.int .i64 ((5 : Nat) : Int)) from rfl) Try.underlying36 sz24 (by decide)) ?_; clear hS; intro a hS
    refine s_val hS (by decide) rfl rfl (r_load hS hM rfl (j := 0) rfl Try.underlying24 rfl (cells_get (by omega))) ?_; clear hS; intro a hS
    refine s_val hS (by decide) rfl rfl (r_index0 hS rfl (show ev _ _ = some (.int .i64 ((6 : Nat) : Int)) from rfl) Try.underlying36 sz24 (by decide)) ?_; clear hS; intro a hS
    refine s_val hS (by decide) rfl rfl (r_load hS hM rfl (j := 0) rfl Try.underlying24 rfl (cells_get (by omega))) ?_; clear hS; intro a hS
    refine s_val hS (by decide) rfl rfl (r_build hS (vs := [(0, U _), (1, U _), (2, U _), (3, U _), (4, U _), (5, U _), (6, U _), (7, U _)]) rfl (build36 _ _ _ _ _ _ _ _)) ?_; clear hS; intro a hS
    refine s_storeAll hS hM rfl rfl (j := 0) rfl sz36 cells_len cells_len cU_one ?_; clear hS hM; intro a w hS hM
    refine s_nil ?_
    refine k_in ?_
    refine k_seq ?_
    refine c_region ?_
    refine s_val hS (by decide) rfl rfl (r_bv hS rfl (show ev _ _ = some (N 1) from rfl) gN (b_addN _ _ _ (by omega))) ?_; clear hS; intro a hS
    refine s_val hS (by decide) rfl rfl (r_move hS rfl) ?_; clear hS; intro a hS
    refine s_nil ?_
    refine k_then ?_
    refine ⟨k + 1, by omega, by omega, hS.to _ ⟨rfl, rfl, rfl, rfl, rfl, rfl, trivial⟩, hM⟩
  · obtain rfl : k = 80 := by have := of_decide_eq_false hc; omega
    refine c_exit ?_
    refine k_thenx ?_
    refine k_thenx ?_
    refine k_inx ?_
    refine k_seq ?_
    refine c_seq ?_
    refine c_seq ?_
    refine c_region ?_
    refine s_val hS (by decide) rfl rfl (r_move hS (show ev _ _ = some (N 0) from rfl)) ?_; clear hS; intro a hS
    refine s_nil ?_
    refine k_seq ?_
    refine c_block ?_
    refine c_loop (σ := Nat) (fun k a w => (k ≤ 8) ∧ Slots a 86 (env [(2, ptr b2 0), (4, ptr b4 0), (7, ptr b7 0), (73, N k)]) ∧ Mem w0 w ([⟨b7, 36, cU 8 (sumTo (rounds rk (schTo m 80) s 80) s k)⟩, ⟨b5, 33, cU 80 rk⟩, ⟨b6, 33, cU 80 (schTo m 80)⟩, ⟨b4, 36, cU 8 (fun _ => 0)⟩, ⟨b3, 25, cU 16 m⟩, ⟨b2, 36, cU 8 s⟩])) (fun k => 8 - k) (0) ⟨by omega, hS.to _ ⟨rfl, rfl, rfl, rfl, trivial⟩, hM⟩ ?_
    clear hS hM; rintro k a w ⟨hk, hS, hM⟩
    refine c_seq ?_
    refine c_region ?_
    refine s_val hS (by decide) rfl rfl (r_bv hS rfl (show ev _ _ = some (N 8) from rfl) gN (b_lssN _ _ _)) ?_; clear hS; intro a hS
    refine s_nil ?_
    refine k_seq ?_
    refine c_seq ?_
    refine c_cond hS rfl (fun hc => ?_) (fun hc => ?_)
    · have hk1 := of_decide_eq_true hc
      refine c_skip ?_
      refine k_seq ?_
      refine c_seq ?_
      refine c_block ?_
      refine c_seq ?_
      refine c_region ?_
      refine s_val hS (by decide) rfl rfl (r_move hS rfl) ?_; clear hS; intro a hS
      refine s_val hS (by decide) rfl rfl (r_assign hS rfl) ?_; clear hS; intro a hS
      refine s_nil ?_
      refine k_seq ?_
      refine c_plan 8 (fun w => Mem w0 w _) [(11, _), (7, _), (2, _), (4, _), (73, _), (74, _), (75, _)] (by kernel_rfl) (by kernel_rfl) hS ⟨rfl, rfl, rfl, rfl, rfl, rfl, rfl, trivial⟩ (hM.drawn _) ?_; clear hS hM
      refine p_step rfl (fun a w hS hM => y_val rfl (r_move hS rfl)) ?_
      refine p_step rfl (fun a w hS hM => y_val rfl (r_index0 hS rfl rfl Try.underlying36 sz24 (by omega))) ?_
      refine p_step rfl (fun a w hS hM => y_val rfl (r_load hS hM rfl (j := 0) rfl Try.underlying24 rfl (cells_get (by omega)))) ?_
      refine p_step rfl (fun a w hS hM => y_val rfl (r_move hS rfl)) ?_
      refine p_step rfl (fun a w hS hM => y_val rfl (r_index0 hS rfl rfl Try.underlying36 sz24 (by omega))) ?_
      refine p_step rfl (fun a w hS hM => y_val rfl (r_load hS hM rfl (j := 5) rfl Try.underlying24 rfl (cells_get (by omega)))) ?_
      refine p_step rfl (fun a w hS hM => y_val rfl (r_bv hS rfl rfl gU (b_addU _ _ _))) ?_
      refine p_step rfl (fun a w hS hM => y_val rfl (r_index0 hS rfl rfl Try.underlying36 sz24 (by omega))) ?_
      refine p_nil rfl ?_; intro a w hS hM
      refine s_storeU hS hM rfl rfl (j := 0) rfl sz24 (by omega) ?_; clear hS hM; intro a w hS hM
      refine s_nil ?_
      refine k_in ?_
      refine k_seq ?_
      refine c_region ?_
      refine s_val hS (by decide) rfl rfl (r_bv hS rfl (show ev _ _ = some (N 1) from rfl) gN (b_addN _ _ _ (by omega))) ?_; clear hS; intro a hS
      refine s_val hS (by decide) rfl rfl (r_move hS rfl) ?_; clear hS; intro a hS
      refine s_nil ?_
      refine k_then ?_
      refine ⟨k + 1, by omega, by omega, hS.to _ ⟨rfl, rfl, rfl, rfl, trivial⟩, hM⟩
    · obtain rfl : k = 8 := by have := of_decide_eq_false hc; omega
      refine c_exit ?_
      refine k_thenx ?_
      refine k_thenx ?_
      refine k_inx ?_
      refine k_seq ?_
      refine c_seq ?_
      refine c_region ?_
      refine s_val hS (by decide) rfl rfl (r_loadAll hS hM rfl (j := 0) rfl Try.underlying36 rfl sz36 cells_len) ?_; clear hS; intro a hS
      refine s_storeAll hS hM rfl rfl (j := 3) rfl sz36 cells_len cells_len cU_one ?_; clear hS hM; intro a w hS hM
      refine s_nil ?_
      refine k_seq ?_
      refine c_ret ?_
      exact k_res1 hS rfl (RV.row rfl (hM.have_ _ (mem_of_get (j := 3) rfl)) Try.underlying36 rfl (by rw [sz36]; exact congrArg some cells_len.symm)) ⟨rfl, hM.done ⟨hb7, hb5, hb6, hb4, hb3, hb2, trivial⟩⟩

set_option maxRecDepth 100000 in
theorem rstep_ok (s m : Nat → BitVec 64) (w0 : World) : Pure Try.prog 22 #[.agg (cU 8 s).toArray, .agg (cU 16 m).toArray] w0 (.agg (cU 8 (sstep s m)).toArray) := by
  refine ⟨by kernel_rfl, ?_⟩
  refine calls_sym Try.func22 rfl (by kernel_rfl) ?_
  intro a hS
  have hM : Mem w0 w0 [] := Mem.refl w0
  refine c_seq ?_
  refine c_region ?_
  refine s_box hS hM (by decide) rfl rfl ?_; clear hS hM; intro a b2 w hb2 hS hM
  refine s_box hS hM (by decide) rfl rfl ?_; clear hS hM; intro a b3 w hb3 hS hM
  refine s_alloc hS hM (by decide) zero36 ?_; clear hS hM; intro a b4 w hb4 hS hM
  refine s_nil ?_
  refine k_seq ?_
  refine c_seq ?_
  refine c_region ?_
  refine s_val hS (by decide) rfl rfl (r_loadAll hS hM rfl (j := 1) rfl Try.underlying25 rfl sz25 cells_len) ?_; clear hS; intro a hS
  refine s_pure hS hM (by decide) rfl (rschedule_ok _ _) ?_; clear hS hM; intro a w hS hM
  refine s_alloc hS hM (by decide) zero33 ?_; clear hS hM; intro a b5 w hb5 hS hM
  refine s_storeAll hS hM rfl rfl (j := 0) rfl sz33 cells_len cells_len cU_one ?_; clear hS hM; intro a w hS hM
  refine s_nil ?_
  refine k_seq ?_
  refine c_seq ?_
  refine c_region ?_
  refine s_pure hS hM (by decide) rfl (rrk_ok _) ?_; clear hS hM; intro a w hS hM
  refine s_alloc hS hM (by decide) zero33 ?_; clear hS hM; intro a b6 w hb6 hS hM
  refine s_storeAll hS hM rfl rfl (j := 0) rfl sz33 cells_len cells_len cU_one ?_; clear hS hM; intro a w hS hM
  refine s_nil ?_
  refine k_seq ?_
  refine c_seq ?_
  refine c_region ?_
  refine s_val hS (by decide) rfl rfl (r_loadAll hS hM rfl (j := 4) rfl Try.underlying36 rfl sz36 cells_len) ?_; clear hS; intro a hS
  refine s_alloc hS hM (by decide) zero36 ?_; clear hS hM; intro a b7 w hb7 hS hM
  refine s_storeAll hS hM rfl rfl (j := 0) rfl sz36 cells_len cells_len cU_one ?_; clear hS hM; intro a w hS hM
  refine s_nil ?_
  refine k_seq ?_
  refine c_seq ?_
  refine c_seq ?_
  refine c_region ?_
  refine s_val hS (by decide) rfl rfl (r_assign hS (show ev _ _ = some (N 0) from rfl)) ?_; clear hS; intro a hS
  refine s_nil ?_
  refine k_seq ?_
  refine c_block ?_
  refine c_loop (σ := Nat) (fun k a w => (k ≤ 80) ∧ Slots a 114 (env [(2, ptr b2 0), (4, ptr b4 0), (5, ptr b5 0), (6, ptr b6 0), (7, ptr b7 0), (8, N k)]) ∧ Mem w0 w ([⟨b7, 36, cU 8 (rounds rk (schTo m 80) s k)⟩, ⟨b6, 33, cU 80 rk⟩, ⟨b5, 33, cU 80 (schTo m 80)⟩, ⟨b4, 36, cU 8 (fun _ => 0)⟩, ⟨b3, 25, cU 16 m⟩, ⟨b2, 36, cU 8 s⟩])) (fun k => 80 - k) (0) ⟨by omega, hS.to _ ⟨rfl, rfl, rfl, rfl, rfl, rfl, trivial⟩, hM⟩ ?_
  clear hS hM; rintro k a w ⟨hk, hS, hM⟩
  refine c_seq ?_
  refine c_seq ?_
  refine c_region ?_
  refine s_val hS (by decide) rfl rfl (r_move hS rfl) ?_; clear hS; intro a hS
  refine s_val hS (by decide) rfl rfl (r_bv hS rfl (show ev _ _ = some (N 80) from rfl) gN (b_lssN _ _ _)) ?_; clear hS; intro a hS
  refine s_nil ?_
  refine k_seq ?_
  refine c_cond hS rfl (fun hc => ?_) (fun hc => ?_)
  · have hk1 := of_decide_eq_true hc
    refine c_skip ?_
    refine k_seq ?_
    refine c_seq ?_
    refine c_block ?_
    refine c_seq ?_
    refine c_region ?_
    refine s_val hS (by decide) rfl rfl (r_index0 hS rfl (show ev _ _ = some (.int .i64 ((4 : Nat) : Int)) from rfl) Try.underlying36 sz24 (by decide)) ?_; clear hS; intro a hS
    refine s_val hS (by decide) rfl rfl (r_load hS hM rfl (j := 0) rfl Try.underlying24 rfl (cells_get (by omega))) ?_; clear hS; intro a hS
    refine s_val hS (by decide) rfl rfl (r_assign hS rfl) ?_; clear hS; intro a hS
    refine s_nil ?_
    refine k_seq ?_
    refine c_seq ?_
    refine c_region ?_
    refine s_val hS (by decide) rfl rfl (r_index0 hS rfl (show ev _ _ = some (.int .i64 ((0 : Nat) : Int)) from rfl) Try.underlying36 sz24 (by decide)) ?_; clear hS; intro a hS
    refine s_val hS (by decide) rfl rfl (r_load hS hM rfl (j := 0) rfl Try.underlying24 rfl (cells_get (by omega))) ?_; clear hS; intro a hS
    refine s_val hS (by decide) rfl rfl (r_assign hS rfl) ?_; clear hS; intro a hS
    refine s_nil ?_
    refine k_seq ?_
    refine c_seq ?_
    refine c_plan 31 (fun w => Mem w0 w _) [(7, _), (9, _), (8, _), (6, _), (5, _), (2, _), (4, _), (10, _), (18, _), (19, _), (22, _), (23, _), (24, _), (25, _)] (by kernel_rfl) (by kernel_rfl) hS ⟨rfl, rfl, rfl, rfl, rfl, rfl, rfl, rfl, rfl, rfl, rfl, rfl, rfl, rfl, trivial⟩ (hM.drawn _) ?_; clear hS hM
    refine p_step rfl (fun a w hS hM => y_val rfl (r_index0 hS rfl (show ev _ _ = some (.int .i64 ((7 : Nat) : Int)) from rfl) Try.underlying36 sz24 (by decide))) ?_
    refine p_step rfl (fun a w hS hM => y_val rfl (r_load hS hM rfl (j := 0) rfl Try.underlying24 rfl (cells_get (by omega)))) ?_
    refine p_step rfl (fun a w hS hM => y_val rfl (r_move hS rfl)) ?_
    refine p_step rfl (fun a w hS hM => y_call (by kernel_rfl) hS (vs := [_, N 14]) rfl ((rrotr_ok _ _ (by omega) _).mem hM)) ?_
    refine p_step rfl (fun a w hS hM => y_val rfl (r_move hS rfl)) ?_
    refine p_step rfl (fun a w hS hM => y_call (by kernel_rfl) hS (vs := [_, N 18]) rfl ((rrotr_ok _ _ (by omega) _).mem hM)) ?_
    refine p_step rfl (fun a w hS hM => y_val rfl (r_bv hS rfl rfl gU (b_xorU _ _ _))) ?_
    refine p_step rfl (fun a w hS hM => y_val rfl (r_move hS rfl)) ?_
    refine p_step rfl (fun a w hS hM => y_call (by kernel_rfl) hS (vs := [_, N 41]) rfl ((rrotr_ok _ _ (by omega) _).mem hM)) ?_
    refine p_step rfl (fun a w hS hM => y_val rfl (r_bv hS rfl rfl gU (b_xorU _ _ _))) ?_
    refine p_step rfl (fun a w hS hM => y_val rfl (r_bv hS rfl rfl gU (b_addU _ _ _))) ?_
    refine p_step rfl (fun a w hS hM => y_val rfl (r_move hS rfl)) ?_
    refine p_step rfl (fun a w hS hM => y_val rfl (r_index0 hS rfl (show ev _ _ = some (.int .i64 ((5 : Nat) : Int)) from rfl) Try.underlying36 sz24 (by decide))) ?_
    refine p_step rfl (fun a w hS hM => y_val rfl (r_load hS hM rfl (j := 0) rfl Try.underlying24 rfl (cells_get (by omega)))) ?_
    refine p_step rfl (fun a w hS hM => y_val rfl (r_bv hS rfl rfl gU (b_andU _ _ _))) ?_
    refine p_step rfl (fun a w hS hM => y_val rfl (r_move hS rfl)) ?_
    refine p_step rfl (fun a w hS hM => y_val rfl (r_notU hS rfl)) ?_
    refine p_step rfl (fun a w hS hM => y_val rfl (r_index0 hS rfl (show ev _ _ = some (.int .i64 ((6 : Nat) : Int)) from rfl) Try.underlying36 sz24 (by decide))) ?_
    refine p_step rfl (fun a w hS hM => y_val rfl (r_load hS hM rfl (j := 0) rfl Try.underlying24 rfl (cells_get (by omega)))) ?_
    refine p_step rfl (fun a w hS hM => y_val rfl (r_bv hS rfl rfl gU (b_andU _ _ _))) ?_
    refine p_step rfl (fun a w hS hM => y_val rfl (r_bv hS rfl rfl gU (b_xorU _ _ _))) ?_
    refine p_step rfl (fun a w hS hM => y_val rfl (r_bv hS rfl rfl gU (b_addU _ _ _))) ?_
    refine p_step rfl (fun a w hS hM => y_val rfl (r_move hS rfl)) ?_
    refine p_step rfl (fun a w hS hM => y_val rfl (r_index0 hS rfl rfl Try.underlying33 sz24 (by omega))) ?_
    refine p_step rfl (fun a w hS hM => y_val rfl (r_load hS hM rfl (j := 1) rfl Try.underlying24 rfl (cells_get (by omega)))) ?_
    refine p_step rfl (fun a w hS hM => y_val rfl (r_bv hS rfl rfl gU (b_addU _ _ _))) ?_
    refine p_step rfl (fun a w hS hM => y_val rfl (r_move hS rfl)) ?_
    refine p_step rfl (fun a w hS hM => y_val rfl (r_index0 hS rfl rfl Try.underlying33 sz24 (by omega))) ?_
    refine p_step rfl (fun a w hS hM => y_val rfl (r_load hS hM rfl (j := 2) rfl Try.underlying24 rfl (cells_get (by omega)))) ?_
    refine p_step rfl (fun a w hS hM => y_val rfl (r_bv hS rfl rfl gU (b_addU _ _ _))) ?_
    refine p_step rfl (fun a w hS hM => y_val rfl (r_assign hS rfl)) ?_
    refine p_nil rfl ?_; intro a w hS hM
    refine s_nil ?_
    refine k_seq ?_
    refine c_seq ?_
    refine c_plan 25 (fun w => Mem w0 w _) [(10, _), (7, _), (2, _), (4, _), (5, _), (6, _), (8, _), (9, _), (11, _), (18, _), (19, _), (22, _), (23, _), (24, _), (25, _), (26, _), (27, _), (28, _), (29, _), (30, _), (31, _), (32, _), (33, _), (34, _), (35, _), (36, _), (37, _), (38, _), (39, _), (40, _), (41, _), (42, _), (43, _), (44, _), (45, _), (46, _), (47, _), (48, _), (49, _), (50, _), (51, _), (52, _), (53, _), (54, _), (55, _)] (by kernel_rfl) (by kernel_rfl) hS ⟨rfl, rfl, rfl, rfl, rfl, rfl, rfl, rfl, rfl, rfl, rfl, rfl, rfl, rfl, rfl, rfl, rfl, rfl, rfl, rfl, rfl, rfl, rfl, rfl, rfl, rfl, rfl, rfl, rfl, rfl, rfl, rfl, rfl, rfl, rfl, rfl, rfl, rfl, rfl, rfl, rfl, rfl, rfl, rfl, rfl, trivial⟩ (hM.drawn _) ?_; clear hS hM
    refine p_step rfl (fun a w hS hM => y_val rfl (r_move hS rfl)) ?_
    refine p_step rfl (fun a w hS hM => y_call (by kernel_rfl) hS (vs := [_, N 28]) rfl ((rrotr_ok _ _ (by omega) _).mem hM)) ?_
    refine p_step rfl (fun a w hS hM => y_val rfl (r_move hS rfl)) ?_
    refine p_step rfl (fun a w hS hM => y_call (by kernel_rfl) hS (vs := [_, N 34]) rfl ((rrotr_ok _ _ (by omega) _).mem hM)) ?_
    refine p_step rfl (fun a w hS hM => y_val rfl (r_bv hS rfl rfl gU (b_xorU _ _ _))) ?_
    refine p_step rfl (fun a w hS hM => y_val rfl (r_move hS rfl)) ?_
    refine p_step rfl (fun a w hS hM => y_call (by kernel_rfl) hS (vs := [_, N 39]) rfl ((rrotr_ok _ _ (by omega) _).mem hM)) ?_
    refine p_step rfl (fun a w hS hM => y_val rfl (r_bv hS rfl rfl gU (b_xorU _ _ _))) ?_
    refine p_step rfl (fun a w hS hM => y_val rfl (r_move hS rfl)) ?_
    refine p_step rfl (fun a w hS hM => y_val rfl (r_index0 hS rfl (show ev _ _ = some (.int .i64 ((1 : Nat) : Int)) from rfl) Try.underlying36 sz24 (by decide))) ?_
    refine p_step rfl (fun a w hS hM => y_val rfl (r_load hS hM rfl (j := 0) rfl Try.underlying24 rfl (cells_get (by omega)))) ?_
    refine p_step rfl (fun a w hS hM => y_val rfl (r_bv hS rfl rfl gU (b_andU _ _ _))) ?_
    refine p_step rfl (fun a w hS hM => y_val rfl (r_move hS rfl)) ?_
    refine p_step rfl (fun a w hS hM => y_val rfl (r_index0 hS rfl (show ev _ _ = some (.int .i64 ((2 : Nat) : Int)) from rfl) Try.underlying36 sz24 (by decide))) ?_
    refine p_step rfl (fun a w hS hM => y_val rfl (r_load hS hM rfl (j := 0) rfl Try.underlying24 rfl (cells_get (by omega)))) ?_
    refine p_step rfl (fun a w hS hM => y_val rfl (r_bv hS rfl rfl gU (b_andU _ _ _))) ?_
    refine p_step rfl (fun a w hS hM => y_val rfl (r_bv hS rfl rfl gU (b_orU _ _ _))) ?_
    refine p_step rfl (fun a w hS hM => y_val rfl (r_index0 hS rfl (show ev _ _ = some (.int .i64 ((1 : Nat) : Int)) from rfl) Try.underlying36 sz24 (by decide))) ?_
    refine p_step rfl (fun a w hS hM => y_val rfl (r_load hS hM rfl (j := 0) rfl Try.underlying24 rfl (cells_get (by omega)))) ?_
    refine p_step rfl (fun a w hS hM => y_val rfl (r_index0 hS rfl (show ev _ _ = some (.int .i64 ((2 : Nat) : Int)) from rfl) Try.underlying36 sz24 (by decide))) ?_
    refine p_step rfl (fun a w hS hM => y_val rfl (r_load hS hM rfl (j := 0) rfl Try.underlying24 rfl (cells_get (by omega)))) ?_
    refine p_step rfl (fun a w hS hM => y_val rfl (r_bv hS rfl rfl gU (b_andU _ _ _))) ?_
    refine p_step rfl (fun a w hS hM => y_val rfl (r_bv hS rfl rfl gU (b_orU _ _ _))) ?_
    refine p_step rfl (fun a w hS hM => y_val rfl (r_bv hS rfl rfl gU (b_addU _ _ _))) ?_
    refine p_step rfl (fun a w hS hM => y_val rfl (r_assign hS rfl)) ?_
    refine p_nil rfl ?_; intro a w hS hM
    refine s_nil ?_
    refine k_seq ?_
    refine c_region ?_
    refine s_val hS (by decide) rfl rfl (r_move hS rfl) ?_; clear hS; intro a hS
    refine s_val hS (by decide) rfl rfl (r_move hS rfl) ?_; clear hS; intro a hS
    refine s_val hS (by decide) rfl rfl (r_bv hS rfl rfl gU (b_addU _ _ _)) ?_; clear hS; intro a hS
    refine s_val hS (by decide) rfl rfl (r_index0 hS rfl (show ev _ _ = some (.int .i64 ((0 : Nat) : Int)) from rfl) Try.underlying36 sz24 (by decide)) ?_; clear hS; intro a hS
    refine s_val hS (by decide) rfl rfl (r_load hS hM rfl (j := 0) rfl Try.underlying24 rfl (cells_get (by omega))) ?_; clear hS; intro a hS
    refine s_val hS (by decide) rfl rfl (r_index0 hS rfl (show ev _ _ = some (.int .i64 ((1 : Nat) : Int)) from rfl) Try.underlying36 sz24 (by decide)) ?_; clear hS; intro a hS
    refine s_val hS (by decide) rfl rfl (r_load hS hM rfl (j := 0) rfl Try.underlying24 rfl (cells_get (by omega))) ?_; clear hS; intro a hS
    refine s_val hS (by decide) rfl rfl (r_index0 hS rfl (show ev _ _ = some (.int .i64 ((2 : Nat) : Int)) from rfl) Try.underlying36 sz24 (by decide)) ?_; clear hS; intro a hS
    refine s_val hS (by decide) rfl rfl (r_load hS hM rfl (j := 0) rfl Try.underlying24 rfl (cells_get (by omega))) ?_; clear hS; intro a hS
    refine s_val hS (by decide) rfl rfl (r_index0 hS rfl (show ev _ _ = some (.int .i64 ((3 : Nat) : Int)) from rfl) Try.underlying36 sz24 (by decide)) ?_; clear hS; intro a hS
    refine s_val hS (by decide) rfl rfl (r_load hS hM rfl (j := 0) rfl Try.underlying24 rfl (cells_get (by omega))) ?_; clear hS; intro a hS
    refine s_val hS (by decide) rfl rfl (r_move hS rfl) ?_; clear hS; intro a hS
    refine s_val hS (by decide) rfl rfl (r_bv hS rfl rfl gU (b_addU _ _ _)) ?_; clear hS; intro a hS
    refine s_val hS (by decide) rfl rfl (r_index0 hS rfl (show ev _ _ = some (.int .i64 ((4 : Nat) : Int)) from rfl) Try.underlying36 sz24 (by decide)) ?_; clear hS; intro a hS
    refine s_val hS (by decide) rfl rfl (r_load hS hM rfl (j := 0) rfl Try.underlying24 rfl (cells_get (by omega))) ?_; clear hS; intro a hS
    refine s_val hS (by decide) rfl rfl (r_index0 hS rfl (show ev _ _ = some (.int .i64 ((5 : Nat) : Int)) from rfl) Try.underlying36 sz24 (by decide)) ?_; clear hS; intro a hS
    refine s_val hS (by decide) rfl rfl (r_load hS hM rfl (j := 0) rfl Try.underlying24 rfl (cells_get (by omega))) ?_; clear hS; intro a hS
    refine s_val hS (by decide) rfl rfl (r_index0 hS rfl (show ev _ _ = some (.int .i64 ((6 : Nat) : Int)) from rfl) Try.underlying36 sz24 (by decide)) ?_; clear hS; intro a hS
    refine s_val hS (by decide) rfl rfl (r_load hS hM rfl (j := 0) rfl Try.underlying24 rfl (cells_get (by omega))) ?_; clear hS; intro a hS
    refine s_val hS (by decide) rfl rfl (r_build hS (vs := [(0, U _), (1, U _), (2, U _), (3, U _), (4, U _), (5, U _), (6, U _), (7, U _)]) rfl (build36 _ _ _ _ _ _ _ _)) ?_; clear hS; intro a hS
    refine s_storeAll hS hM rfl rfl (j := 0) rfl sz36 cells_len cells_len cU_one ?_; clear hS hM; intro a w hS hM
    refine s_nil ?_
    refine k_in ?_
    refine k_seq ?_
    refine c_region ?_
    refine s_val hS (by decide) rfl rfl (r_move hS rfl) ?_; clear hS; intro a hS
    refine s_val hS (by decide) rfl rfl (r_bv hS rfl (show ev _ _ = some (N 1) from rfl) gN (b_addN _ _ _ (by omega))) ?_; clear hS; intro a hS
    refine s_val hS (by decide) rfl rfl (r_assign hS rfl) ?_; clear hS; intro a hS
    refine s_nil ?_
    refine k_then ?_
    refine ⟨k + 1, by omega, by omega, hS.to _ ⟨rfl, rfl, rfl, rfl, rfl, rfl, trivial⟩, (hM.congr (by rw [maj_or]; rfl))⟩
  · obtain rfl : k = 80 := by have := of_decide_eq_false hc; omega
    refine c_exit ?_
    refine k_thenx ?_
    refine k_thenx ?_
    refine k_inx ?_
    refine k_seq ?_
    refine c_seq ?_
    refine c_seq ?_
    refine c_region ?_
    refine s_val hS (by decide) rfl rfl (r_assign hS (show ev _ _ = some (N 0) from rfl)) ?_; clear hS; intro a hS
    refine s_nil ?_
    refine k_seq ?_
    refine c_block ?_
    refine c_loop (σ := Nat) (fun k a w => (k ≤ 8) ∧ Slots a 114 (env [(2, ptr b2 0), (4, ptr b4 0), (7, ptr b7 0), (13, N k)]) ∧ Mem w0 w ([⟨b7, 36, cU 8 (sumTo (rounds rk (schTo m 80) s 80) s k)⟩, ⟨b6, 33, cU 80 rk⟩, ⟨b5, 33, cU 80 (schTo m 80)⟩, ⟨b4, 36, cU 8 (fun _ => 0)⟩, ⟨b3, 25, cU 16 m⟩, ⟨b2, 36, cU 8 s⟩])) (fun k => 8 - k) (0) ⟨by omega, hS.to _ ⟨rfl, rfl, rfl, rfl, trivial⟩, hM⟩ ?_
    clear hS hM; rintro k a w ⟨hk, hS, hM⟩
    refine c_seq ?_
    refine c_seq ?_
    refine c_region ?_
    refine s_val hS (by decide) rfl rfl (r_move hS rfl) ?_; clear hS; intro a hS
    refine s_val hS (by decide) rfl rfl (r_bv hS rfl (show ev _ _ = some (N 8) from rfl) gN (b_lssN _ _ _)) ?_; clear hS; intro a hS
    refine s_nil ?_
    refine k_seq ?_
    refine c_cond hS rfl (fun hc => ?_) (fun hc => ?_)
    · have hk1 := of_decide_eq_true hc
      refine c_skip ?_
      refine k_seq ?_
      refine c_seq ?_
      refine c_block ?_
      refine c_plan 9 (fun w => Mem w0 w _) [(13, _), (7, _), (2, _), (4, _), (100, _), (101, _)] (by kernel_rfl) (by kernel_rfl) hS ⟨rfl, rfl, rfl, rfl, rfl, rfl, trivial⟩ (hM.drawn _) ?_; clear hS hM
      refine p_step rfl (fun a w hS hM => y_val rfl (r_move hS rfl)) ?_
      refine p_step rfl (fun a w hS hM => y_val rfl (r_move hS rfl)) ?_
      refine p_step rfl (fun a w hS hM => y_val rfl (r_index0 hS rfl rfl Try.underlying36 sz24 (by omega))) ?_
      refine p_step rfl (fun a w hS hM => y_val rfl (r_load hS hM rfl (j := 0) rfl Try.underlying24 rfl (cells_get (by omega)))) ?_
      refine p_step rfl (fun a w hS hM => y_val rfl (r_move hS rfl)) ?_
      refine p_step rfl (fun a w hS hM => y_val rfl (r_index0 hS rfl rfl Try.underlying36 sz24 (by omega))) ?_
      refine p_step rfl (fun a w hS hM => y_val rfl (r_load hS hM rfl (j := 5) rfl Try.underlying24 rfl (cells_get (by omega)))) ?_
      refine p_step rfl (fun a w hS hM => y_val rfl (r_bv hS rfl rfl gU (b_addU _ _ _))) ?_
      refine p_step rfl (fun a w hS hM => y_val rfl (r_index0 hS rfl rfl Try.underlying36 sz24 (by omega))) ?_
      refine p_nil rfl ?_; intro a w hS hM
      refine s_storeU hS hM rfl rfl (j := 0) rfl sz24 (by omega) ?_; clear hS hM; intro a w hS hM
      refine s_nil ?_
      refine k_in ?_
      refine k_seq ?_
      refine c_region ?_
      refine s_val hS (by decide) rfl rfl (r_move hS rfl) ?_; clear hS; intro a hS
      refine s_val hS (by decide) rfl rfl (r_bv hS rfl (show ev _ _ = some (N 1) from rfl) gN (b_addN _ _ _ (by omega))) ?_; clear hS; intro a hS
      refine s_val hS (by decide) rfl rfl (r_assign hS rfl) ?_; clear hS; intro a hS
      refine s_nil ?_
      refine k_then ?_
      refine ⟨k + 1, by omega, by omega, hS.to _ ⟨rfl, rfl, rfl, rfl, trivial⟩, hM⟩
    · obtain rfl : k = 8 := by have := of_decide_eq_false hc; omega
      refine c_exit ?_
      refine k_thenx ?_
      refine k_thenx ?_
      refine k_inx ?_
      refine k_seq ?_
      refine c_seq ?_
      refine c_region ?_
      refine s_val hS (by decide) rfl rfl (r_loadAll hS hM rfl (j := 0) rfl Try.underlying36 rfl sz36 cells_len) ?_; clear hS; intro a hS
      refine s_storeAll hS hM rfl rfl (j := 3) rfl sz36 cells_len cells_len cU_one ?_; clear hS hM; intro a w hS hM
      refine s_nil ?_
      refine k_seq ?_
      refine c_ret ?_
      exact k_res1 hS rfl (RV.row rfl (hM.have_ _ (mem_of_get (j := 3) rfl)) Try.underlying36 rfl (by rw [sz36]; exact congrArg some cells_len.symm)) ⟨rfl, hM.done ⟨hb7, hb6, hb5, hb4, hb3, hb2, trivial⟩⟩
end Go.Proofs.Ytfojllcccncdbaa
