/- The walk of a text that goes on. Printed by a program of mine (walk.py). -/
import Derived.Test.YtfojllcccncdbaaSha7
import Derived.Test.YtfojllcccncdbaaSha8
namespace Go.Proofs.Ytfojllcccncdbaa
open Go Go.Sym
attribute [local irreducible] sstep wordsTo HS.puts be flatB numTo num HS.many ovr cat zs



set_option maxRecDepth 100000 in
theorem rafter_ok (w0 : World) {u u2 : Value} {m : Nat} {f g : Nat → BitVec 8} (hr : Rd w0 u 200 (fun i => B (f i))) (hr2 : Rd w0 u2 m (fun i => B (g i))) (hm : m < 1000000) : Fresh Try.prog 39 #[u, u2] w0 5 (cB 200 (midF ((loadH f).puts g m))) := by
  have hlt : (loadN f).toNat % 128 < 128 := Nat.mod_lt _ (by decide)
  refine ⟨by kernel_rfl, ?_⟩
  refine calls_sym Try.func39 rfl (by kernel_rfl) ?_
  intro a hS
  have hM : Mem w0 w0 [] := Mem.refl w0
  refine c_seq ?_
  refine c_region ?_
  refine s_val hS (by decide) rfl rfl (r_assign hS rfl) ?_; clear hS; intro a hS
  refine s_nil ?_
  refine k_seq ?_
  refine c_seq ?_
  refine c_region ?_
  refine s_val hS (by decide) rfl rfl (r_move hS rfl) ?_; clear hS; intro a hS
  refine s_pure hS hM (by decide) rfl (rcount_ok _ (hr.keepGe hM trivial) (by omega)) ?_; clear hS hM; intro a w hS hM
  refine s_val hS (by decide) rfl rfl (r_assign hS rfl) ?_; clear hS; intro a hS
  refine s_nil ?_
  refine k_seq ?_
  refine c_seq ?_
  refine c_region ?_
  refine s_val hS (by decide) rfl rfl (r_move hS rfl) ?_; clear hS; intro a hS
  refine s_val hS (by decide) rfl rfl (r_move hS rfl) ?_; clear hS; intro a hS
  refine s_val hS (by decide) rfl rfl (r_bv hS rfl (show ev _ _ = some (U 128#64) from rfl) gU (b_remU _ _ _ (by decide))) ?_; clear hS; intro a hS
  refine s_val hS (by decide) rfl rfl (r_bv hS (show ev _ _ = some (U 72#64) from rfl) rfl gU (b_addU _ _ _)) ?_; clear hS; intro a hS
  replace hS := hS.to [(0, u), (1, u2), (5, U (loadN f)), (10, u), (13, U (BitVec.ofNat 64 (72 + (loadN f).toNat % 128)))] ⟨rfl, rfl, rfl, rfl, congrArg (fun q => some (U q)) (add72 _), trivial⟩
  refine s_val hS (by decide) rfl rfl (r_sliceR hS rfl (hr.keepGe hM trivial) Try.underlying22 sz5 ⟨_, (show ev _ _ = some (.int .i64 ((72 : Nat) : Int)) from rfl)⟩ ⟨_, (show ev _ _ = some (.int .u64 ((72 + ((loadN f).toNat % 128) : Nat) : Int)) from congrArg (fun q : Nat => some (Value.int .u64 (q : Int))) (ofNat72 hlt))⟩ (by omega) (by omega)) ?_; clear hS; intro a hS
  refine s_append hS [] (Lx := []) hM (by decide) rfl rfl elem22 Own.nil (((hr.keepGe hM trivial).slc (l := 72) (h := 72 + (loadN f).toNat % 128) (by omega) (by omega)).src Try.underlying22 (fun _ _ => rfl)) (by show 0 + (72 + (loadN f).toNat % 128 - 72) ≤ _; omega) ?_; clear hS hM; intro a w v Lx ho hS hM
  replace ho := ho.congr (show _ = cB ((loadN f).toNat % 128) (fun i => f (72 + i)) by rw [show 72 + ((loadN f).toNat % 128) - 72 = ((loadN f).toNat % 128) by omega]; rfl)
  refine s_val hS (by decide) rfl rfl (r_move hS rfl) ?_; clear hS; intro a hS
  refine s_append hS [] (Lx := Lx) hM (by decide) rfl rfl elem22 ho ((hr2.keepGe hM (allGe_of ho.ge)).src Try.underlying22 (fun _ _ => rfl)) (by rw [show (cB (((loadN f).toNat % 128)) (fun i => f (72 + i))).length = ((loadN f).toNat % 128) from cells_len]; omega) ?_; clear hS hM ho; intro a w v Lx ho hS hM
  replace ho := ho.congr (cB_cat ((loadN f).toNat % 128) m (fun i => f (72 + i)) g)
  refine s_val hS (by decide) rfl rfl (r_assign hS rfl) ?_; clear hS; intro a hS
  have hr6 := ho.rdCells (L := []) hM
  replace hr := hr.keepGe hM (allGe_of ho.ge)
  replace hr2 := hr2.keepGe hM (allGe_of ho.ge)
  have hM0 := hM; have hge := ho.ge; clear hM ho
  have hM := Mem.refl w
  refine s_nil ?_
  refine k_seq ?_
  refine c_seq ?_
  refine c_region ?_
  refine s_val hS (by decide) rfl rfl (r_move hS rfl) ?_; clear hS; intro a hS
  refine s_val hS (by decide) rfl rfl (r_move hS rfl) ?_; clear hS; intro a hS
  refine s_val hS (by decide) rfl rfl (r_lenR hS rfl (hr2.keepGe hM trivial) Try.underlying22) ?_; clear hS; intro a hS
  refine s_val hS (by decide) rfl rfl (r_conv hS rfl (by kernel_rfl) Try.underlying24 (cv_NU _)) ?_; clear hS; intro a hS
  refine s_val hS (by decide) rfl rfl (r_bv hS rfl rfl gU (b_addU _ _ _)) ?_; clear hS; intro a hS
  refine s_val hS (by decide) rfl rfl (r_assign hS rfl) ?_; clear hS; intro a hS
  refine s_nil ?_
  refine k_seq ?_
  refine c_seq ?_
  refine c_region ?_
  refine s_val hS (by decide) rfl rfl (r_move hS rfl) ?_; clear hS; intro a hS
  refine s_pure hS hM (by decide) rfl (rwords64_ok _ (hr.keepGe hM trivial) (by omega)) ?_; clear hS hM; intro a w hS hM
  refine s_val hS (by decide) rfl rfl (r_move hS rfl) ?_; clear hS; intro a hS
  refine s_pure hS hM (by decide) rfl (over_ok _ _ (hr6.keepGe hM trivial) (by omega)) ?_; clear hS hM; intro a w hS hM
  refine s_fresh hS hM (by decide) rfl (bytes_ok _ _) ?_; clear hS hM; intro a w v27 L27 ho27 hS hM
  replace hM := hM.swap
  refine s_val hS (by decide) rfl rfl (r_move hS rfl) ?_; clear hS; intro a hS
  refine s_newrow hS hM (by decide) rfl (high_ok _ _) ?_; clear hS hM; intro a w b29 hb29 hS hM
  refine s_append hS [_] (Lx := L27) hM (by decide) rfl rfl elem22 ho27 ((rd_row hM (j := 0) rfl).src Try.underlying22 (fun _ _ => rfl)) (by rw [show (cB 64 (flatB (ovr (loadS f) (cat (fun i => f (72 + i)) ((loadN f).toNat % 128) g) ((((loadN f).toNat % 128) + m) / 128)))).length = 64 from cells_len]; decide) ?_; clear hS hM ho27; intro a w v Lx ho hS hM
  replace ho := ho.congr (cB_cat _ _ _ _)
  replace hM := Mem.drop (L := [] ++ Lx) hM hb29
  refine s_val hS (by decide) rfl rfl (r_assign hS rfl) ?_; clear hS; intro a hS
  refine s_nil ?_
  refine k_seq ?_
  refine c_seq ?_
  refine c_region ?_
  refine s_val hS (by decide) rfl rfl (r_move hS rfl) ?_; clear hS; intro a hS
  refine s_val hS (by decide) rfl rfl (r_move hS rfl) ?_; clear hS; intro a hS
  refine s_val hS (by decide) rfl rfl (r_move hS rfl) ?_; clear hS; intro a hS
  refine s_val hS (by decide) rfl rfl (r_lenR hS rfl (hr6.keepGe hM (allGe_of ho.ge)) Try.underlying22) ?_; clear hS; intro a hS
  refine s_val hS (by decide) rfl rfl (r_bv hS rfl (show ev _ _ = some (N 128) from rfl) gN (b_quoN _ _ _ (by omega) (by omega))) ?_; clear hS; intro a hS
  refine s_val hS (by decide) rfl rfl (r_bv hS rfl (show ev _ _ = some (N 128) from rfl) gN (b_mulN _ _ _ (by omega))) ?_; clear hS; intro a hS
  refine s_val hS (by decide) rfl rfl (r_sliceR hS rfl (hr6.keepGe hM (allGe_of ho.ge)) Try.underlying22 sz5 ⟨_, rfl⟩ rfl (by omega) (Nat.le_refl _)) ?_; clear hS; intro a hS
  refine s_append hS [] (Lx := Lx) hM (by decide) rfl rfl elem22 ho (((hr6.keepGe hM (allGe_of ho.ge)).slc (by omega) (Nat.le_refl _)).src Try.underlying22 (fun _ _ => rfl)) (by rw [show (cB (64 + 8) (cat (flatB (ovr (loadS f) (cat (fun i => f (72 + i)) ((loadN f).toNat % 128) g) ((((loadN f).toNat % 128) + m) / 128))) 64 (be (loadN f + BitVec.ofNat 64 m)))).length = 64 + 8 from cells_len]; omega) ?_; clear hS hM ho; intro a w v Lx ho hS hM
  replace ho := ho.congr (cB_cat _ _ _ _)
  refine s_val hS (by decide) rfl rfl (r_assign hS rfl) ?_; clear hS; intro a hS
  refine s_nil ?_
  refine k_seq ?_
  refine c_seq ?_
  refine c_region ?_
  refine s_val hS (by decide) rfl rfl (r_move hS rfl) ?_; clear hS; intro a hS
  refine s_val hS (by decide) rfl rfl (r_move hS rfl) ?_; clear hS; intro a hS
  refine s_val hS (by decide) rfl rfl (r_lenR hS rfl (ho.rdCells (L := []) hM) Try.underlying22) ?_; clear hS; intro a hS
  refine s_val hS (by decide) rfl rfl (r_bv hS (show ev _ _ = some (N 200) from rfl) rfl gN (b_subN _ _ _ (by omega) (by omega))) ?_; clear hS; intro a hS
  refine s_appendZ hS [] (Lx := Lx) hM (by decide) rfl rfl elem22 Try.underlying3 (zs_one _) ho (by rw [show (cB (64 + 8 + ((((loadN f).toNat % 128) + m) - ((((loadN f).toNat % 128) + m) / 128 * 128))) (cat (cat (flatB (ovr (loadS f) (cat (fun i => f (72 + i)) ((loadN f).toNat % 128) g) ((((loadN f).toNat % 128) + m) / 128))) 64 (be (loadN f + BitVec.ofNat 64 m))) (64 + 8) (fun i => (cat (fun i => f (72 + i)) ((loadN f).toNat % 128) g) (((((loadN f).toNat % 128) + m) / 128 * 128) + i)))).length = 64 + 8 + ((((loadN f).toNat % 128) + m) - ((((loadN f).toNat % 128) + m) / 128 * 128)) from cells_len]; omega) ?_; clear hS hM ho; intro a w v Lx ho hS hM
  replace ho := ho.congr (cB_zeros _ _ _)
  refine s_val hS (by decide) rfl rfl (r_assign hS rfl) ?_; clear hS; intro a hS
  refine s_nil ?_
  refine k_seq ?_
  refine c_ret ?_
  exact k_res1 hS rfl (RV.tmp rfl) ⟨_, _, rfl, (ho.congr (after_end f g m hm)).mono hM0.size, hM0.chain hM hge ho.ge⟩
end Go.Proofs.Ytfojllcccncdbaa
