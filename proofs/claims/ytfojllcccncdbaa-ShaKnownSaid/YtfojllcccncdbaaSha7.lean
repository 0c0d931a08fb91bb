/- The walks through the definition of chapter 8. Printed by a program of mine (walk.py). -/
import Derived.Test.YtfojllcccncdbaaSha5
import Derived.Test.YtfojllcccncdbaaSha6
namespace Go.Proofs.Ytfojllcccncdbaa
open Go Go.Sym
attribute [local irreducible] sstep wordsTo HS.puts be flatB numTo num HS.many ovr cat zs

theorem made22_8 : Made Try.prog 22 5 8 (cB 8 (fun _ => 0)) := fun _ => by kernel_rfl

set_option maxRecDepth 100000 in
theorem high_ok (w0 : World) (x : BitVec 64) : NewRow Try.prog 47 #[U x] w0 5 8 (fun i => B (be x i)) := by
  refine ⟨by kernel_rfl, ?_⟩
  refine calls_sym Try.func47 rfl (by kernel_rfl) ?_
  intro a hS
  have hM : Mem w0 w0 [] := Mem.refl w0
  refine c_seq ?_
  refine c_region ?_
  refine s_val hS (by decide) rfl rfl (r_assign hS rfl) ?_; clear hS; intro a hS
  refine s_nil ?_
  refine k_seq ?_
  refine c_seq ?_
  refine c_region ?_
  refine s_make hS hM (by decide) (show ev _ _ = some (N 8) from rfl) (show ev _ _ = some (N 8) from rfl) made22_8 ?_; clear hS hM; intro a b5 w hb5 hS hM
  refine s_val hS (by decide) rfl rfl (r_assign hS rfl) ?_; clear hS; intro a hS
  refine s_nil ?_
  refine k_seq ?_
  refine c_seq ?_
  refine c_seq ?_
  refine c_region ?_
  refine s_val hS (by decide) rfl rfl (r_assign hS (show ev _ _ = some (N 0) from rfl)) ?_; clear hS; intro a hS
  refine s_nil ?_
  refine k_seq ?_
  refine c_block ?_
  refine c_loop (σ := Nat) (fun k a w => (k ≤ 8) ∧ Slots a 21 (env [(0, U x), (3, .slice (some ⟨b5, 0, none⟩) 8 8), (4, N k)]) ∧ Mem w0 w ([⟨b5, 5, cB 8 (fil8 0#8 (be x) k)⟩])) (fun k => 8 - k) (0) ⟨by omega, hS.to _ ⟨rfl, rfl, rfl, trivial⟩, (by rw [fil8_zero]; exact hM)⟩ ?_
  clear hS hM; rintro k a w ⟨hk, hS, hM⟩
  refine c_seq ?_
  refine c_seq ?_
  refine c_region ?_
  refine s_val hS (by decide) rfl rfl (r_move hS rfl) ?_; clear hS; intro a hS
  refine s_val hS (by decide) rfl rfl (r_bv hS rfl (show ev _ _ = some (N 8) from rfl) gN (b_lssN _ _ _)) ?_; clear hS; intro a hS
  refine s_nil ?_
  refine k_seq ?_
  refine c_cond hS rfl (fun hc => ?_) (fun hc => ?_)
  · have hk1 := of_decide_eq_true hc
    refine c_skip ?_
    refine k_seq ?_
    refine c_seq ?_
    refine c_block ?_
    refine c_region ?_
    refine s_val hS (by decide) rfl rfl (r_move hS rfl) ?_; clear hS; intro a hS
    refine s_val hS (by decide) rfl rfl (r_move hS rfl) ?_; clear hS; intro a hS
    refine s_val hS (by decide) rfl rfl (r_move hS rfl) ?_; clear hS; intro a hS
    refine s_val hS (by decide) rfl rfl (r_move hS rfl) ?_; clear hS; intro a hS
    refine s_val hS (by decide) rfl rfl (r_bv hS (show ev _ _ = some (N 8) from rfl) rfl gN (b_mulN _ _ _ (by omega))) ?_; clear hS; intro a hS
    refine s_val hS (by decide) rfl rfl (r_bv hS (show ev _ _ = some (N 56) from rfl) rfl gN (b_subN _ _ _ (by omega) (by omega))) ?_; clear hS; intro a hS
    refine s_val hS (by decide) rfl rfl (r_conv hS rfl (by kernel_rfl) Try.underlying44 (cv_NU _)) ?_; clear hS; intro a hS
    refine s_val hS (by decide) rfl rfl (r_bv hS rfl rfl gU (b_shrU _ _ _ (BitVec.toNat _))) ?_; clear hS; intro a hS
    refine s_val hS (by decide) rfl rfl (r_conv hS rfl (by kernel_rfl) Try.underlying5 (cv_UB _)) ?_; clear hS; intro a hS
    refine s_val hS (by decide) rfl rfl (r_indexS0 hS rfl rfl Try.underlying22 sz5 (by omega)) ?_; clear hS; intro a hS
    refine s_storeB hS hM rfl rfl (j := 0) rfl sz5 (by omega) ?_; clear hS hM; intro a w hS hM
    refine s_nil ?_
    refine k_in ?_
    refine k_seq ?_
    refine c_region ?_
    refine s_val hS (by decide) rfl rfl (r_move hS rfl) ?_; clear hS; intro a hS
    refine s_val hS (by decide) rfl rfl (r_bv hS rfl (show ev _ _ = some (N 1) from rfl) gN (b_addN _ _ _ (by omega))) ?_; clear hS; intro a hS
    refine s_val hS (by decide) rfl rfl (r_assign hS rfl) ?_; clear hS; intro a hS
    refine s_nil ?_
    refine k_then ?_
    refine ⟨k + 1, by omega, by omega, hS.to _ ⟨rfl, rfl, rfl, trivial⟩, (hM.congr (by rw [be_at x hk1, fil8_step]; rfl))⟩
  · obtain rfl : k = 8 := (by have := of_decide_eq_false hc; omega); rw [cB_fil8] at hM
    refine c_exit ?_
    refine k_thenx ?_
    refine k_thenx ?_
    refine k_inx ?_
    refine k_seq ?_
    refine c_seq ?_
    refine c_region ?_
    refine s_val hS (by decide) rfl rfl (r_move hS rfl) ?_; clear hS; intro a hS
    refine s_val hS (by decide) rfl rfl (r_assign hS rfl) ?_; clear hS; intro a hS
    refine s_nil ?_
    refine k_seq ?_
    refine c_ret ?_
    exact k_res1 hS rfl (RV.tmp rfl) (newrow_end hb5 hM)

set_option maxRecDepth 100000 in
theorem bytes_ok (w0 : World) (s : Nat → BitVec 64) : Fresh Try.prog 56 #[.agg (cU 8 s).toArray] w0 5 (cB 64 (flatB s)) := by
  refine ⟨by kernel_rfl, ?_⟩
  refine calls_sym Try.func56 rfl (by kernel_rfl) ?_
  intro a hS
  have hM : Mem w0 w0 [] := Mem.refl w0
  refine c_seq ?_
  refine c_region ?_
  refine s_box hS hM (by decide) rfl rfl ?_; clear hS hM; intro a b1 w hb1 hS hM
  refine s_val hS (by decide) rfl rfl (r_assign hS rfl) ?_; clear hS; intro a hS
  refine s_nil ?_
  refine k_seq ?_
  refine c_seq ?_
  refine c_region ?_
  refine s_val hS (by decide) rfl rfl (r_assign hS rfl) ?_; clear hS; intro a hS
  refine s_nil ?_
  refine k_seq ?_
  refine c_seq ?_
  refine c_seq ?_
  refine c_region ?_
  refine s_val hS (by decide) rfl rfl (r_assign hS (show ev _ _ = some (N 0) from rfl)) ?_; clear hS; intro a hS
  refine s_nil ?_
  refine k_seq ?_
  refine c_block ?_
  refine c_loop (σ := Nat × Value × List Blk) (fun s_ a w => (s_.1 ≤ 8 ∧ Own w0.heap.size 5 s_.2.1 (cB (8 * s_.1) (flatB s)) s_.2.2) ∧ Slots a 16 (env [(1, ptr b1 0), (3, s_.2.1), (4, N s_.1)]) ∧ Mem w0 w ([⟨b1, 36, cU 8 s⟩] ++ s_.2.2)) (fun s_ => 8 - s_.1) (0, .slice none 0 0, []) ⟨⟨by decide, Own.nil⟩, hS.to _ ⟨rfl, rfl, rfl, trivial⟩, hM⟩ ?_
  clear hS hM; rintro ⟨k, v, Lx⟩ a w ⟨hk, hS, hM⟩
  obtain ⟨hk, ho⟩ := hk; dsimp only at hk ho hS hM
  refine c_seq ?_
  refine c_seq ?_
  refine c_region ?_
  refine s_val hS (by decide) rfl rfl (r_move hS rfl) ?_; clear hS; intro a hS
  refine s_val hS (by decide) rfl rfl (r_bv hS rfl (show ev _ _ = some (N 8) from rfl) gN (b_lssN _ _ _)) ?_; clear hS; intro a hS
  refine s_nil ?_
  refine k_seq ?_
  refine c_cond hS rfl (fun hc => ?_) (fun hc => ?_)
  · have hk1 := of_decide_eq_true hc
    refine c_skip ?_
    refine k_seq ?_
    refine c_seq ?_
    refine c_block ?_
    refine c_region ?_
    refine s_val hS (by decide) rfl rfl (r_move hS rfl) ?_; clear hS; intro a hS
    refine s_val hS (by decide) rfl rfl (r_move hS rfl) ?_; clear hS; intro a hS
    refine s_val hS (by decide) rfl rfl (r_index0 hS rfl rfl Try.underlying36 sz24 (by omega)) ?_; clear hS; intro a hS
    refine s_val hS (by decide) rfl rfl (r_load hS hM rfl (j := 0) rfl Try.underlying24 rfl (cells_get (by omega))) ?_; clear hS; intro a hS
    refine s_newrow hS hM (by decide) rfl (high_ok _ _) ?_; clear hS hM; intro a w b13 hb13 hS hM
    refine s_append hS [_, _] (Lx := Lx) hM (by decide) rfl rfl elem22 ho ((rd_row hM (j := 0) rfl).src Try.underlying22 (fun _ _ => rfl)) (by rw [show (cB (8 * k) (flatB s)).length = 8 * k from cells_len]; omega) ?_; clear hS hM ho; intro a w v Lx ho hS hM
    refine s_val hS (by decide) rfl rfl (r_assign hS rfl) ?_; clear hS; intro a hS
    refine s_nil ?_
    refine k_in ?_
    refine k_seq ?_
    refine c_region ?_
    refine s_val hS (by decide) rfl rfl (r_move hS rfl) ?_; clear hS; intro a hS
    refine s_val hS (by decide) rfl rfl (r_bv hS rfl (show ev _ _ = some (N 1) from rfl) gN (b_addN _ _ _ (by omega))) ?_; clear hS; intro a hS
    refine s_val hS (by decide) rfl rfl (r_assign hS rfl) ?_; clear hS; intro a hS
    refine s_nil ?_
    refine k_then ?_
    refine ⟨(k + 1, _, _), (by show 8 - (k + 1) < 8 - k; omega), ⟨by show k + 1 ≤ 8; omega, ho.congr (catB _ _)⟩, hS.to _ ⟨rfl, rfl, rfl, trivial⟩, (hM.drop hb13)⟩
  · obtain rfl : k = 8 := by have := of_decide_eq_false hc; omega
    refine c_exit ?_
    refine k_thenx ?_
    refine k_thenx ?_
    refine k_inx ?_
    refine k_seq ?_
    refine c_seq ?_
    refine c_region ?_
    refine s_val hS (by decide) rfl rfl (r_move hS rfl) ?_; clear hS; intro a hS
    refine s_val hS (by decide) rfl rfl (r_assign hS rfl) ?_; clear hS; intro a hS
    refine s_nil ?_
    refine k_seq ?_
    refine c_ret ?_
    exact k_res1 hS rfl (RV.tmp rfl) ⟨_, _, rfl, ho, hM.drop hb1⟩

set_option maxRecDepth 100000 in
theorem flat_ok (s : Nat → BitVec 64) (w0 : World) : Pure Try.prog 48 #[.agg (cU 8 s).toArray] w0 (.agg (cB 64 (flatB s)).toArray) := by
  refine ⟨by kernel_rfl, ?_⟩
  refine calls_sym Try.func48 rfl (by kernel_rfl) ?_
  intro a hS
  have hM : Mem w0 w0 [] := Mem.refl w0
  refine c_seq ?_
  refine c_region ?_
  refine s_box hS hM (by decide) rfl rfl ?_; clear hS hM; intro a b1 w hb1 hS hM
  refine s_alloc hS hM (by decide) zero39 ?_; clear hS hM; intro a b2 w hb2 hS hM
  refine s_nil ?_
  refine k_seq ?_
  refine c_seq ?_
  refine c_region ?_
  refine s_val hS (by decide) rfl rfl (r_build hS rfl (cs := cB 64 (fun _ => 0)) (fun _ => by kernel_rfl)) ?_; clear hS; intro a hS
  refine s_alloc hS hM (by decide) zero39 ?_; clear hS hM; intro a b3 w hb3 hS hM
  refine s_storeAll hS hM rfl rfl (j := 0) rfl sz39 cells_len cells_len cB_one ?_; clear hS hM; intro a w hS hM
  refine s_nil ?_
  refine k_seq ?_
  refine c_seq ?_
  refine c_region ?_
  refine s_val hS (by decide) rfl rfl (r_loadAll hS hM rfl (j := 2) rfl Try.underlying36 rfl sz36 cells_len) ?_; clear hS; intro a hS
  refine s_fresh hS hM (by decide) rfl (bytes_ok _ _) ?_; clear hS hM; intro a w v8 L8 ho8 hS hM
  replace hM := hM.swap
  refine s_val hS (by decide) rfl rfl (r_assign hS rfl) ?_; clear hS; intro a hS
  refine s_nil ?_
  refine k_seq ?_
  refine c_seq ?_
  refine c_seq ?_
  refine c_region ?_
  refine s_val hS (by decide) rfl rfl (r_assign hS (show ev _ _ = some (N 0) from rfl)) ?_; clear hS; intro a hS
  refine s_nil ?_
  refine k_seq ?_
  refine c_block ?_
  refine c_loop (σ := Nat) (fun k a w => (k ≤ 64) ∧ Slots a 20 (env [(2, ptr b2 0), (3, ptr b3 0), (4, v8), (5, N k)]) ∧ Mem w0 w ([⟨b3, 39, cB 64 (fil8 0#8 (flatB s) k)⟩, ⟨b2, 39, cB 64 (fun _ => 0)⟩, ⟨b1, 36, cU 8 s⟩] ++ L8)) (fun k => 64 - k) (0) ⟨by omega, hS.to _ ⟨rfl, rfl, rfl, rfl, trivial⟩, (by rw [fil8_zero]; exact hM)⟩ ?_
  clear hS hM; rintro k a w ⟨hk, hS, hM⟩
  refine c_seq ?_
  refine c_seq ?_
  refine c_region ?_
  refine s_val hS (by decide) rfl rfl (r_move hS rfl) ?_; clear hS; intro a hS
  refine s_val hS (by decide) rfl rfl (r_bv hS rfl (show ev _ _ = some (N 64) from rfl) gN (b_lssN _ _ _)) ?_; clear hS; intro a hS
  refine s_nil ?_
  refine k_seq ?_
  refine c_cond hS rfl (fun hc => ?_) (fun hc => ?_)
  · have hk1 := of_decide_eq_true hc
    refine c_skip ?_
    refine k_seq ?_
    refine c_seq ?_
    refine c_block ?_
    refine c_region ?_
    refine s_val hS (by decide) rfl rfl (r_move hS rfl) ?_; clear hS; intro a hS
    refine s_val hS (by decide) rfl rfl (r_move hS rfl) ?_; clear hS; intro a hS
    refine s_val hS (by decide) rfl rfl (r_move hS rfl) ?_; clear hS; intro a hS
    refine s_val hS (by decide) rfl rfl (r_indexR hS rfl (ho8.rdCells (L := [_, _, _]) hM) rfl Try.underlying22 sz5 (by omega)) ?_; clear hS; intro a hS
    refine s_val hS (by decide) rfl rfl (r_loadR hS rfl (ho8.rdCells (L := [_, _, _]) hM) (by omega) Try.underlying5 rfl) ?_; clear hS; intro a hS
    refine s_val hS (by decide) rfl rfl (r_index0 hS rfl rfl Try.underlying39 sz5 (by omega)) ?_; clear hS; intro a hS
    refine s_storeB hS hM rfl rfl (j := 0) rfl sz5 (by omega) ?_; clear hS hM; intro a w hS hM
    refine s_nil ?_
    refine k_in ?_
    refine k_seq ?_
    refine c_region ?_
    refine s_val hS (by decide) rfl rfl (r_move hS rfl) ?_; clear hS; intro a hS
    refine s_val hS (by decide) rfl rfl (r_bv hS rfl (show ev _ _ = some (N 1) from rfl) gN (b_addN _ _ _ (by omega))) ?_; clear hS; intro a hS
    refine s_val hS (by decide) rfl rfl (r_assign hS rfl) ?_; clear hS; intro a hS
    refine s_nil ?_
    refine k_then ?_
    refine ⟨k + 1, by omega, by omega, hS.to _ ⟨rfl, rfl, rfl, rfl, trivial⟩, (hM.congr (by rw [← fil8_step]; rfl))⟩
  · obtain rfl : k = 64 := (by have := of_decide_eq_false hc; omega); rw [cB_fil8] at hM
    refine c_exit ?_
    refine k_thenx ?_
    refine k_thenx ?_
    refine k_inx ?_
    refine k_seq ?_
    refine c_seq ?_
    refine c_region ?_
    refine s_val hS (by decide) rfl rfl (r_loadAll hS hM rfl (j := 0) rfl Try.underlying39 rfl sz39 cells_len) ?_; clear hS; intro a hS
    refine s_storeAll hS hM rfl rfl (j := 1) rfl sz39 cells_len cells_len cB_one ?_; clear hS hM; intro a w hS hM
    refine s_nil ?_
    refine k_seq ?_
    refine c_ret ?_
    exact k_res1 hS rfl (RV.row rfl (hM.have_ _ (mem_of_get (j := 1) rfl)) Try.underlying39 rfl (by rw [sz39]; exact congrArg some cells_len.symm)) ⟨rfl, (Mem.dropRight (L := [_, _, _]) hM ho8.ge).done ⟨hb3, hb2, hb1, trivial⟩⟩

set_option maxRecDepth 100000 in
theorem rbegin_ok  (w0 : World) : Pure Try.prog 50 #[] w0 (.agg (cU 8 iv).toArray) := by
  refine ⟨by kernel_rfl, ?_⟩
  refine calls_sym Try.func50 rfl (by kernel_rfl) ?_
  intro a hS
  have hM : Mem w0 w0 [] := Mem.refl w0
  refine c_seq ?_
  refine c_region ?_
  refine s_alloc hS hM (by decide) zero36 ?_; clear hS hM; intro a b0 w hb0 hS hM
  refine s_nil ?_
  refine k_seq ?_
  refine c_seq ?_
  refine c_region ?_
  refine s_val hS (by decide) rfl rfl (r_build hS (vs := [(0, U 7640891576956012808#64), (1, U 13503953896175478587#64), (2, U 4354685564936845355#64), (3, U 11912009170470909681#64), (4, U 5840696475078001361#64), (5, U 11170449401992604703#64), (6, U 2270897969802886507#64), (7, U 6620516959819538809#64)]) rfl (build36 _ _ _ _ _ _ _ _)) ?_; clear hS; intro a hS
  refine s_storeAll hS hM rfl rfl (j := 0) rfl sz36 cells_len cells_len cU_one ?_; clear hS hM; intro a w hS hM
  refine s_nil ?_
  refine k_seq ?_
  refine c_ret ?_
  exact k_res1 hS rfl (RV.row rfl (hM.have_ _ (mem_of_get (j := 0) rfl)) Try.underlying36 rfl (by rw [sz36]; exact congrArg some cells_len.symm)) ⟨rfl, hM.done ⟨hb0, trivial⟩⟩

set_option maxRecDepth 100000 in
theorem over_ok (w0 : World) (s : Nat → BitVec 64) {v : Value} {m : Nat} {f : Nat → BitVec 8} (hr : Rd w0 v m (fun i => B (f i))) (_hm : m < 1099511627776) : Pure Try.prog 49 #[.agg (cU 8 s).toArray, v] w0 (.agg (cU 8 (ovr s f (m / 128))).toArray) := by
  refine ⟨by kernel_rfl, ?_⟩
  refine calls_sym Try.func49 rfl (by kernel_rfl) ?_
  intro a hS
  have hM : Mem w0 w0 [] := Mem.refl w0
  refine c_seq ?_
  refine c_region ?_
  refine s_box hS hM (by decide) rfl rfl ?_; clear hS hM; intro a b2 w hb2 hS hM
  refine s_alloc hS hM (by decide) zero36 ?_; clear hS hM; intro a b4 w hb4 hS hM
  refine s_nil ?_
  refine k_seq ?_
  refine c_seq ?_
  refine c_block ?_
  refine c_loop (σ := Nat × Value) (fun q a w => (128 * q.1 ≤ m ∧ Rd w0 q.2 (m - 128 * q.1) (fun j => B (f (128 * q.1 + j)))) ∧ Slots a 22 (env [(1, q.2), (2, ptr b2 0), (4, ptr b4 0)]) ∧ Mem w0 w ([⟨b4, 36, cU 8 (fun _ => 0)⟩, ⟨b2, 36, cU 8 (ovr s f q.1)⟩])) (fun q => m - 128 * q.1) (0, v) ⟨⟨Nat.zero_le _, hr.congr (fun j _ => by rw [Nat.mul_zero, Nat.zero_add])⟩, hS.to _ ⟨rfl, rfl, rfl, trivial⟩, (hM.congr (by rw [ovr]; try rfl))⟩ ?_
  clear hS hM; rintro ⟨k, u⟩ a w ⟨hk, hS, hM⟩
  obtain ⟨hk, hu⟩ := hk; dsimp only at hk hu hS hM
  refine c_seq ?_
  refine c_seq ?_
  refine c_region ?_
  refine s_val hS (by decide) rfl rfl (r_move hS rfl) ?_; clear hS; intro a hS
  refine s_val hS (by decide) rfl rfl (r_lenR hS rfl (hu.keepGe hM ⟨hb4, hb2, trivial⟩) Try.underlying22) ?_; clear hS; intro a hS
  refine s_val hS (by decide) rfl rfl (r_bv hS rfl (show ev _ _ = some (N 128) from rfl) gN (b_geqN _ _ _)) ?_; clear hS; intro a hS
  refine s_nil ?_
  refine k_seq ?_
  refine c_cond hS rfl (fun hc => ?_) (fun hc => ?_)
  · have hk1 := of_decide_eq_true hc
    refine c_skip ?_
    refine k_seq ?_
    refine c_block ?_
    refine c_seq ?_
    refine c_region ?_
    refine s_val hS (by decide) rfl rfl (r_move hS rfl) ?_; clear hS; intro a hS
    refine s_val hS (by decide) rfl rfl (r_sliceR hS rfl (hu.keepGe hM ⟨hb4, hb2, trivial⟩) Try.underlying22 sz5 rfl ⟨_, (show ev _ _ = some (.int .i64 ((128 : Nat) : Int)) from rfl)⟩ (Nat.zero_le _) (by omega)) ?_; clear hS; intro a hS
    refine s_pure hS hM (by decide) rfl (rwords_rd _ ((hu.keepGe hM ⟨hb4, hb2, trivial⟩).slc (Nat.zero_le _) (by omega))) ?_; clear hS hM; intro a w hS hM
    refine s_val hS (by decide) rfl rfl (r_move hS rfl) ?_; clear hS; intro a hS
    refine s_val hS (by decide) rfl rfl (r_extract hS rfl rfl) ?_; clear hS; intro a hS
    refine s_val hS (by decide) rfl rfl (r_extract hS rfl rfl) ?_; clear hS; intro a hS
    refine s_alloc hS hM (by decide) zero25 ?_; clear hS hM; intro a b5 w hb5 hS hM
    refine s_storeAll hS hM rfl rfl (j := 0) rfl sz25 cells_len cells_len cU_one ?_; clear hS hM; intro a w hS hM
    refine s_val hS (by decide) rfl rfl (r_assign hS rfl) ?_; clear hS; intro a hS
    refine s_nil ?_
    refine k_seq ?_
    refine c_seq ?_
    refine c_region ?_
    refine s_val hS (by decide) rfl rfl (r_loadAll hS hM rfl (j := 2) rfl Try.underlying36 rfl sz36 cells_len) ?_; clear hS; intro a hS
    refine s_val hS (by decide) rfl rfl (r_loadAll hS hM rfl (j := 0) rfl Try.underlying25 rfl sz25 cells_len) ?_; clear hS; intro a hS
    refine s_pure hS hM (by decide) rfl (rstep_ok _ _ _) ?_; clear hS hM; intro a w hS hM
    refine s_storeAll hS hM rfl rfl (j := 2) rfl sz36 cells_len cells_len cU_one ?_; clear hS hM; intro a w hS hM
    refine s_nil ?_
    refine k_seq ?_
    refine c_region ?_
    refine s_val hS (by decide) rfl rfl (r_move hS rfl) ?_; clear hS; intro a hS
    refine s_val hS (by decide) rfl rfl (r_sliceR hS rfl (hu.keepGe hM ⟨hb5, hb4, hb2, trivial⟩) Try.underlying22 sz5 ⟨_, (show ev _ _ = some (.int .i64 ((128 : Nat) : Int)) from rfl)⟩ rfl (by omega) (Nat.le_refl _)) ?_; clear hS; intro a hS
    refine s_val hS (by decide) rfl rfl (r_assign hS rfl) ?_; clear hS; intro a hS
    refine s_nil ?_
    refine k_in ?_
    refine k_then ?_
    refine ⟨(k + 1, _), (by show m - 128 * (k + 1) < m - 128 * k; omega), ⟨(by show 128 * (k + 1) ≤ m; omega), (by have e := hu.slc (l := 128) (h := m - 128 * k) (by omega) (Nat.le_refl _); rw [show m - 128 * k - 128 = m - 128 * (k + 1) by omega] at e; exact e.congr (fun j _ => by show B (f (128 * k + (128 + j))) = B (f (128 * (k + 1) + j)); rw [show 128 * k + (128 + j) = 128 * (k + 1) + j by omega]))⟩, hS.to _ ⟨rfl, rfl, rfl, trivial⟩, ((hM.drop hb5).congr (by rw [ovr, ← wd_full]; simp only [Nat.zero_add]; rfl))⟩
  · have hk1 := of_decide_eq_false hc; obtain rfl : k = m / 128 := by omega
    refine c_exit ?_
    refine k_thenx ?_
    refine k_thenx ?_
    refine k_inx ?_
    refine k_seq ?_
    refine c_seq ?_
    refine c_region ?_
    refine s_val hS (by decide) rfl rfl (r_loadAll hS hM rfl (j := 1) rfl Try.underlying36 rfl sz36 cells_len) ?_; clear hS; intro a hS
    refine s_storeAll hS hM rfl rfl (j := 0) rfl sz36 cells_len cells_len cU_one ?_; clear hS hM; intro a w hS hM
    refine s_nil ?_
    refine k_seq ?_
    refine c_ret ?_
    exact k_res1 hS rfl (RV.row rfl (hM.have_ _ (mem_of_get (j := 0) rfl)) Try.underlying36 rfl (by rw [sz36]; exact congrArg some cells_len.symm)) ⟨rfl, hM.done ⟨hb4, hb2, trivial⟩⟩

set_option maxRecDepth 100000 in
theorem rcount_ok (w0 : World) {v : Value} {m : Nat} {f : Nat → BitVec 8} (hr : Rd w0 v m (fun i => B (f i))) (hm : 72 ≤ m) : Pure Try.prog 58 #[v] w0 (U (loadN f)) := by
  refine ⟨by kernel_rfl, ?_⟩
  refine calls_sym Try.func58 rfl (by kernel_rfl) ?_
  intro a hS
  have hM : Mem w0 w0 [] := Mem.refl w0
  refine c_seq ?_
  refine c_region ?_
  refine s_val hS (by decide) rfl rfl (r_assign hS (show ev _ _ = some (U 0#64) from rfl)) ?_; clear hS; intro a hS
  refine s_nil ?_
  refine k_seq ?_
  refine c_seq ?_
  refine c_region ?_
  refine s_val hS (by decide) rfl rfl (r_assign hS (show ev _ _ = some (U 0#64) from rfl)) ?_; clear hS; intro a hS
  refine s_nil ?_
  refine k_seq ?_
  refine c_seq ?_
  refine c_seq ?_
  refine c_region ?_
  refine s_val hS (by decide) rfl rfl (r_assign hS (show ev _ _ = some (N 64) from rfl)) ?_; clear hS; intro a hS
  refine s_nil ?_
  refine k_seq ?_
  refine c_block ?_
  refine c_loop (σ := Nat) (fun k a w => (k ≤ 8) ∧ Slots a 18 (env [(0, v), (3, U (numTo (fun j => f (64 + j)) k)), (4, N (64 + k))]) ∧ Mem w0 w ([])) (fun k => 8 - k) (0) ⟨by omega, hS.to _ ⟨rfl, congrArg (fun q => some (U q)) (by unfold numTo; rfl), rfl, trivial⟩, hM⟩ ?_
  clear hS hM; rintro k a w ⟨hk, hS, hM⟩
  refine c_seq ?_
  refine c_seq ?_
  refine c_region ?_
  refine s_val hS (by decide) rfl rfl (r_move hS rfl) ?_; clear hS; intro a hS
  refine s_val hS (by decide) rfl rfl (r_bv hS rfl (show ev _ _ = some (N 72) from rfl) gN (b_lssN _ _ _)) ?_; clear hS; intro a hS
  refine s_nil ?_
  refine k_seq ?_
  refine c_cond hS rfl (fun hc => ?_) (fun hc => ?_)
  · have hk1 : k < 8 := by have := of_decide_eq_true hc; omega
    refine c_skip ?_
    refine k_seq ?_
    refine c_seq ?_
    refine c_block ?_
    refine c_region ?_
    refine s_val hS (by decide) rfl rfl (r_move hS rfl) ?_; clear hS; intro a hS
    refine s_val hS (by decide) rfl rfl (r_bv hS rfl (show ev _ _ = some (.int .u64 ((8 : Nat) : Int)) from rfl) gU (b_shlU _ _ _ 8)) ?_; clear hS; intro a hS
    refine s_val hS (by decide) rfl rfl (r_move hS rfl) ?_; clear hS; intro a hS
    refine s_val hS (by decide) rfl rfl (r_move hS rfl) ?_; clear hS; intro a hS
    refine s_val hS (by decide) rfl rfl (r_indexR hS rfl (hr.keepGe hM trivial) rfl Try.underlying22 sz5 (by omega)) ?_; clear hS; intro a hS
    refine s_val hS (by decide) rfl rfl (r_loadR hS rfl (hr.keepGe hM trivial) (by omega) Try.underlying5 rfl) ?_; clear hS; intro a hS
    refine s_val hS (by decide) rfl rfl (r_conv hS rfl (by kernel_rfl) Try.underlying24 (cv_BU _)) ?_; clear hS; intro a hS
    refine s_val hS (by decide) rfl rfl (r_bv hS rfl rfl gU (b_orU _ _ _)) ?_; clear hS; intro a hS
    refine s_val hS (by decide) rfl rfl (r_assign hS rfl) ?_; clear hS; intro a hS
    refine s_nil ?_
    refine k_in ?_
    refine k_seq ?_
    refine c_region ?_
    refine s_val hS (by decide) rfl rfl (r_move hS rfl) ?_; clear hS; intro a hS
    refine s_val hS (by decide) rfl rfl (r_bv hS rfl (show ev _ _ = some (N 1) from rfl) gN (b_addN _ _ _ (by omega))) ?_; clear hS; intro a hS
    refine s_val hS (by decide) rfl rfl (r_assign hS rfl) ?_; clear hS; intro a hS
    refine s_nil ?_
    refine k_then ?_
    refine ⟨k + 1, by omega, by omega, hS.to _ ⟨rfl, congrArg (fun q => some (U q)) (by rw [numTo]), rfl, trivial⟩, hM⟩
  · obtain rfl : k = 8 := by have := of_decide_eq_false hc; omega
    refine c_exit ?_
    refine k_thenx ?_
    refine k_thenx ?_
    refine k_inx ?_
    refine k_seq ?_
    refine c_seq ?_
    refine c_region ?_
    refine s_val hS (by decide) rfl rfl (r_move hS rfl) ?_; clear hS; intro a hS
    refine s_val hS (by decide) rfl rfl (r_assign hS rfl) ?_; clear hS; intro a hS
    refine s_nil ?_
    refine k_seq ?_
    refine c_ret ?_
    exact k_res1 hS rfl (RV.tmp rfl) ⟨(congrArg (fun q => Ending.returned (U q)) (by unfold loadN num; rfl)), hM.done trivial⟩

set_option maxRecDepth 100000 in
theorem rwords64_ok (w0 : World) {v : Value} {m : Nat} {f : Nat → BitVec 8} (hr : Rd w0 v m (fun i => B (f i))) (hm : 64 ≤ m) : Pure Try.prog 59 #[v] w0 (.agg (cU 8 (loadS f)).toArray) := by
  refine ⟨by kernel_rfl, ?_⟩
  refine calls_sym Try.func59 rfl (by kernel_rfl) ?_
  intro a hS
  have hM : Mem w0 w0 [] := Mem.refl w0
  refine c_seq ?_
  refine c_region ?_
  refine s_alloc hS hM (by decide) zero36 ?_; clear hS hM; intro a b2 w hb2 hS hM
  refine s_nil ?_
  refine k_seq ?_
  refine c_seq ?_
  refine c_region ?_
  refine s_val hS (by decide) rfl rfl (r_build hS rfl (cs := cU 8 (fun _ => 0)) (fun _ => by kernel_rfl)) ?_; clear hS; intro a hS
  refine s_alloc hS hM (by decide) zero36 ?_; clear hS hM; intro a b3 w hb3 hS hM
  refine s_storeAll hS hM rfl rfl (j := 0) rfl sz36 cells_len cells_len cU_one ?_; clear hS hM; intro a w hS hM
  refine s_nil ?_
  refine k_seq ?_
  refine c_seq ?_
  refine c_seq ?_
  refine c_region ?_
  refine s_val hS (by decide) rfl rfl (r_assign hS (show ev _ _ = some (N 0) from rfl)) ?_; clear hS; intro a hS
  refine s_nil ?_
  refine k_seq ?_
  refine c_block ?_
  refine c_loop (σ := Nat) (fun k a w => (k ≤ 64) ∧ Slots a 25 (env [(0, v), (2, ptr b2 0), (3, ptr b3 0), (4, N k)]) ∧ Mem w0 w ([⟨b3, 36, cU 8 (wordsTo f k)⟩, ⟨b2, 36, cU 8 (fun _ => 0)⟩])) (fun k => 64 - k) (0) ⟨by omega, hS.to _ ⟨rfl, rfl, rfl, rfl, trivial⟩, (hM.congr (by rw [wordsTo]; try rfl))⟩ ?_
  clear hS hM; rintro k a w ⟨hk, hS, hM⟩
  refine c_seq ?_
  refine c_seq ?_
  refine c_region ?_
  refine s_val hS (by decide) rfl rfl (r_move hS rfl) ?_; clear hS; intro a hS
  refine s_val hS (by decide) rfl rfl (r_bv hS rfl (show ev _ _ = some (N 64) from rfl) gN (b_lssN _ _ _)) ?_; clear hS; intro a hS
  refine s_nil ?_
  refine k_seq ?_
  refine c_cond hS rfl (fun hc => ?_) (fun hc => ?_)
  · have hk1 := of_decide_eq_true hc
    refine c_skip ?_
    refine k_seq ?_
    refine c_seq ?_
    refine c_block ?_
    refine c_plan 14 (fun w => Mem w0 w _) [(4, _), (3, _), (0, _), (2, _), (6, _), (7, _)] (by kernel_rfl) (by kernel_rfl) hS ⟨rfl, rfl, rfl, rfl, rfl, rfl, trivial⟩ (hM.drawn _) ?_; clear hS hM
    refine p_step rfl (fun a w hS hM => y_val rfl (r_move hS rfl)) ?_
    refine p_step rfl (fun a w hS hM => y_val rfl (r_bv hS rfl (show ev _ _ = some (N 8) from rfl) gN (b_quoN _ _ _ (by omega) (by omega)))) ?_
    refine p_step rfl (fun a w hS hM => y_val rfl (r_move hS rfl)) ?_
    refine p_step rfl (fun a w hS hM => y_val rfl (r_bv hS rfl (show ev _ _ = some (N 8) from rfl) gN (b_quoN _ _ _ (by omega) (by omega)))) ?_
    refine p_step rfl (fun a w hS hM => y_val rfl (r_index0 hS rfl rfl Try.underlying36 sz24 (by omega))) ?_
    refine p_step rfl (fun a w hS hM => y_val rfl (r_load hS hM rfl (j := 0) rfl Try.underlying24 rfl (cells_get (by omega)))) ?_
    refine p_step rfl (fun a w hS hM => y_val rfl (r_bv hS rfl (show ev _ _ = some (.int .u64 ((8 : Nat) : Int)) from rfl) gU (b_shlU _ _ _ 8))) ?_
    refine p_step rfl (fun a w hS hM => y_val rfl (r_move hS rfl)) ?_
    refine p_step rfl (fun a w hS hM => y_val rfl (r_move hS rfl)) ?_
    refine p_step rfl (fun a w hS hM => y_val rfl (r_indexR hS rfl (hr.keepGe hM ⟨hb3, hb2, trivial⟩) rfl Try.underlying22 sz5 (by omega))) ?_
    refine p_step rfl (fun a w hS hM => y_val rfl (r_loadR hS rfl (hr.keepGe hM ⟨hb3, hb2, trivial⟩) (by omega) Try.underlying5 rfl)) ?_
    refine p_step rfl (fun a w hS hM => y_val rfl (r_conv hS rfl (by kernel_rfl) Try.underlying24 (cv_BU _))) ?_
    refine p_step rfl (fun a w hS hM => y_val rfl (r_bv hS rfl rfl gU (b_orU _ _ _))) ?_
    refine p_step rfl (fun a w hS hM => y_val rfl (r_index0 hS rfl rfl Try.underlying36 sz24 (by omega))) ?_
    refine p_nil rfl ?_; intro a w hS hM
    refine s_storeU hS hM rfl rfl (j := 0) rfl sz24 (by omega) ?_; clear hS hM; intro a w hS hM
    refine s_nil ?_
    refine k_in ?_
    refine k_seq ?_
    refine c_region ?_
    refine s_val hS (by decide) rfl rfl (r_move hS rfl) ?_; clear hS; intro a hS
    refine s_val hS (by decide) rfl rfl (r_bv hS rfl (show ev _ _ = some (N 1) from rfl) gN (b_addN _ _ _ (by omega))) ?_; clear hS; intro a hS
    refine s_val hS (by decide) rfl rfl (r_assign hS rfl) ?_; clear hS; intro a hS
    refine s_nil ?_
    refine k_then ?_
    refine ⟨k + 1, by omega, by omega, hS.to _ ⟨rfl, rfl, rfl, rfl, trivial⟩, (hM.congr (by rw [wordsTo]; rfl))⟩
  · obtain rfl : k = 64 := (by have := of_decide_eq_false hc; omega); rw [words_load] at hM
    refine c_exit ?_
    refine k_thenx ?_
    refine k_thenx ?_
    refine k_inx ?_
    refine k_seq ?_
    refine c_seq ?_
    refine c_region ?_
    refine s_val hS (by decide) rfl rfl (r_loadAll hS hM rfl (j := 0) rfl Try.underlying36 rfl sz36 cells_len) ?_; clear hS; intro a hS
    refine s_storeAll hS hM rfl rfl (j := 1) rfl sz36 cells_len cells_len cU_one ?_; clear hS hM; intro a w hS hM
    refine s_nil ?_
    refine k_seq ?_
    refine c_ret ?_
    exact k_res1 hS rfl (RV.row rfl (hM.have_ _ (mem_of_get (j := 1) rfl)) Try.underlying36 rfl (by rw [sz36]; exact congrArg some cells_len.symm)) ⟨rfl, hM.done ⟨hb3, hb2, trivial⟩⟩

set_option maxRecDepth 100000 in
theorem rCount_ok (w0 : World) {v : Value} {m : Nat} {f : Nat → BitVec 8} (hr : Rd w0 v m (fun i => B (f i))) (hm : 72 ≤ m) (hn : (loadN f).toNat ≤ 1152921504606846976) : Pure Try.prog 40 #[v] w0 (N (loadN f).toNat) := by
  refine ⟨by kernel_rfl, ?_⟩
  refine calls_sym Try.func40 rfl (by kernel_rfl) ?_
  intro a hS
  have hM : Mem w0 w0 [] := Mem.refl w0
  refine c_seq ?_
  refine c_region ?_
  refine s_val hS (by decide) rfl rfl (r_assign hS (show ev _ _ = some (N 0) from rfl)) ?_; clear hS; intro a hS
  refine s_nil ?_
  refine k_seq ?_
  refine c_seq ?_
  refine c_region ?_
  refine s_val hS (by decide) rfl rfl (r_move hS rfl) ?_; clear hS; intro a hS
  refine s_pure hS hM (by decide) rfl (rcount_ok _ (hr.keepGe hM trivial) (by omega)) ?_; clear hS hM; intro a w hS hM
  refine s_val hS (by decide) rfl rfl (r_conv hS rfl (by kernel_rfl) Try.underlying3 (cv_UN _ (by omega))) ?_; clear hS; intro a hS
  refine s_val hS (by decide) rfl rfl (r_assign hS rfl) ?_; clear hS; intro a hS
  refine s_nil ?_
  refine k_seq ?_
  refine c_ret ?_
  exact k_res1 hS rfl (RV.tmp rfl) ⟨rfl, hM.done trivial⟩

set_option maxRecDepth 100000 in
theorem maymid_yes (w0 : World) {v : Value} {m : Nat} {f : Nat → BitVec 8} (hr : Rd w0 v m (fun i => B (f i))) (hv : mayLoad m f) : Pure Try.prog 38 #[v] w0 (.bool true) := by
  refine ⟨by kernel_rfl, ?_⟩
  refine calls_sym Try.func38 rfl (by kernel_rfl) ?_
  intro a hS
  have hM : Mem w0 w0 [] := Mem.refl w0
  refine c_seq ?_
  refine c_region ?_
  refine s_val hS (by decide) rfl rfl (r_assign hS rfl) ?_; clear hS; intro a hS
  refine s_nil ?_
  refine k_seq ?_
  refine c_seq ?_
  refine c_seq ?_
  refine c_region ?_
  refine s_val hS (by decide) rfl rfl (r_move hS rfl) ?_; clear hS; intro a hS
  refine s_val hS (by decide) rfl rfl (r_lenR hS rfl (hr.keepGe hM trivial) Try.underlying22) ?_; clear hS; intro a hS
  refine s_valb hS (by decide) rfl rfl (r_bv hS rfl (show ev _ _ = some (N 200) from rfl) gN (b_neqN _ _ _)) (fun hc => ?_) (fun hc => ?_)
  · clear hS; intro a hS; have hm : ¬ m = 200 := by simpa using hc
    exact absurd hv.1 hm
  · clear hS; intro a hS; have hm : m = 200 := (by simpa using hc); subst hm
    refine s_val hS (by decide) rfl rfl (r_move hS rfl) ?_; clear hS; intro a hS
    refine s_valg hS (by decide) rfl rfl rfl rfl rfl (r_move hS rfl) ?_; clear hS; intro a hS
    refine s_pureg hS hM (by decide) rfl rfl rfl rfl (rcount_ok _ (hr.keepGe hM trivial) (by omega)) ?_; clear hS hM; intro a w hS hM
    refine s_valg hS (by decide) rfl rfl rfl rfl rfl (r_bv hS rfl (show ev _ _ = some (U 1152921504606846976#64) from rfl) gU (b_gtrU _ _ _)) ?_; clear hS; intro a hS
    refine s_val hS (by decide) rfl rfl (r_pick hS rfl rfl) ?_; clear hS; intro a hS
    refine s_nil ?_
    refine k_seq ?_
    refine c_cond hS rfl (fun hc => ?_) (fun hc => ?_)
    · skip
      exact absurd (of_decide_eq_true hc) (Nat.not_lt.2 hv.2.1)
    · have h1 := of_decide_eq_false hc
      refine c_skip ?_
      refine k_seq ?_
      refine c_seq ?_
      refine c_seq ?_
      refine c_region ?_
      refine s_val hS (by decide) rfl rfl (r_move hS rfl) ?_; clear hS; intro a hS
      refine s_pure hS hM (by decide) rfl (rcount_ok _ (hr.keepGe hM trivial) (by omega)) ?_; clear hS hM; intro a w hS hM
      refine s_val hS (by decide) rfl rfl (r_bv hS rfl (show ev _ _ = some (U 128#64) from rfl) gU (b_remU _ _ _ (by decide))) ?_; clear hS; intro a hS
      refine s_val hS (by decide) rfl rfl (r_conv hS rfl (by kernel_rfl) Try.underlying3 (cv_UN _ (by rw [mod128]; omega))) ?_; clear hS; intro a hS
      refine s_val hS (by decide) rfl rfl (r_bv hS (show ev _ _ = some (N 72) from rfl) rfl gN (b_addN _ _ _ (by rw [mod128]; omega))) ?_; clear hS; intro a hS
      refine s_val hS (by decide) rfl rfl (r_assign hS rfl) ?_; clear hS; intro a hS
      rw [mod128] at hS
      refine s_nil ?_
      refine k_seq ?_
      refine c_block ?_
      refine c_loop (σ := Nat) (fun k a w => (k ≤ (200 - (72 + (loadN f).toNat % 128))) ∧ Slots a 26 (env [(0, v), (3, N (72 + (loadN f).toNat % 128 + k))]) ∧ Mem w0 w ([])) (fun k => (200 - (72 + (loadN f).toNat % 128)) - k) (0) ⟨by omega, hS.to _ ⟨rfl, rfl, trivial⟩, hM⟩ ?_
      clear hS hM; rintro k a w ⟨hk, hS, hM⟩
      have hlt : (loadN f).toNat % 128 < 128 := Nat.mod_lt _ (by decide)
      refine c_seq ?_
      refine c_seq ?_
      refine c_region ?_
      refine s_val hS (by decide) rfl rfl (r_move hS rfl) ?_; clear hS; intro a hS
      refine s_val hS (by decide) rfl rfl (r_bv hS rfl (show ev _ _ = some (N 200) from rfl) gN (b_lssN _ _ _)) ?_; clear hS; intro a hS
      refine s_nil ?_
      refine k_seq ?_
      refine c_cond hS rfl (fun hc => ?_) (fun hc => ?_)
      · have hk1 : k < (200 - (72 + (loadN f).toNat % 128)) := by have := of_decide_eq_true hc; omega
        refine c_skip ?_
        refine k_seq ?_
        refine c_seq ?_
        refine c_block ?_
        refine c_seq ?_
        refine c_region ?_
        refine s_val hS (by decide) rfl rfl (r_move hS rfl) ?_; clear hS; intro a hS
        refine s_val hS (by decide) rfl rfl (r_move hS rfl) ?_; clear hS; intro a hS
        refine s_val hS (by decide) rfl rfl (r_indexR hS rfl (hr.keepGe hM trivial) rfl Try.underlying22 sz5 (by omega)) ?_; clear hS; intro a hS
        refine s_val hS (by decide) rfl rfl (r_loadR hS rfl (hr.keepGe hM trivial) (by omega) Try.underlying5 rfl) ?_; clear hS; intro a hS
        refine s_val hS (by decide) rfl rfl (r_bv hS rfl (show ev _ _ = some (B 0#8) from rfl) gB (b_neqB _ _ _)) ?_; clear hS; intro a hS
        refine s_nil ?_
        refine k_seq ?_
        refine c_cond hS rfl (fun hc => ?_) (fun hc => ?_)
        · skip
          exact absurd (hv.2.2 (72 + (loadN f).toNat % 128 + k) (Nat.le_add_right _ _) (by omega)) (by simpa using hc)
        · skip
          refine c_skip ?_
          refine k_in ?_
          refine k_seq ?_
          refine c_region ?_
          refine s_val hS (by decide) rfl rfl (r_move hS rfl) ?_; clear hS; intro a hS
          refine s_val hS (by decide) rfl rfl (r_bv hS rfl (show ev _ _ = some (N 1) from rfl) gN (b_addN _ _ _ (by omega))) ?_; clear hS; intro a hS
          refine s_val hS (by decide) rfl rfl (r_assign hS rfl) ?_; clear hS; intro a hS
          refine s_nil ?_
          refine k_then ?_
          refine ⟨k + 1, by omega, by omega, hS.to _ ⟨rfl, rfl, trivial⟩, hM⟩
      · obtain rfl : k = (200 - (72 + (loadN f).toNat % 128)) := by have := of_decide_eq_false hc; omega
        refine c_exit ?_
        refine k_thenx ?_
        refine k_thenx ?_
        refine k_inx ?_
        refine k_seq ?_
        refine c_seq ?_
        refine c_region ?_
        refine s_val hS (by decide) rfl rfl (r_assign hS rfl) ?_; clear hS; intro a hS
        refine s_nil ?_
        refine k_seq ?_
        refine c_ret ?_
        exact k_res1 hS rfl (RV.tmp rfl) ⟨rfl, hM.done trivial⟩

set_option maxRecDepth 100000 in
theorem maymid_no (w0 : World) {v : Value} {m : Nat} {f : Nat → BitVec 8} (hr : Rd w0 v m (fun i => B (f i))) (hv : ¬ mayLoad m f) : Pure Try.prog 38 #[v] w0 (.bool false) := by
  refine ⟨by kernel_rfl, ?_⟩
  refine calls_sym Try.func38 rfl (by kernel_rfl) ?_
  intro a hS
  have hM : Mem w0 w0 [] := Mem.refl w0
  refine c_seq ?_
  refine c_region ?_
  refine s_val hS (by decide) rfl rfl (r_assign hS rfl) ?_; clear hS; intro a hS
  refine s_nil ?_
  refine k_seq ?_
  refine c_seq ?_
  refine c_seq ?_
  refine c_region ?_
  refine s_val hS (by decide) rfl rfl (r_move hS rfl) ?_; clear hS; intro a hS
  refine s_val hS (by decide) rfl rfl (r_lenR hS rfl (hr.keepGe hM trivial) Try.underlying22) ?_; clear hS; intro a hS
  refine s_valb hS (by decide) rfl rfl (r_bv hS rfl (show ev _ _ = some (N 200) from rfl) gN (b_neqN _ _ _)) (fun hc => ?_) (fun hc => ?_)
  · clear hS; intro a hS; have hm : ¬ m = 200 := by simpa using hc
    refine s_val hS (by decide) rfl rfl (r_move hS rfl) ?_; clear hS; intro a hS
    refine s_skip hS (by decide) rfl rfl rfl rfl rfl ?_; clear hS; intro a hS
    refine s_skip hS (by decide) rfl rfl rfl rfl rfl ?_; clear hS; intro a hS
    refine s_skip hS (by decide) rfl rfl rfl rfl rfl ?_; clear hS; intro a hS
    refine s_val hS (by decide) rfl rfl (r_pick hS rfl rfl) ?_; clear hS; intro a hS
    refine s_nil ?_
    refine k_seq ?_
    refine c_true hS rfl rfl ?_
    refine c_seq ?_
    refine c_region ?_
    refine s_val hS (by decide) rfl rfl (r_assign hS rfl) ?_; clear hS; intro a hS
    refine s_nil ?_
    refine k_seq ?_
    refine c_ret ?_
    refine k_thenr ?_
    exact k_res1 hS rfl (RV.tmp rfl) ⟨rfl, hM.done trivial⟩
  · clear hS; intro a hS; have hm : m = 200 := (by simpa using hc); subst hm
    refine s_val hS (by decide) rfl rfl (r_move hS rfl) ?_; clear hS; intro a hS
    refine s_valg hS (by decide) rfl rfl rfl rfl rfl (r_move hS rfl) ?_; clear hS; intro a hS
    refine s_pureg hS hM (by decide) rfl rfl rfl rfl (rcount_ok _ (hr.keepGe hM trivial) (by omega)) ?_; clear hS hM; intro a w hS hM
    refine s_valg hS (by decide) rfl rfl rfl rfl rfl (r_bv hS rfl (show ev _ _ = some (U 1152921504606846976#64) from rfl) gU (b_gtrU _ _ _)) ?_; clear hS; intro a hS
    refine s_val hS (by decide) rfl rfl (r_pick hS rfl rfl) ?_; clear hS; intro a hS
    refine s_nil ?_
    refine k_seq ?_
    refine c_cond hS rfl (fun hc => ?_) (fun hc => ?_)
    · have h1 := of_decide_eq_true hc
      refine c_seq ?_
      refine c_region ?_
      refine s_val hS (by decide) rfl rfl (r_assign hS rfl) ?_; clear hS; intro a hS
      refine s_nil ?_
      refine k_seq ?_
      refine c_ret ?_
      refine k_thenr ?_
      exact k_res1 hS rfl (RV.tmp rfl) ⟨rfl, hM.done trivial⟩
    · have h1 := of_decide_eq_false hc
      refine c_skip ?_
      refine k_seq ?_
      refine c_seq ?_
      refine c_seq ?_
      refine c_region ?_
      refine s_val hS (by decide) rfl rfl (r_move hS rfl) ?_; clear hS; intro a hS
      refine s_pure hS hM (by decide) rfl (rcount_ok _ (hr.keepGe hM trivial) (by omega)) ?_; clear hS hM; intro a w hS hM
      refine s_val hS (by decide) rfl rfl (r_bv hS rfl (show ev _ _ = some (U 128#64) from rfl) gU (b_remU _ _ _ (by decide))) ?_; clear hS; intro a hS
      refine s_val hS (by decide) rfl rfl (r_conv hS rfl (by kernel_rfl) Try.underlying3 (cv_UN _ (by rw [mod128]; omega))) ?_; clear hS; intro a hS
      refine s_val hS (by decide) rfl rfl (r_bv hS (show ev _ _ = some (N 72) from rfl) rfl gN (b_addN _ _ _ (by rw [mod128]; omega))) ?_; clear hS; intro a hS
      refine s_val hS (by decide) rfl rfl (r_assign hS rfl) ?_; clear hS; intro a hS
      rw [mod128] at hS
      refine s_nil ?_
      refine k_seq ?_
      refine c_block ?_
      refine c_loop (σ := Nat) (fun k a w => (k ≤ (200 - (72 + (loadN f).toNat % 128)) ∧ ∀ i, i < k → f (72 + (loadN f).toNat % 128 + i) = 0#8) ∧ Slots a 26 (env [(0, v), (3, N (72 + (loadN f).toNat % 128 + k))]) ∧ Mem w0 w ([])) (fun k => (200 - (72 + (loadN f).toNat % 128)) - k) (0) ⟨⟨Nat.zero_le _, fun i hi => absurd hi (Nat.not_lt_zero i)⟩, hS.to _ ⟨rfl, rfl, trivial⟩, hM⟩ ?_
      clear hS hM; rintro k a w ⟨hk, hS, hM⟩
      have hlt : (loadN f).toNat % 128 < 128 := Nat.mod_lt _ (by decide)
      refine c_seq ?_
      refine c_seq ?_
      refine c_region ?_
      refine s_val hS (by decide) rfl rfl (r_move hS rfl) ?_; clear hS; intro a hS
      refine s_val hS (by decide) rfl rfl (r_bv hS rfl (show ev _ _ = some (N 200) from rfl) gN (b_lssN _ _ _)) ?_; clear hS; intro a hS
      refine s_nil ?_
      refine k_seq ?_
      refine c_cond hS rfl (fun hc => ?_) (fun hc => ?_)
      · have hk1 : k < (200 - (72 + (loadN f).toNat % 128)) := by have := of_decide_eq_true hc; omega
        refine c_skip ?_
        refine k_seq ?_
        refine c_seq ?_
        refine c_block ?_
        refine c_seq ?_
        refine c_region ?_
        refine s_val hS (by decide) rfl rfl (r_move hS rfl) ?_; clear hS; intro a hS
        refine s_val hS (by decide) rfl rfl (r_move hS rfl) ?_; clear hS; intro a hS
        refine s_val hS (by decide) rfl rfl (r_indexR hS rfl (hr.keepGe hM trivial) rfl Try.underlying22 sz5 (by omega)) ?_; clear hS; intro a hS
        refine s_val hS (by decide) rfl rfl (r_loadR hS rfl (hr.keepGe hM trivial) (by omega) Try.underlying5 rfl) ?_; clear hS; intro a hS
        refine s_val hS (by decide) rfl rfl (r_bv hS rfl (show ev _ _ = some (B 0#8) from rfl) gB (b_neqB _ _ _)) ?_; clear hS; intro a hS
        refine s_nil ?_
        refine k_seq ?_
        refine c_cond hS rfl (fun hc => ?_) (fun hc => ?_)
        · skip
          refine c_seq ?_
          refine c_region ?_
          refine s_val hS (by decide) rfl rfl (r_assign hS rfl) ?_; clear hS; intro a hS
          refine s_nil ?_
          refine k_seq ?_
          refine c_ret ?_
          refine k_inr ?_
          refine k_thenr ?_
          refine k_thenr ?_
          refine k_inr ?_
          refine k_thenr ?_
          exact k_res1 hS rfl (RV.tmp rfl) ⟨rfl, hM.done trivial⟩
        · have h0 : f (72 + (loadN f).toNat % 128 + k) = 0#8 := by simpa using hc
          refine c_skip ?_
          refine k_in ?_
          refine k_seq ?_
          refine c_region ?_
          refine s_val hS (by decide) rfl rfl (r_move hS rfl) ?_; clear hS; intro a hS
          refine s_val hS (by decide) rfl rfl (r_bv hS rfl (show ev _ _ = some (N 1) from rfl) gN (b_addN _ _ _ (by omega))) ?_; clear hS; intro a hS
          refine s_val hS (by decide) rfl rfl (r_assign hS rfl) ?_; clear hS; intro a hS
          refine s_nil ?_
          refine k_then ?_
          refine ⟨k + 1, by omega, ⟨by omega, fun i hi => by rcases Nat.lt_or_ge i k with q | q; exact hk.2 i q; rw [show i = k by omega]; exact h0⟩, hS.to _ ⟨rfl, rfl, trivial⟩, hM⟩
      · obtain rfl : k = (200 - (72 + (loadN f).toNat % 128)) := by have := of_decide_eq_false hc; omega
        exact absurd ⟨rfl, Nat.not_lt.1 h1, fun i h8 h9 => by have := hk.2 (i - (72 + (loadN f).toNat % 128)) (by omega); rwa [show 72 + (loadN f).toNat % 128 + (i - (72 + (loadN f).toNat % 128)) = i by omega] at this⟩ hv

set_option maxRecDepth 100000 in
theorem rof_ok (w0 : World) {u : Value} {m : Nat} {f : Nat → BitVec 8} (hr : Rd w0 u m (fun i => B (f i))) (hm : m < 1000000) : Pure Try.prog 29 #[u] w0 (.agg (cB 64 (flatB (ovr iv (closed f m m) ((m + (1 + zc m + 8 + 8)) / 128)))).toArray) := by
  refine ⟨by kernel_rfl, ?_⟩
  refine calls_sym Try.func29 rfl (by kernel_rfl) ?_
  intro a hS
  have hM : Mem w0 w0 [] := Mem.refl w0
  refine c_seq ?_
  refine c_region ?_
  refine s_alloc hS hM (by decide) zero39 ?_; clear hS hM; intro a b2 w hb2 hS hM
  refine s_nil ?_
  refine k_seq ?_
  refine c_seq ?_
  refine c_region ?_
  refine s_val hS (by decide) rfl rfl (r_move hS rfl) ?_; clear hS; intro a hS
  refine s_append hS [_] (Lx := []) hM (by decide) rfl rfl elem22 Own.nil ((hr.keepGe hM ⟨hb2, trivial⟩).src Try.underlying22 (fun _ _ => rfl)) (by show 0 + m ≤ _; omega) ?_; clear hS hM; intro a w v Lx ho hS hM
  replace ho := ho.congr (cB_nil m f)
  refine s_buildSlice hS hM (by decide) (vs := [(0, B 128#8)]) rfl (row22_1 _) ?_; clear hS hM; intro a b6 w hb6 hS hM
  refine s_append hS [_, _] (Lx := Lx) hM (by decide) rfl rfl elem22 ho ((row1 hM).src Try.underlying22 (fun _ _ => rfl)) (by rw [show (cB (m) f).length = m from cells_len]; omega) ?_; clear hS hM ho; intro a w v Lx ho hS hM
  replace ho := ho.congr (pad_start m f)
  replace hM : Mem w0 w ([_] ++ Lx) := hM.drop hb6
  refine s_val hS (by decide) rfl rfl (r_assign hS rfl) ?_; clear hS; intro a hS
  refine s_nil ?_
  refine k_seq ?_
  refine c_seq ?_
  refine c_block ?_
  refine c_loop (σ := Nat × Value × List Blk) (fun s_ a w => (s_.1 ≤ zc (m) ∧ Own w0.heap.size 5 s_.2.1 (cB (m + 1 + s_.1) (cat f m (cat (fun _ => 128#8) 1 (fun _ => 0#8)))) s_.2.2) ∧ Slots a 27 (env [(0, u), (2, ptr b2 0), (3, s_.2.1)]) ∧ Mem w0 w ([⟨b2, 39, cB 64 (fun _ => 0)⟩] ++ s_.2.2)) (fun s_ => zc (m) - s_.1) (0, _, _) ⟨⟨Nat.zero_le _, ho⟩, hS.to _ ⟨rfl, rfl, rfl, trivial⟩, hM⟩ ?_
  clear hS hM; rintro ⟨k, v, Lx⟩ a w ⟨hk, hS, hM⟩
  obtain ⟨hk, ho⟩ := hk; dsimp only at hk ho hS hM
  have hz := zc_lt (m)
  refine c_seq ?_
  refine c_seq ?_
  refine c_region ?_
  refine s_val hS (by decide) rfl rfl (r_move hS rfl) ?_; clear hS; intro a hS
  refine s_val hS (by decide) rfl rfl (r_lenR hS rfl (ho.rdCells (L := [_]) hM) Try.underlying22) ?_; clear hS; intro a hS
  refine s_val hS (by decide) rfl rfl (r_bv hS rfl (show ev _ _ = some (N 128) from rfl) gN (b_remN _ _ _ (by omega))) ?_; clear hS; intro a hS
  refine s_val hS (by decide) rfl rfl (r_bv hS rfl (show ev _ _ = some (N 112) from rfl) gN (b_neqN _ _ _)) ?_; clear hS; intro a hS
  refine s_nil ?_
  refine k_seq ?_
  refine c_cond hS rfl (fun hc => ?_) (fun hc => ?_)
  · have hk1 : k < zc (m) := by rcases Nat.lt_or_ge k (zc (m)) with q | q; exact q; exact absurd hc (by rw [show k = zc (m) by omega, zc_end]; decide)
    refine c_skip ?_
    refine k_seq ?_
    refine c_block ?_
    refine c_region ?_
    refine s_val hS (by decide) rfl rfl (r_move hS rfl) ?_; clear hS; intro a hS
    refine s_buildSlice hS hM (by decide) (vs := [(0, B 0#8)]) rfl (row22_1 _) ?_; clear hS hM; intro a b13 w hb13 hS hM
    refine s_append hS [_, _] (Lx := Lx) hM (by decide) rfl rfl elem22 ho ((row1 hM).src Try.underlying22 (fun _ _ => rfl)) (by rw [show (cB (m + 1 + k) (cat f m (cat (fun _ => 128#8) 1 (fun _ => 0#8)))).length = m + 1 + k from cells_len]; omega) ?_; clear hS hM ho; intro a w v Lx ho hS hM
    refine s_val hS (by decide) rfl rfl (r_assign hS rfl) ?_; clear hS; intro a hS
    refine s_nil ?_
    refine k_in ?_
    refine k_then ?_
    refine ⟨(k + 1, _, _), (by show zc (m) - (k + 1) < zc (m) - k; omega), ⟨(by show k + 1 ≤ zc (m); omega), ho.congr (pad_snoc _ _ _)⟩, hS.to _ ⟨rfl, rfl, rfl, trivial⟩, (hM.drop hb13)⟩
  · obtain rfl : k = zc (m) := by rcases Nat.lt_or_ge k (zc (m)) with q | q; exact absurd (of_decide_eq_true (by simpa using hc)) (zc_more q); omega
    refine c_exit ?_
    refine k_thenx ?_
    refine k_thenx ?_
    refine k_inx ?_
    refine k_seq ?_
    refine c_seq ?_
    refine c_region ?_
    refine s_val hS (by decide) rfl rfl (r_move hS rfl) ?_; clear hS; intro a hS
    refine s_appendZ hS [_] (Lx := Lx) hM (by decide) rfl (show ev _ _ = some (N 8) from rfl) elem22 Try.underlying3 (zs_one _) ho (by rw [show (cB (m + 1 + zc m) (cat f m (cat (fun _ => 128#8) 1 (fun _ => 0#8)))).length = m + 1 + zc m from cells_len]; omega) ?_; clear hS hM ho; intro a w v Lx ho hS hM
    replace ho := ho.congr (cB_zeros _ _ _)
    refine s_val hS (by decide) rfl rfl (r_move hS rfl) ?_; clear hS; intro a hS
    refine s_val hS (by decide) rfl rfl (r_lenR hS rfl (hr.keepGe hM ⟨hb2, allGe_of ho.ge⟩) Try.underlying22) ?_; clear hS; intro a hS
    refine s_val hS (by decide) rfl rfl (r_conv hS rfl (by kernel_rfl) Try.underlying24 (cv_NU _)) ?_; clear hS; intro a hS
    refine s_val hS (by decide) rfl rfl (r_bv hS (show ev _ _ = some (U 8#64) from rfl) rfl gU (b_mulU _ _ _)) ?_; clear hS; intro a hS
    refine s_newrow hS hM (by decide) rfl (high_ok _ _) ?_; clear hS hM; intro a w b21 hb21 hS hM
    refine s_append hS [_, _] (Lx := Lx) hM (by decide) rfl rfl elem22 ho ((rd_row hM (j := 0) rfl).src Try.underlying22 (fun _ _ => rfl)) (by rw [show (cB (m + 1 + zc m + 8) (cat (cat f m (cat (fun _ => 128#8) 1 (fun _ => 0#8))) (m + 1 + zc m) (fun _ => 0#8))).length = m + 1 + zc m + 8 from cells_len]; omega) ?_; clear hS hM ho; intro a w v Lx ho hS hM
    replace ho := ho.congr (cB_cat _ _ _ _)
    replace ho := ho.congr (of_end f m (by omega))
    replace hM : Mem w0 w ([_] ++ Lx) := hM.drop hb21
    refine s_val hS (by decide) rfl rfl (r_assign hS rfl) ?_; clear hS; intro a hS
    refine s_nil ?_
    refine k_seq ?_
    refine c_seq ?_
    refine c_region ?_
    refine s_pure hS hM (by decide) rfl (rbegin_ok _) ?_; clear hS hM; intro a w hS hM
    refine s_val hS (by decide) rfl rfl (r_move hS rfl) ?_; clear hS; intro a hS
    refine s_pure hS hM (by decide) rfl (over_ok _ _ (ho.rdCells (L := [_]) hM) (by omega)) ?_; clear hS hM; intro a w hS hM
    refine s_pure hS hM (by decide) rfl (flat_ok _ _) ?_; clear hS hM; intro a w hS hM
    refine s_storeAll hS hM rfl rfl (j := 0) rfl sz39 cells_len cells_len cB_one ?_; clear hS hM; intro a w hS hM
    refine s_nil ?_
    refine k_seq ?_
    refine c_ret ?_
    exact k_res1 hS rfl (RV.row rfl (hM.have_ _ (mem_of_get (j := 0) rfl)) Try.underlying39 rfl (by rw [sz39]; exact congrArg some cells_len.symm)) ⟨rfl, (Mem.dropRight (L := [_]) hM ho.ge).done ⟨hb2, trivial⟩⟩

set_option maxRecDepth 100000 in
theorem rfrom_ok (w0 : World) {u : Value} {f : Nat → BitVec 8} (hr : Rd w0 u 200 (fun i => B (f i))) : Pure Try.prog 41 #[u] w0 (.agg (cB 64 (flatB (ovr (loadS f) (cat (fun i => f (72 + i)) ((loadN f).toNat % 128) (closing (loadN f >>> 61) (loadN f <<< 3) (zc ((loadN f).toNat % 128)))) (((loadN f).toNat % 128 + (1 + zc ((loadN f).toNat % 128) + 8 + 8)) / 128)))).toArray) := by
  have hlt : (loadN f).toNat % 128 < 128 := Nat.mod_lt _ (by decide)
  refine ⟨by kernel_rfl, ?_⟩
  refine calls_sym Try.func41 rfl (by kernel_rfl) ?_
  intro a hS
  have hM : Mem w0 w0 [] := Mem.refl w0
  refine c_seq ?_
  refine c_region ?_
  refine s_alloc hS hM (by decide) zero39 ?_; clear hS hM; intro a b2 w hb2 hS hM
  refine s_nil ?_
  refine k_seq ?_
  refine c_seq ?_
  refine c_region ?_
  refine s_val hS (by decide) rfl rfl (r_move hS rfl) ?_; clear hS; intro a hS
  refine s_pure hS hM (by decide) rfl (rcount_ok _ (hr.keepGe hM ⟨hb2, trivial⟩) (by omega)) ?_; clear hS hM; intro a w hS hM
  refine s_val hS (by decide) rfl rfl (r_assign hS rfl) ?_; clear hS; intro a hS
  refine s_nil ?_
  refine k_seq ?_
  refine c_seq ?_
  refine c_region ?_
  refine s_val hS (by decide) rfl rfl (r_move hS rfl) ?_; clear hS; intro a hS
  refine s_val hS (by decide) rfl rfl (r_move hS rfl) ?_; clear hS; intro a hS
  refine s_val hS (by decide) rfl rfl (r_bv hS rfl (show ev _ _ = some (U 128#64) from rfl) gU (b_remU _ _ _ (by decide))) ?_; clear hS; intro a hS
  refine s_val hS (by decide) rfl rfl (r_bv hS (show ev _ _ = some (U 72#64) from rfl) rfl gU (b_addU _ _ _)) ?_; clear hS; intro a hS
  replace hS := hS.to [(2, ptr b2 0), (3, U (loadN f)), (0, u), (7, u), (10, U (BitVec.ofNat 64 (72 + (loadN f).toNat % 128)))] ⟨rfl, rfl, rfl, rfl, congrArg (fun q => some (U q)) (add72 _), trivial⟩
  refine s_val hS (by decide) rfl rfl (r_sliceR hS rfl (hr.keepGe hM ⟨hb2, trivial⟩) Try.underlying22 sz5 ⟨_, (show ev _ _ = some (.int .i64 ((72 : Nat) : Int)) from rfl)⟩ ⟨_, (show ev _ _ = some (.int .u64 ((72 + ((loadN f).toNat % 128) : Nat) : Int)) from congrArg (fun q : Nat => some (Value.int .u64 (q : Int))) (ofNat72 hlt))⟩ (by omega) (by omega)) ?_; clear hS; intro a hS
  refine s_append hS [_] (Lx := []) hM (by decide) rfl rfl elem22 Own.nil (((hr.keepGe hM ⟨hb2, trivial⟩).slc (l := 72) (h := 72 + (loadN f).toNat % 128) (by omega) (by omega)).src Try.underlying22 (fun _ _ => rfl)) (by show 0 + (72 + (loadN f).toNat % 128 - 72) ≤ _; omega) ?_; clear hS hM; intro a w v Lx ho hS hM
  replace ho := ho.congr (show _ = cB ((loadN f).toNat % 128) (fun i => f (72 + i)) by rw [show 72 + ((loadN f).toNat % 128) - 72 = ((loadN f).toNat % 128) by omega]; rfl)
  refine s_buildSlice hS hM (by decide) (vs := [(0, B 128#8)]) rfl (row22_1 _) ?_; clear hS hM; intro a b13 w hb13 hS hM
  refine s_append hS [_, _] (Lx := Lx) hM (by decide) rfl rfl elem22 ho ((row1 hM).src Try.underlying22 (fun _ _ => rfl)) (by rw [show (cB (((loadN f).toNat % 128)) (fun i => f (72 + i))).length = ((loadN f).toNat % 128) from cells_len]; omega) ?_; clear hS hM ho; intro a w v Lx ho hS hM
  replace ho := ho.congr (pad_start ((loadN f).toNat % 128) (fun i => f (72 + i)))
  replace hM : Mem w0 w ([_] ++ Lx) := hM.drop hb13
  refine s_val hS (by decide) rfl rfl (r_assign hS rfl) ?_; clear hS; intro a hS
  refine s_nil ?_
  refine k_seq ?_
  refine c_seq ?_
  refine c_block ?_
  refine c_loop (σ := Nat × Value × List Blk) (fun s_ a w => (s_.1 ≤ zc (((loadN f).toNat % 128)) ∧ Own w0.heap.size 5 s_.2.1 (cB (((loadN f).toNat % 128) + 1 + s_.1) (cat (fun i => f (72 + i)) ((loadN f).toNat % 128) (cat (fun _ => 128#8) 1 (fun _ => 0#8)))) s_.2.2) ∧ Slots a 36 (env [(0, u), (2, ptr b2 0), (3, U (loadN f)), (4, s_.2.1)]) ∧ Mem w0 w ([⟨b2, 39, cB 64 (fun _ => 0)⟩] ++ s_.2.2)) (fun s_ => zc (((loadN f).toNat % 128)) - s_.1) (0, _, _) ⟨⟨Nat.zero_le _, ho⟩, hS.to _ ⟨rfl, rfl, rfl, rfl, trivial⟩, hM⟩ ?_
  clear hS hM; rintro ⟨k, v, Lx⟩ a w ⟨hk, hS, hM⟩
  obtain ⟨hk, ho⟩ := hk; dsimp only at hk ho hS hM
  have hz := zc_lt (((loadN f).toNat % 128))
  refine c_seq ?_
  refine c_seq ?_
  refine c_region ?_
  refine s_val hS (by decide) rfl rfl (r_move hS rfl) ?_; clear hS; intro a hS
  refine s_val hS (by decide) rfl rfl (r_lenR hS rfl (ho.rdCells (L := [_]) hM) Try.underlying22) ?_; clear hS; intro a hS
  refine s_val hS (by decide) rfl rfl (r_bv hS rfl (show ev _ _ = some (N 128) from rfl) gN (b_remN _ _ _ (by omega))) ?_; clear hS; intro a hS
  refine s_val hS (by decide) rfl rfl (r_bv hS rfl (show ev _ _ = some (N 112) from rfl) gN (b_neqN _ _ _)) ?_; clear hS; intro a hS
  refine s_nil ?_
  refine k_seq ?_
  refine c_cond hS rfl (fun hc => ?_) (fun hc => ?_)
  · have hk1 : k < zc (((loadN f).toNat % 128)) := by rcases Nat.lt_or_ge k (zc (((loadN f).toNat % 128))) with q | q; exact q; exact absurd hc (by rw [show k = zc (((loadN f).toNat % 128)) by omega, zc_end]; decide)
    refine c_skip ?_
    refine k_seq ?_
    refine c_block ?_
    refine c_region ?_
    refine s_val hS (by decide) rfl rfl (r_move hS rfl) ?_; clear hS; intro a hS
    refine s_buildSlice hS hM (by decide) (vs := [(0, B 0#8)]) rfl (row22_1 _) ?_; clear hS hM; intro a b20 w hb20 hS hM
    refine s_append hS [_, _] (Lx := Lx) hM (by decide) rfl rfl elem22 ho ((row1 hM).src Try.underlying22 (fun _ _ => rfl)) (by rw [show (cB (((loadN f).toNat % 128) + 1 + k) (cat (fun i => f (72 + i)) ((loadN f).toNat % 128) (cat (fun _ => 128#8) 1 (fun _ => 0#8)))).length = ((loadN f).toNat % 128) + 1 + k from cells_len]; omega) ?_; clear hS hM ho; intro a w v Lx ho hS hM
    refine s_val hS (by decide) rfl rfl (r_assign hS rfl) ?_; clear hS; intro a hS
    refine s_nil ?_
    refine k_in ?_
    refine k_then ?_
    refine ⟨(k + 1, _, _), (by show zc (((loadN f).toNat % 128)) - (k + 1) < zc (((loadN f).toNat % 128)) - k; omega), ⟨(by show k + 1 ≤ zc (((loadN f).toNat % 128)); omega), ho.congr (pad_snoc _ _ _)⟩, hS.to _ ⟨rfl, rfl, rfl, rfl, trivial⟩, (hM.drop hb20)⟩
  · obtain rfl : k = zc (((loadN f).toNat % 128)) := by rcases Nat.lt_or_ge k (zc (((loadN f).toNat % 128))) with q | q; exact absurd (of_decide_eq_true (by simpa using hc)) (zc_more q); omega
    refine c_exit ?_
    refine k_thenx ?_
    refine k_thenx ?_
    refine k_inx ?_
    refine k_seq ?_
    refine c_seq ?_
    refine c_region ?_
    refine s_val hS (by decide) rfl rfl (r_move hS rfl) ?_; clear hS; intro a hS
    refine s_val hS (by decide) rfl rfl (r_move hS rfl) ?_; clear hS; intro a hS
    refine s_val hS (by decide) rfl rfl (r_bv hS rfl (show ev _ _ = some (.int .u64 ((61 : Nat) : Int)) from rfl) gU (b_shrU _ _ _ 61)) ?_; clear hS; intro a hS
    refine s_newrow hS hM (by decide) rfl (high_ok _ _) ?_; clear hS hM; intro a w b25 hb25 hS hM
    refine s_append hS [_, _] (Lx := Lx) hM (by decide) rfl rfl elem22 ho ((rd_row hM (j := 0) rfl).src Try.underlying22 (fun _ _ => rfl)) (by rw [show (cB (((loadN f).toNat % 128) + 1 + zc ((loadN f).toNat % 128)) (cat (fun i => f (72 + i)) ((loadN f).toNat % 128) (cat (fun _ => 128#8) 1 (fun _ => 0#8)))).length = ((loadN f).toNat % 128) + 1 + zc ((loadN f).toNat % 128) from cells_len]; omega) ?_; clear hS hM ho; intro a w v Lx ho hS hM
    replace ho := ho.congr (cB_cat _ _ _ _)
    replace hM : Mem w0 w ([_] ++ Lx) := hM.drop hb25
    refine s_val hS (by decide) rfl rfl (r_move hS rfl) ?_; clear hS; intro a hS
    refine s_val hS (by decide) rfl rfl (r_bv hS rfl (show ev _ _ = some (.int .u64 ((3 : Nat) : Int)) from rfl) gU (b_shlU _ _ _ 3)) ?_; clear hS; intro a hS
    refine s_newrow hS hM (by decide) rfl (high_ok _ _) ?_; clear hS hM; intro a w b29 hb29 hS hM
    refine s_append hS [_, _] (Lx := Lx) hM (by decide) rfl rfl elem22 ho ((rd_row hM (j := 0) rfl).src Try.underlying22 (fun _ _ => rfl)) (by rw [show (cB (((loadN f).toNat % 128) + 1 + zc ((loadN f).toNat % 128) + 8) (cat (cat (fun i => f (72 + i)) ((loadN f).toNat % 128) (cat (fun _ => 128#8) 1 (fun _ => 0#8))) (((loadN f).toNat % 128) + 1 + zc ((loadN f).toNat % 128)) (be (loadN f >>> 61)))).length = ((loadN f).toNat % 128) + 1 + zc ((loadN f).toNat % 128) + 8 from cells_len]; have := zc_lt ((loadN f).toNat % 128); omega) ?_; clear hS hM ho; intro a w v Lx ho hS hM
    replace ho := ho.congr (cB_cat _ _ _ _)
    replace ho := ho.congr (from_end (fun i => f (72 + i)) ((loadN f).toNat % 128) (loadN f >>> 61) (loadN f <<< 3))
    replace hM : Mem w0 w ([_] ++ Lx) := hM.drop hb29
    refine s_val hS (by decide) rfl rfl (r_assign hS rfl) ?_; clear hS; intro a hS
    refine s_nil ?_
    refine k_seq ?_
    refine c_seq ?_
    refine c_region ?_
    refine s_val hS (by decide) rfl rfl (r_move hS rfl) ?_; clear hS; intro a hS
    refine s_pure hS hM (by decide) rfl (rwords64_ok _ (hr.keepGe hM ⟨hb2, allGe_of ho.ge⟩) (by omega)) ?_; clear hS hM; intro a w hS hM
    refine s_val hS (by decide) rfl rfl (r_move hS rfl) ?_; clear hS; intro a hS
    refine s_pure hS hM (by decide) rfl (over_ok _ _ (ho.rdCells (L := [_]) hM) (by have := zc_lt ((loadN f).toNat % 128); omega)) ?_; clear hS hM; intro a w hS hM
    refine s_pure hS hM (by decide) rfl (flat_ok _ _) ?_; clear hS hM; intro a w hS hM
    refine s_storeAll hS hM rfl rfl (j := 0) rfl sz39 cells_len cells_len cB_one ?_; clear hS hM; intro a w hS hM
    refine s_nil ?_
    refine k_seq ?_
    refine c_ret ?_
    exact k_res1 hS rfl (RV.row rfl (hM.have_ _ (mem_of_get (j := 0) rfl)) Try.underlying39 rfl (by rw [sz39]; exact congrArg some cells_len.symm)) ⟨rfl, (Mem.dropRight (L := [_]) hM ho.ge).done ⟨hb2, trivial⟩⟩

set_option maxRecDepth 100000 in
theorem rmid_ok (w0 : World) {u : Value} {m : Nat} {f : Nat → BitVec 8} (hr : Rd w0 u m (fun i => B (f i))) (hm : m < 1000000) : Fresh Try.prog 36 #[u] w0 5 (cB 200 (midF (HS.zero.puts f m))) := by
  refine ⟨by kernel_rfl, ?_⟩
  refine calls_sym Try.func36 rfl (by kernel_rfl) ?_
  intro a hS
  have hM : Mem w0 w0 [] := Mem.refl w0
  refine c_seq ?_
  refine c_region ?_
  refine s_val hS (by decide) rfl rfl (r_assign hS rfl) ?_; clear hS; intro a hS
  refine s_nil ?_
  refine k_seq ?_
  refine c_seq ?_
  refine c_region ?_
  refine s_pure hS hM (by decide) rfl (rbegin_ok _) ?_; clear hS hM; intro a w hS hM
  refine s_val hS (by decide) rfl rfl (r_move hS rfl) ?_; clear hS; intro a hS
  refine s_pure hS hM (by decide) rfl (over_ok _ _ (hr.keepGe hM trivial) (by omega)) ?_; clear hS hM; intro a w hS hM
  refine s_fresh hS hM (by decide) rfl (bytes_ok _ _) ?_; clear hS hM; intro a w v7 L7 ho7 hS hM
  replace hM := hM.swap
  refine s_val hS (by decide) rfl rfl (r_move hS rfl) ?_; clear hS; intro a hS
  refine s_val hS (by decide) rfl rfl (r_lenR hS rfl (hr.keepGe hM (allGe_of ho7.ge)) Try.underlying22) ?_; clear hS; intro a hS
  refine s_val hS (by decide) rfl rfl (r_conv hS rfl (by kernel_rfl) Try.underlying24 (cv_NU _)) ?_; clear hS; intro a hS
  refine s_newrow hS hM (by decide) rfl (high_ok _ _) ?_; clear hS hM; intro a w b11 hb11 hS hM
  refine s_append hS [_] (Lx := L7) hM (by decide) rfl rfl elem22 ho7 ((rd_row hM (j := 0) rfl).src Try.underlying22 (fun _ _ => rfl)) (by rw [show (cB 64 (flatB (ovr iv f (m / 128)))).length = 64 from cells_len]; decide) ?_; clear hS hM ho7; intro a w v Lx ho hS hM
  replace ho := ho.congr (cB_cat _ _ _ _)
  replace hM : Mem w0 w ([] ++ Lx) := hM.drop hb11
  refine s_val hS (by decide) rfl rfl (r_assign hS rfl) ?_; clear hS; intro a hS
  refine s_nil ?_
  refine k_seq ?_
  refine c_seq ?_
  refine c_region ?_
  refine s_val hS (by decide) rfl rfl (r_move hS rfl) ?_; clear hS; intro a hS
  refine s_val hS (by decide) rfl rfl (r_move hS rfl) ?_; clear hS; intro a hS
  refine s_val hS (by decide) rfl rfl (r_move hS rfl) ?_; clear hS; intro a hS
  refine s_val hS (by decide) rfl rfl (r_lenR hS rfl (hr.keepGe hM (allGe_of ho.ge)) Try.underlying22) ?_; clear hS; intro a hS
  refine s_val hS (by decide) rfl rfl (r_bv hS rfl (show ev _ _ = some (N 128) from rfl) gN (b_quoN _ _ _ (by omega) (by omega))) ?_; clear hS; intro a hS
  refine s_val hS (by decide) rfl rfl (r_bv hS rfl (show ev _ _ = some (N 128) from rfl) gN (b_mulN _ _ _ (by omega))) ?_; clear hS; intro a hS
  refine s_val hS (by decide) rfl rfl (r_sliceR hS rfl (hr.keepGe hM (allGe_of ho.ge)) Try.underlying22 sz5 ⟨_, rfl⟩ rfl (by omega) (Nat.le_refl _)) ?_; clear hS; intro a hS
  refine s_append hS [] (Lx := Lx) hM (by decide) rfl rfl elem22 ho (((hr.keepGe hM (allGe_of ho.ge)).slc (by omega) (Nat.le_refl _)).src Try.underlying22 (fun _ _ => rfl)) (by rw [show (cB (64 + 8) (cat (flatB (ovr iv f (m / 128))) 64 (be (BitVec.ofNat 64 m)))).length = 64 + 8 from cells_len]; omega) ?_; clear hS hM ho; intro a w v Lx ho hS hM
  replace ho := ho.congr (cB_cat _ _ _ _)
  refine s_val hS (by decide) rfl rfl (r_assign hS rfl) ?_; clear hS; intro a hS
  refine s_nil ?_
  refine k_seq ?_
  refine c_seq ?_
  refine c_region ?_
  refine s_val hS (by decide) rfl rfl (r_move hS rfl) ?_; clear hS; intro a hS
  refine s_val hS (by decide) rfl rfl (r_move hS rfl) ?_; clear hS; intro a hS
  refine s_val hS (by decide) rfl rfl (r_lenR hS rfl (ho.rdCells (L := []) hM) Try.underlying22) ?_; clear hS; intro a hS
  refine s_val hS (by decide) rfl rfl (r_bv hS (show ev _ _ = some (N 200) from rfl) rfl gN (b_subN _ _ _ (by omega) (by omega))) ?_; clear hS; intro a hS
  refine s_appendZ hS [] (Lx := Lx) hM (by decide) rfl rfl elem22 Try.underlying3 (zs_one _) ho (by rw [show (cB (64 + 8 + (m - (m / 128 * 128))) (cat (cat (flatB (ovr iv f (m / 128))) 64 (be (BitVec.ofNat 64 m))) (64 + 8) (fun i => f ((m / 128 * 128) + i)))).length = 64 + 8 + (m - (m / 128 * 128)) from cells_len]; omega) ?_; clear hS hM ho; intro a w v Lx ho hS hM
  replace ho := ho.congr (cB_zeros _ _ _)
  refine s_val hS (by decide) rfl rfl (r_assign hS rfl) ?_; clear hS; intro a hS
  refine s_nil ?_
  refine k_seq ?_
  refine c_ret ?_
  exact k_res1 hS rfl (RV.tmp rfl) ⟨_, _, rfl, ho.congr (rmid_end f m (by omega)), hM⟩
end Go.Proofs.Ytfojllcccncdbaa
