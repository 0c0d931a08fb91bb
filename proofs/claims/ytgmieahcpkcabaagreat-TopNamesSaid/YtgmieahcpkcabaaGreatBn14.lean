import Derived.Test.YtgmieahcpkcabaaGreatBn13
import Derived.Test.YtgmieahcpkcabaaGreatBn9
import Derived.Test.YtgmieahcpkcabaaGreatBn10
import Derived.Test.YtgmieahcpkcabaaGreatBn5
import Derived.Laws.MakeOwn
import Derived.Test.YtgmieahcpkcabaaGreatBn8
import Derived.Test.YtgmieahcpkcabaaGreatBn4
import Derived.Test.YtgmieahcpkcabaaGreatBn3
import Derived.Test.YtgmieahcpkcabaaGreatBn11
namespace Go.Proofs.YtgmieahcpkcabaaGreat
open Go Go.Sym
attribute [local irreducible] sstep wordsTo HS.puts be flatB
theorem zero196 : Zero Tryz.prog 196 (hC false (fun _ => 0) 0 (fun _ => 0)) := fun _ => by kernel_rfl
theorem hbld_new (s : Nat → BitVec 64) (w : World) : (Instr.build 196 ([(0, .bool true), (1, .agg (cU 8 s).toArray)] : List (Nat × Value)).toArray).run Tryz.prog w = .ok (.agg (hC true s 0 (fun _ => 0)).toArray) w := by kernel_rfl
theorem sz3 : (Tryz.prog.info? 3).map (·.size) = some 1 := by kernel_rfl
theorem sz46 : (Tryz.prog.info? 46).map (·.size) = some 64 := by kernel_rfl
theorem sz194 : (Tryz.prog.info? 194).map (·.size) = some 128 := by kernel_rfl
theorem sz196 : (Tryz.prog.info? 196).map (·.size) = some 138 := by kernel_rfl
theorem zero46 : Zero Tryz.prog 46 (cB 64 (fun _ => 0)) := fun _ => by kernel_rfl
theorem row36_1 (x0 : BitVec 8) : BuildsRow Tryz.prog 36 5 1 [(0, B x0)] [B x0] := fun _ => by kernel_rfl
theorem elem36 : ElemOk Tryz.prog 36 5 (B 0) 1 := ⟨Tryz.underlying36, by kernel_rfl, by decide, by decide⟩
set_option maxRecDepth 100000 in
theorem begin_ok  (w0 : World) : Pure Tryz.prog 131 #[] w0 (.agg (cU 8 iv).toArray) := by
  refine ⟨by kernel_rfl, ?_⟩
  refine calls_sym Tryz.func131 rfl (by kernel_rfl) ?_
  intro a hS
  have hM : Mem w0 w0 [] := Mem.refl w0
  refine c_seq <| c_region ?_
  refine s_alloc hS hM (by decide) zero193 ?_; clear hS hM; intro a b0 w hb0 hS hM
  refine s_nil <| k_seq <| c_seq <| c_region ?_
  refine vg hS <| vv (r_build · (vs := [(0, U 7640891576956012808#64), (1, U 13503953896175478587#64), (2, U 4354685564936845355#64), (3, U 11912009170470909681#64), (4, U 5840696475078001361#64), (5, U 11170449401992604703#64), (6, U 2270897969802886507#64), (7, U 6620516959819538809#64)]) rfl (build193 _ _ _ _ _ _ _ _)) ?_; clear hS; intro a hS
  refine s_storeAll hS hM rfl rfl (j := 0) rfl sz193 cells_len cells_len cU_one ?_; clear hS hM; intro a w hS hM
  refine s_nil <| k_seq <| c_ret ?_
  exact k_res1 hS rfl (RV.row rfl (hM.have_ _ (mem_of_get (j := 0) rfl)) Tryz.underlying193 rfl (by rw [sz193]; exact congrArg some cells_len.symm)) ⟨rfl, hM.done ⟨hb0, trivial⟩⟩
set_option maxRecDepth 100000 in
theorem new_ok (w0 : World) : NewObj Tryz.prog 63 #[] w0 196 (hH true HS.zero) := by
  refine ⟨by kernel_rfl, ?_⟩
  refine calls_sym Tryz.func63 rfl (by kernel_rfl) ?_
  intro a hS
  have hM : Mem w0 w0 [] := Mem.refl w0
  refine c_seq <| c_region ?_
  refine vg hS <| va rfl ?_; clear hS; intro a hS
  refine s_nil <| k_seq <| c_seq <| c_region ?_
  refine s_pure hS hM (by decide) rfl (begin_ok _) ?_; clear hS hM; intro a w hS hM
  refine vg hS <| vv (r_build · rfl (hbld_new _)) ?_; clear hS; intro a hS
  refine s_box hS hM (by decide) rfl rfl ?_; clear hS hM; intro a b3 w hb3 hS hM
  refine vg hS <| va rfl ?_; clear hS; intro a hS
  refine s_nil <| k_seq <| c_ret ?_
  exact k_res1 hS rfl (RV.tmp rfl) (newobj_end hb3 hM)
set_option maxRecDepth 100000 in
theorem own_ok (w0 : World) (b : Nat) (bg : Bool) (h : HS) (hb : w0.heap[b]? = some (.cells (hH bg h).toArray 196 (0, 0))) : Pure Tryz.prog 108 #[ptr b 0] w0 (.agg (hH true (asH bg h)).toArray) := by
  refine ⟨by kernel_rfl, ?_⟩
  refine calls_sym Tryz.func108 rfl (by kernel_rfl) ?_
  intro a hS
  have hM : Mem w0 w0 [⟨b, 196, hH bg h⟩] := Mem.start hb
  refine c_seq <| c_region ?_
  refine s_alloc hS hM (by decide) zero196 ?_; clear hS hM; intro a b2 w hb2 hS hM
  refine s_nil <| k_seq <| c_seq <| c_seq ?_
  cases bg
  · skip
    refine c_region ?_
    refine vg hS <| vm rfl <| vv (r_ptrNil · rfl rfl Tryz.underlying123) <| vm rfl ?_; clear hS; intro a hS
    refine s_valg hS (by decide) rfl rfl rfl rfl rfl (r_move hS rfl) ?_; clear hS; intro a hS
    refine s_valg hS (by decide) rfl rfl rfl rfl rfl (r_nilCheck hS rfl) ?_; clear hS; intro a hS
    refine s_valg hS (by decide) rfl rfl rfl rfl rfl (r_field0 hS rfl Tryz.underlying196 rfl (s := 0) sz4 (k := 0) rfl) ?_; clear hS; intro a hS
    refine s_valg hS (by decide) rfl rfl rfl rfl rfl (r_load hS hM rfl (j := 1) rfl Tryz.underlying4 rfl (hC_bg _ _ _ _)) ?_; clear hS; intro a hS
    refine s_valg hS (by decide) rfl rfl rfl rfl rfl (r_not hS rfl) ?_; clear hS; intro a hS
    refine vg hS <| vv (r_pick · rfl rfl) ?_; clear hS; intro a hS
    refine s_nil <| k_seq ?_
    refine c_true hS rfl rfl ?_
    refine c_seq <| c_region ?_
    refine s_newobj hS hM (by decide) rfl (new_ok _) ?_; clear hS hM; intro a w b12 hb12 hS hM
    refine vg hS <| vv (r_nilCheck · rfl) <| vv (r_loadAll · hM rfl (j := 0) rfl Tryz.underlying196 rfl sz196 (hC_len _ _ _ _)) ?_; clear hS; intro a hS
    refine s_storeAll hS hM rfl rfl (j := 1) rfl sz196 (hC_len _ _ _ _) (hC_len _ _ _ _) (hC_one _ _ _ _) ?_; clear hS hM; intro a w hS hM
    refine s_nil <| k_seq <| c_ret <| k_thenr ?_
    exact k_res1 hS rfl (RV.row rfl (hM.have_ _ (mem_of_get (j := 1) rfl)) Tryz.underlying196 rfl (by rw [sz196]; exact congrArg some (hC_len _ _ _ _).symm)) ⟨rfl, Mem.same hb (by first | exact hM.drop hb2 | exact (hM.drop hb12).drop hb2)⟩
  · skip
    refine c_region ?_
    refine vg hS <| vm rfl <| vv (r_ptrNil · rfl rfl Tryz.underlying123) <| vm rfl ?_; clear hS; intro a hS
    refine s_valg hS (by decide) rfl rfl rfl rfl rfl (r_move hS rfl) ?_; clear hS; intro a hS
    refine s_valg hS (by decide) rfl rfl rfl rfl rfl (r_nilCheck hS rfl) ?_; clear hS; intro a hS
    refine s_valg hS (by decide) rfl rfl rfl rfl rfl (r_field0 hS rfl Tryz.underlying196 rfl (s := 0) sz4 (k := 0) rfl) ?_; clear hS; intro a hS
    refine s_valg hS (by decide) rfl rfl rfl rfl rfl (r_load hS hM rfl (j := 1) rfl Tryz.underlying4 rfl (hC_bg _ _ _ _)) ?_; clear hS; intro a hS
    refine s_valg hS (by decide) rfl rfl rfl rfl rfl (r_not hS rfl) ?_; clear hS; intro a hS
    refine vg hS <| vv (r_pick · rfl rfl) ?_; clear hS; intro a hS
    refine s_nil <| k_seq ?_
    refine c_false hS rfl rfl ?_
    refine c_skip <| k_seq <| c_seq <| c_region ?_
    refine vg hS <| vm rfl <| vv (r_nilCheck · rfl) <| vv (r_loadAll · hM rfl (j := 1) rfl Tryz.underlying196 rfl sz196 (hC_len _ _ _ _)) ?_; clear hS; intro a hS
    refine s_storeAll hS hM rfl rfl (j := 0) rfl sz196 (hC_len _ _ _ _) (hC_len _ _ _ _) (hC_one _ _ _ _) ?_; clear hS hM; intro a w hS hM
    refine s_nil <| k_seq <| c_ret ?_
    exact k_res1 hS rfl (RV.row rfl (hM.have_ _ (mem_of_get (j := 0) rfl)) Tryz.underlying196 rfl (by rw [sz196]; exact congrArg some (hC_len _ _ _ _).symm)) ⟨rfl, Mem.same hb (by first | exact hM.drop hb2 | exact (hM.drop hb12).drop hb2)⟩
set_option maxRecDepth 100000 in
theorem put_ok (w0 : World) (b : Nat) (bg : Bool) (h : HS) {v : Value} {m : Nat} {f : Nat → BitVec 8} (hb : w0.heap[b]? = some (.cells (hH bg h).toArray 196 (0, 0))) (hr : Rd w0 v m (fun i => B (f i))) (hne : 0 < m → rb v ≠ b) (hn : h.n + m < 4611686018427387904) : Wrote Tryz.prog 109 #[ptr b 0, v] w0 b 196 (hH bg (h.puts f m)) (.tuple #[]) := by
  refine ⟨by kernel_rfl, ?_⟩
  refine calls_sym Tryz.func109 rfl (by kernel_rfl) ?_
  intro a hS
  have hM : Mem w0 w0 [⟨b, 196, hH bg h⟩] := Mem.start hb
  refine c_seq <| c_region ?_
  refine vg hS <| vm rfl <| vv (r_lenR · rfl (hr.keep hM (ne_one hne)) Tryz.underlying36) <| vv (r_move · (show ev _ _ = some (N 0) from rfl)) ?_; clear hS; intro a hS
  refine s_nil <| k_seq <| c_block ?_
  refine c_loop (σ := Nat) (fun k a w => (k ≤ m) ∧ Slots a 55 (env [(0, ptr b 0), (8, v), (9, N m), (10, N k)]) ∧ Mem w0 w ([⟨b, 196, hC bg (h.puts f k).s (h.puts f k).n (h.puts f k).w⟩])) (fun k => m - k) (0) ⟨by omega, hS.to _ ⟨rfl, rfl, rfl, rfl, trivial⟩, (hM.congr (by unfold hH HS.puts; rfl))⟩ ?_
  clear hS hM; rintro k a w ⟨hk, hS, hM⟩
  have hpn := HS.puts_n h f k
  refine c_seq <| c_region ?_
  refine vg hS <| vv (r_bv · rfl rfl gN (b_lssN _ _ _)) ?_; clear hS; intro a hS
  refine s_nil <| k_seq <| c_seq ?_
  refine c_cond hS rfl (fun hc => ?_) (fun hc => ?_)
  · have hk1 := of_decide_eq_true hc
    refine c_skip <| k_seq <| c_seq <| c_block <| c_seq <| c_region ?_
    refine vg hS <| vv (r_indexR · rfl (hr.keep hM (ne_one hne)) rfl Tryz.underlying36 sz5 (by omega)) <| vv (r_loadR · rfl (hr.keep hM (ne_one hne)) (by omega) Tryz.underlying5 rfl) <| va rfl ?_; clear hS; intro a hS
    refine s_nil <| k_seq <| c_seq ?_
    refine c_plan 10 (fun w => Mem w0 w _) [(0, _), (5, _), (8, _), (9, _), (10, _), (11, _), (12, _), (13, _)] (by kernel_rfl) (by kernel_rfl) hS ⟨rfl, rfl, rfl, rfl, rfl, rfl, rfl, rfl, trivial⟩ (hM.drawn _) ?_; clear hS hM
    refine pv rfl (fun hS _ => r_move hS rfl) <| pv rfl (fun hS _ => r_move hS rfl) <| pv rfl (fun hS _ => r_nilCheck hS rfl) <| pv rfl (fun hS _ => r_field0 hS rfl Tryz.underlying196 rfl (s := 0) sz3 (k := 9) rfl) <| pv rfl (fun hS hM => r_load hS hM rfl (j := 0) rfl Tryz.underlying3 rfl (hC_n _ _ _ _)) <| pv rfl (fun hS _ => r_bv hS rfl (show ev _ _ = some (N 128) from rfl) gN (b_remN _ _ _ (by omega))) <| pv rfl (fun hS _ => r_move hS rfl) <| pv rfl (fun hS _ => r_nilCheck hS rfl) <| pv rfl (fun hS _ => r_field0 hS rfl Tryz.underlying196 rfl (s := 127) sz194 (k := 10) rfl) <| pv rfl (fun hS _ => r_index1 hS rfl rfl Tryz.underlying194 sz5 (by omega)) ?_
    refine p_nil rfl ?_; intro a w hS hM
    refine s_store hS hM rfl rfl (j := 0) rfl sz5 rfl (hC_w _ _ _ _ (Nat.mod_lt _ (by decide))) ?_; clear hS hM; intro a w hS hM
    replace hM : Mem w0 w [⟨b, 196, (hC bg (h.puts f k).s (h.puts f k).n (h.puts f k).w).set (10 + (h.puts f k).n % 128) (B (f k))⟩] := hM
    rw [hC_set_w _ _ _ _ _ (Nat.mod_lt _ (by decide))] at hM
    refine s_nil <| k_seq <| c_seq <| c_region ?_
    refine vg hS <| vm rfl <| vv (r_nilCheck · rfl) <| vv (r_field0 · rfl Tryz.underlying196 rfl (s := 0) sz3 (k := 9) rfl) <| vv (r_load · hM rfl (j := 0) rfl Tryz.underlying3 rfl (hC_n _ _ _ _)) <| vv (r_bv · rfl (show ev _ _ = some (N 1) from rfl) gN (b_addN _ _ _ (by omega))) <| vv (r_nilCheck · rfl) <| vv (r_field0 · rfl Tryz.underlying196 rfl (s := 0) sz3 (k := 9) rfl) ?_; clear hS; intro a hS
    refine s_store hS hM rfl rfl (j := 0) rfl sz3 rfl (hC_n _ _ _ _) ?_; clear hS hM; intro a w hS hM
    replace hM : Mem w0 w [⟨b, 196, (hC bg (h.puts f k).s (h.puts f k).n (upd (h.puts f k).w ((h.puts f k).n % 128) (f k))).set 9 (N ((h.puts f k).n + 1))⟩] := hM
    rw [hC_set_n] at hM
    refine s_nil <| k_seq <| c_seq <| c_region ?_
    refine vg hS <| vm rfl <| vv (r_nilCheck · rfl) <| vv (r_field0 · rfl Tryz.underlying196 rfl (s := 0) sz3 (k := 9) rfl) <| vv (r_load · hM rfl (j := 0) rfl Tryz.underlying3 rfl (hC_n _ _ _ _)) <| vv (r_bv · rfl (show ev _ _ = some (N 128) from rfl) gN (b_remN _ _ _ (by omega))) <| vv (r_bv · rfl (show ev _ _ = some (N 0) from rfl) gN (b_eqlN _ _ _)) ?_; clear hS; intro a hS
    refine s_nil <| k_seq ?_
    refine c_cond hS rfl (fun hc => ?_) (fun hc => ?_)
    · have hk2 := of_decide_eq_true hc
      refine c_seq <| c_region ?_
      refine vg hS <| vm rfl <| vv (r_nilCheck · rfl) <| vv (r_field0 · rfl Tryz.underlying196 rfl (s := 127) sz194 (k := 10) rfl) <| vv (r_sliceA0 · rfl Tryz.underlying194 sz5) ?_; clear hS; intro a hS
      refine s_pure hS hM (by decide) rfl (words_rd _ (hC_rd hM (j := 0) rfl (by decide))) ?_; clear hS hM; intro a w hS hM
      refine vg hS <| vm rfl <| vv (r_extract · rfl rfl) <| vv (r_extract · rfl rfl) ?_; clear hS; intro a hS
      refine s_alloc hS hM (by decide) zero253 ?_; clear hS hM; intro a b6 w hb6 hS hM
      refine s_storeAll hS hM rfl rfl (j := 0) rfl sz253 cells_len cells_len cU_one ?_; clear hS hM; intro a w hS hM
      refine vg hS <| va rfl ?_; clear hS; intro a hS
      refine s_nil <| k_seq ?_
      refine c_plan 9 (fun w => Mem w0 w _) [(0, _), (6, _), (5, _), (8, _), (9, _), (10, _), (11, _), (12, _), (13, _), (14, _), (15, _), (16, _), (17, _), (18, _), (19, _), (20, _), (21, _), (22, _), (23, _), (24, _), (25, _), (26, _), (27, _), (28, _), (29, _), (30, _), (31, _), (32, _), (33, _), (34, _), (35, _), (36, _), (37, _), (38, _), (39, _), (40, _), (41, _), (42, _), (43, _), (44, _)] (by kernel_rfl) (by kernel_rfl) hS ⟨rfl, rfl, rfl, rfl, rfl, rfl, rfl, rfl, rfl, rfl, rfl, rfl, rfl, rfl, rfl, rfl, rfl, rfl, rfl, rfl, rfl, rfl, rfl, rfl, rfl, rfl, rfl, rfl, rfl, rfl, rfl, rfl, rfl, rfl, rfl, rfl, rfl, rfl, rfl, rfl, trivial⟩ (hM.drawn _) ?_; clear hS hM
      refine pv rfl (fun hS _ => r_move hS rfl) <| pv rfl (fun hS _ => r_move hS rfl) <| pv rfl (fun hS _ => r_nilCheck hS rfl) <| pv rfl (fun hS _ => r_field0 hS rfl Tryz.underlying196 rfl (s := 7) sz193 (k := 1) rfl) <| pv rfl (fun hS hM => r_loadSub hS hM rfl (j := 1) rfl (hC_split _ _ _ _) rfl Tryz.underlying193 rfl (by rw [cells_len]; exact sz193)) <| pv rfl (fun hS hM => r_loadAll hS hM rfl (j := 0) rfl Tryz.underlying253 rfl sz253 cells_len) ?_
      refine p_step rfl (fun a w hS hM => y_call (by kernel_rfl) hS rfl ((step_ok _ _ _).mem hM)) ?_
      refine pv rfl (fun hS _ => r_nilCheck hS rfl) <| pv rfl (fun hS _ => r_field0 hS rfl Tryz.underlying196 rfl (s := 7) sz193 (k := 1) rfl) ?_
      refine p_nil rfl ?_; intro a w hS hM
      refine s_storeRow hS hM rfl rfl (j := 1) rfl (by rw [cells_len]; exact sz193) cU_one (by rw [hC_len, cells_len]; decide) ?_; clear hS hM; intro a w hS hM
      rw [hC_splice_s] at hM
      refine s_nil <| k_in <| k_seq <| c_region ?_
      refine vg hS <| vv (r_bv · rfl (show ev _ _ = some (N 1) from rfl) gN (b_addN _ _ _ (by omega))) <| vm rfl ?_; clear hS; intro a hS
      refine s_nil <| k_then ?_
      refine ⟨k + 1, by omega, by omega, hS.to _ ⟨rfl, rfl, rfl, rfl, trivial⟩, (by first | exact (hM.drop hb6).congr (by rw [show h.puts f (k + 1) = (h.puts f k).put (f k) by rw [HS.puts], HS.put_full hk2, ← wd_full]; try rfl) | exact hM.congr (by rw [show h.puts f (k + 1) = (h.puts f k).put (f k) by rw [HS.puts], HS.put_more hk2]; try rfl))⟩
    · have hk2 := of_decide_eq_false hc
      refine c_skip <| k_in <| k_seq <| c_region ?_
      refine vg hS <| vv (r_bv · rfl (show ev _ _ = some (N 1) from rfl) gN (b_addN _ _ _ (by omega))) <| vm rfl ?_; clear hS; intro a hS
      refine s_nil <| k_then ?_
      refine ⟨k + 1, by omega, by omega, hS.to _ ⟨rfl, rfl, rfl, rfl, trivial⟩, (by first | exact (hM.drop hb6).congr (by rw [show h.puts f (k + 1) = (h.puts f k).put (f k) by rw [HS.puts], HS.put_full hk2, ← wd_full]; try rfl) | exact hM.congr (by rw [show h.puts f (k + 1) = (h.puts f k).put (f k) by rw [HS.puts], HS.put_more hk2]; try rfl))⟩
  · obtain rfl : k = m := by have := of_decide_eq_false hc; omega
    refine c_exit <| k_thenx <| k_thenx <| k_inx ?_
    exact k_res0n hS rfl ⟨rfl, hM⟩
set_option maxRecDepth 100000 in
theorem eight_ok (w0 : World) (x : BitVec 64) : Fresh Tryz.prog 110 #[U x] w0 5 (cB 8 (be x)) := by
  refine ⟨by kernel_rfl, ?_⟩
  refine calls_sym Tryz.func110 rfl (by kernel_rfl) ?_
  intro a hS
  have hM : Mem w0 w0 [] := Mem.refl w0
  refine c_seq <| c_region ?_
  refine vg hS <| va rfl ?_; clear hS; intro a hS
  refine s_nil <| k_seq <| c_seq <| c_region ?_
  refine vg hS <| va rfl ?_; clear hS; intro a hS
  refine s_nil <| k_seq <| c_seq <| c_seq <| c_region ?_
  refine vg hS <| vv (r_assign · (show ev _ _ = some (N 56) from rfl)) ?_; clear hS; intro a hS
  refine s_nil <| k_seq <| c_block ?_
  refine c_loop (σ := Nat × Value × List Blk) (fun s a w => (s.1 ≤ 8 ∧ Own w0.heap.size 5 s.2.1 (cB s.1 (be x)) s.2.2) ∧ Slots a 17 (env [(0, U x), (3, s.2.1), (4, .int .i64 (56 - 8 * (s.1 : Int)))]) ∧ Mem w0 w (s.2.2)) (fun s => 8 - s.1) (0, .slice none 0 0, []) ⟨⟨by decide, Own.nil⟩, hS.to _ ⟨rfl, rfl, rfl, trivial⟩, hM⟩ ?_
  clear hS hM; rintro ⟨j, v, Lx⟩ a w ⟨hk, hS, hM⟩
  obtain ⟨hk, ho⟩ := hk; dsimp only at hk ho hS hM
  refine c_seq <| c_seq <| c_region ?_
  refine vg hS <| vm rfl <| vv (r_bv · rfl (show ev _ _ = some (.int .i64 (0)) from rfl) gZ (b_geqZ _ _ _)) ?_; clear hS; intro a hS
  refine s_nil <| k_seq ?_
  refine c_cond hS rfl (fun hc => ?_) (fun hc => ?_)
  · have hk1 := of_decide_eq_true hc; have hk2 : j ≤ 7 := (by omega); rw [show (56 : Int) - 8 * (j : Int) = ((56 - 8 * j : Nat) : Int) by omega] at hS
    refine c_skip <| k_seq <| c_seq <| c_block <| c_region ?_
    refine vg hS <| vm rfl <| vm rfl <| vm rfl <| vv (r_bv · rfl rfl gU (b_shrU _ _ _ _)) <| vv (r_conv · rfl (by kernel_rfl) Tryz.underlying5 (cv_UB _)) ?_; clear hS; intro a hS
    refine s_buildSlice hS hM (by decide) (vs := [(0, B _)]) rfl (row36_1 _) ?_; clear hS hM; intro a b14 w hb14 hS hM
    refine s_append hS [_] (Lx := Lx) hM (by decide) rfl rfl elem36 ho ((row1 hM).src Tryz.underlying36 (fun _ _ => rfl)) (by rw [show (cB j (be x)).length = j from cells_len]; omega) ?_; clear hS hM ho; intro a w v Lx ho hS hM
    refine vg hS <| va rfl ?_; clear hS; intro a hS
    refine s_nil <| k_in <| k_seq <| c_region ?_
    refine vg hS <| vm rfl <| vv (r_bv · rfl (show ev _ _ = some (.int .i64 (8)) from rfl) gZ (b_subZ _ _ _ (by omega))) <| va rfl ?_; clear hS; intro a hS
    refine s_nil <| k_then ?_
    refine ⟨(j + 1, _, _), (by show 8 - (j + 1) < 8 - j; omega), ⟨by show j + 1 ≤ 8; omega, ho.congr (snoc_be _ _)⟩, hS.to _ ⟨rfl, rfl, congrArg (fun q => some (Value.int .i64 q)) (by omega), trivial⟩, (hM.drop hb14)⟩
  · obtain rfl : j = 8 := by have := of_decide_eq_false hc; omega
    refine c_exit <| k_thenx <| k_thenx <| k_inx <| k_seq <| c_seq <| c_region ?_
    refine vg hS <| vm rfl <| va rfl ?_; clear hS; intro a hS
    refine s_nil <| k_seq <| c_ret ?_
    exact k_res1 hS rfl (RV.tmp rfl) ⟨_, _, rfl, ho, hM⟩
set_option maxRecDepth 100000 in
theorem numbers_ok (w0 : World) (b : Nat) (bg : Bool) (h : HS) (hb : w0.heap[b]? = some (.cells (hH bg h).toArray 196 (0, 0))) : Fresh Tryz.prog 111 #[ptr b 0] w0 5 (cB 64 (flatB h.s)) := by
  refine ⟨by kernel_rfl, ?_⟩
  refine calls_sym Tryz.func111 rfl (by kernel_rfl) ?_
  intro a hS
  have hM : Mem w0 w0 [⟨b, 196, hH bg h⟩] := Mem.start hb
  refine c_seq <| c_region ?_
  refine vg hS <| va rfl ?_; clear hS; intro a hS
  refine s_nil <| k_seq <| c_seq <| c_region ?_
  refine vg hS <| va rfl ?_; clear hS; intro a hS
  refine s_nil <| k_seq <| c_seq <| c_seq <| c_region ?_
  refine vg hS <| vm rfl <| vv (r_nilCheck · rfl) <| vv (r_field0 · rfl Tryz.underlying196 rfl (s := 7) sz193 (k := 1) rfl) <| vv (r_loadSub · hM rfl (j := 0) rfl (hC_split _ _ _ _) rfl Tryz.underlying193 rfl (by rw [cells_len]; exact sz193)) <| vv (r_move · (show ev _ _ = some (N 0) from rfl)) ?_; clear hS; intro a hS
  refine s_nil <| k_seq <| c_block ?_
  refine c_loop (σ := Nat × Value × List Blk) (fun s a w => (s.1 ≤ 8 ∧ Own w0.heap.size 5 s.2.1 (cB (8 * s.1) (flatB h.s)) s.2.2) ∧ Slots a 19 (env [(3, s.2.1), (9, .agg (cU 8 h.s).toArray), (10, N s.1)]) ∧ Mem w0 w ([⟨b, 196, hH bg h⟩] ++ s.2.2)) (fun s => 8 - s.1) (0, .slice none 0 0, []) ⟨⟨by decide, Own.nil⟩, hS.to _ ⟨rfl, rfl, rfl, trivial⟩, hM⟩ ?_
  clear hS hM; rintro ⟨k, v, Lx⟩ a w ⟨hk, hS, hM⟩
  obtain ⟨hk, ho⟩ := hk; dsimp only at hk ho hS hM
  refine c_seq <| c_region ?_
  refine vg hS <| vv (r_bv · rfl (show ev _ _ = some (N 8) from rfl) gN (b_lssN _ _ _)) ?_; clear hS; intro a hS
  refine s_nil <| k_seq <| c_seq ?_
  refine c_cond hS rfl (fun hc => ?_) (fun hc => ?_)
  · have hk1 := of_decide_eq_true hc
    refine c_skip <| k_seq <| c_seq <| c_block <| c_seq <| c_region ?_
    refine vg hS <| vv (r_index · rfl rfl Tryz.underlying193 sz45 Tryz.underlying45 rfl (by omega) (cells_get' (by omega))) <| va rfl ?_; clear hS; intro a hS
    refine s_nil <| k_seq <| c_region ?_
    refine vg hS <| vm rfl <| vm rfl ?_; clear hS; intro a hS
    refine s_fresh hS hM (by decide) rfl (eight_ok _ _) ?_; clear hS hM; intro a w v15 L15 ho15 hS hM
    have hr15 := ho15.rdFront hM; replace hM := hM.forget ho15.ge
    refine s_append hS [_] (Lx := Lx) hM (by decide) rfl rfl elem36 ho (hr15.src Tryz.underlying36 (fun _ _ => rfl)) (by rw [show (cB (8 * k) (flatB h.s)).length = 8 * k from cells_len]; omega) ?_; clear hS hM ho; intro a w v Lx ho hS hM
    refine vg hS <| va rfl ?_; clear hS; intro a hS
    refine s_nil <| k_in <| k_seq <| c_region ?_
    refine vg hS <| vv (r_bv · rfl (show ev _ _ = some (N 1) from rfl) gN (b_addN _ _ _ (by omega))) <| vm rfl ?_; clear hS; intro a hS
    refine s_nil <| k_then ?_
    refine ⟨(k + 1, _, _), (by show 8 - (k + 1) < 8 - k; omega), ⟨by show k + 1 ≤ 8; omega, ho.congr (catB _ _)⟩, hS.to _ ⟨rfl, rfl, rfl, trivial⟩, hM⟩
  · obtain rfl : k = 8 := by have := of_decide_eq_false hc; omega
    refine c_exit <| k_thenx <| k_thenx <| k_inx <| k_seq <| c_seq <| c_region ?_
    refine vg hS <| vm rfl <| va rfl ?_; clear hS; intro a hS
    refine s_nil <| k_seq <| c_ret ?_
    exact k_res1 hS rfl (RV.tmp rfl) ⟨_, _, rfl, ho, Mem.same hb hM⟩
set_option maxRecDepth 100000 in
theorem sum_ok (w0 : World) (b : Nat) (bg : Bool) (h : HS) (hb : w0.heap[b]? = some (.cells (hH bg h).toArray 196 (0, 0))) (hn : (asH bg h).n < 2305843009213693952) : Pure Tryz.prog 52 #[ptr b 0] w0 (.agg (cB 64 (flatB (asH bg h).sum.s)).toArray) := by
  refine ⟨by kernel_rfl, ?_⟩
  refine calls_sym Tryz.func52 rfl (by kernel_rfl) ?_
  intro a hS
  have hM : Mem w0 w0 [⟨b, 196, hH bg h⟩] := Mem.start hb
  refine c_seq <| c_region ?_
  refine s_alloc hS hM (by decide) zero46 ?_; clear hS hM; intro a b2 w hb2 hS hM
  refine s_nil <| k_seq <| c_seq <| c_region ?_
  refine vg hS <| vm rfl ?_; clear hS; intro a hS
  refine s_pure hS hM (by decide) rfl (own_ok _ _ _ _ (hM.block (j := 1) rfl)) ?_; clear hS hM; intro a w hS hM
  refine s_alloc hS hM (by decide) zero196 ?_; clear hS hM; intro a b3 w hb3 hS hM
  refine s_storeAll hS hM rfl rfl (j := 0) rfl sz196 (hC_len _ _ _ _) (hC_len _ _ _ _) (hC_one _ _ _ _) ?_; clear hS hM; intro a w hS hM
  refine s_nil <| k_seq <| c_seq <| c_region ?_
  refine vg hS <| vv (r_field0 · rfl Tryz.underlying196 rfl (s := 0) sz3 (k := 9) rfl) <| vv (r_load · hM rfl (j := 0) rfl Tryz.underlying3 rfl (hH_n _ _)) <| vv (r_conv · rfl (by kernel_rfl) Tryz.underlying45 (cv_NU _)) <| va rfl ?_; clear hS; intro a hS
  refine s_nil <| k_seq <| c_seq <| c_region ?_
  refine s_buildSlice hS hM (by decide) (vs := [(0, B 128#8)]) rfl (row36_1 _) ?_; clear hS hM; intro a b10 w hb10 hS hM
  refine s_wrote hS hM (by decide) rfl (j := 1) rfl (put_ok _ _ _ _ (hM.block (j := 1) rfl) (row1 hM) (fun _ => hM.ne_at (i := 0) (j := 1) rfl rfl (by decide)) (by omega)) ?_; clear hS hM; intro a w hS hM
  replace hM := hM.drop hb10
  have hx1 : ((asH bg h).puts (fun _ => 128#8) 1).n = (asH bg h).n + 1 := HS.puts_n _ _ _
  refine s_nil <| k_seq <| c_seq <| c_block ?_
  refine c_loop (σ := Nat) (fun k a w => (k ≤ zc (asH bg h).n) ∧ Slots a 29 (env [(0, ptr b 0), (2, ptr b2 0), (3, ptr b3 0), (4, U (BitVec.ofNat 64 (asH bg h).n))]) ∧ Mem w0 w ([⟨b3, 196, hH true (((asH bg h).puts (fun _ => 128#8) 1).puts (fun _ => 0#8) k)⟩, ⟨b2, 46, cB 64 (fun _ => 0)⟩, ⟨b, 196, hH bg h⟩])) (fun k => zc (asH bg h).n - k) (0) ⟨by omega, hS.to _ ⟨rfl, rfl, rfl, rfl, trivial⟩, (hM.congr (by rw [show ((asH bg h).puts (fun _ => 128#8) 1).puts (fun _ => 0#8) 0 = ((asH bg h).puts (fun _ => 128#8) 1) by rw [HS.puts]]; rfl))⟩ ?_
  clear hS hM; rintro k a w ⟨hk, hS, hM⟩
  have hx : (((asH bg h).puts (fun _ => 128#8) 1).puts (fun _ => 0#8) k).n = (asH bg h).n + 1 + k := by rw [HS.puts_n, hx1]
  have hz := zc_lt (asH bg h).n
  refine c_seq <| c_seq <| c_region ?_
  refine vg hS <| vv (r_field0 · rfl Tryz.underlying196 rfl (s := 0) sz3 (k := 9) rfl) <| vv (r_load · hM rfl (j := 0) rfl Tryz.underlying3 rfl (hH_n _ _)) <| vv (r_bv · rfl (show ev _ _ = some (N 128) from rfl) gN (b_remN _ _ _ (by omega))) <| vv (r_bv · rfl (show ev _ _ = some (N 112) from rfl) gN (b_neqN _ _ _)) ?_; clear hS; intro a hS
  refine s_nil <| k_seq ?_
  refine c_cond hS rfl (fun hc => ?_) (fun hc => ?_)
  · have hk1 : k < zc (asH bg h).n := by rcases Nat.lt_or_ge k (zc (asH bg h).n) with q | q; exact q; exact absurd hc (by rw [hx, show k = zc (asH bg h).n by omega, zc_end]; decide)
    refine c_skip <| k_seq <| c_block <| c_region ?_
    refine s_buildSlice hS hM (by decide) (vs := [(0, B 0#8)]) rfl (row36_1 _) ?_; clear hS hM; intro a b16 w hb16 hS hM
    refine s_wrote hS hM (by decide) rfl (j := 1) rfl (put_ok _ _ _ _ (hM.block (j := 1) rfl) (row1 hM) (fun _ => hM.ne_at (i := 0) (j := 1) rfl rfl (by decide)) (by omega)) ?_; clear hS hM; intro a w hS hM
    replace hM := hM.drop hb16
    refine s_nil <| k_in <| k_then ?_
    refine ⟨k + 1, by omega, by omega, hS.to _ ⟨rfl, rfl, rfl, rfl, trivial⟩, (hM.congr (by rw [puts_one]; rfl))⟩
  · obtain rfl : k = zc (asH bg h).n := by rcases Nat.lt_or_ge k (zc (asH bg h).n) with q | q; exact absurd (of_decide_eq_true (by simpa using hc)) (by rw [hx]; exact zc_more q); omega
    refine c_exit <| k_thenx <| k_thenx <| k_inx <| k_seq <| c_seq <| c_region ?_
    refine vg hS <| vm rfl <| vv (r_bv · rfl (show ev _ _ = some (.int .u64 ((61 : Nat) : Int)) from rfl) gU (b_shrU _ _ _ 61)) ?_; clear hS; intro a hS
    refine s_fresh hS hM (by decide) rfl (eight_ok _ _) ?_; clear hS hM; intro a w v20 L20 ho20 hS hM
    replace hM := hM.swap
    refine s_wrote hS hM (by decide) rfl (j := 0) rfl (put_ok _ _ _ _ (hM.block (j := 0) rfl) (ho20.rdCells (L := [_, _, _]) hM) (own_ne (L := [_, _, _]) ho20 hM (j := 0) rfl) (by omega)) ?_; clear hS hM; intro a w hS hM
    replace hM := Mem.dropRight (L := [_, _, _]) hM ho20.ge
    have hx2 : ((((asH bg h).puts (fun _ => 128#8) 1).puts (fun _ => 0#8) (zc (asH bg h).n)).puts (be (BitVec.ofNat 64 (asH bg h).n >>> 61)) 8).n = (asH bg h).n + 1 + zc (asH bg h).n + 8 := by rw [HS.puts_n, hx]
    refine s_nil <| k_seq <| c_seq <| c_region ?_
    refine vg hS <| vm rfl <| vv (r_bv · rfl (show ev _ _ = some (.int .u64 ((3 : Nat) : Int)) from rfl) gU (b_shlU _ _ _ 3)) ?_; clear hS; intro a hS
    refine s_fresh hS hM (by decide) rfl (eight_ok _ _) ?_; clear hS hM; intro a w v24 L24 ho24 hS hM
    replace hM := hM.swap
    refine s_wrote hS hM (by decide) rfl (j := 0) rfl (put_ok _ _ _ _ (hM.block (j := 0) rfl) (ho24.rdCells (L := [_, _, _]) hM) (own_ne (L := [_, _, _]) ho24 hM (j := 0) rfl) (by omega)) ?_; clear hS hM; intro a w hS hM
    replace hM := Mem.dropRight (L := [_, _, _]) hM ho24.ge
    refine s_nil <| k_seq <| c_seq <| c_region ?_
    refine s_fresh hS hM (by decide) rfl (numbers_ok _ _ _ _ (hM.block (j := 0) rfl)) ?_; clear hS hM; intro a w v26 L26 ho26 hS hM
    obtain ⟨b26, cap26, sp26, rfl, hb26, hc26, rfl⟩ := ho26.some (by rw [cells_len]; decide)
    refine vg hS <| vv (r_s2a · rfl Tryz.underlying46 (by rw [cells_len]; decide)) <| vv (r_loadSub · hM rfl (j := 0) (pre := []) (mid := cB 64 _) (post := sp26) rfl rfl rfl Tryz.underlying46 rfl (by rw [cells_len]; exact sz46)) ?_; clear hS; intro a hS
    refine s_storeAll hS hM rfl rfl (j := 2) rfl sz46 cells_len cells_len cB_one ?_; clear hS hM; intro a w hS hM
    refine s_nil <| k_seq <| c_ret ?_
    exact k_res1 hS rfl (RV.row rfl (hM.have_ _ (mem_of_get (j := 2) rfl)) Tryz.underlying46 rfl (by rw [sz46]; exact congrArg some cells_len.symm)) ⟨rfl, Mem.same hb (((hM.drop hb26).drop hb3).drop hb2)⟩
end Go.Proofs.YtgmieahcpkcabaaGreat
namespace Go.Proofs.YtgmieahcpkcabaaGreat
open Go Go.Sym
attribute [local irreducible] sstep wordsTo HS.puts be flatB numTo num
theorem sum_t (w0 : World) (b : Nat) (h : HS) (hb : w0.heap[b]? = some (.cells (hH true h).toArray 196 (0, 0))) (hn : h.n < 2305843009213693952) : Pure Tryz.prog 52 #[ptr b 0] w0 (.agg (cB 64 (flatB h.sum.s)).toArray) := sum_ok w0 b true h hb hn
end Go.Proofs.YtgmieahcpkcabaaGreat
namespace Go.Proofs.YtgmieahcpkcabaaGreat
open Go Go.Sym Go.Ev Go.RowKit
set_option linter.unusedSectionVars false
noncomputable section
variable [Vl] {bs : Nm}
def u64L : Nat → List C → Option (List (BitVec 64) × List C)
  | 0, l => some ([], l)
  | k + 1, .int .u64 (.ofNat x) :: l => bif Nat.blt x 18446744073709551616 then (match u64L k l with
    | some (s, r) => some (BitVec.ofNat 64 x :: s, r)
    | none => none) else none
  | _ + 1, _ => none
theorem U_nat {x : Nat} (h : x < 18446744073709551616) : Value.int .u64 (Int.ofNat x) = U (BitVec.ofNat 64 x) := by
  show _ = Value.int .u64 _
  rw [BitVec.toNat_ofNat, Nat.mod_eq_of_lt (by exact h)]; rfl
theorem u64L_ok : ∀ {k : Nat} {l r : List C} {s : List (BitVec 64)} {vs : List Value}, u64L k l = some (s, r) → CsR bs l vs → s.length = k ∧ ∃ ws, vs = s.map U ++ ws ∧ CsR bs r ws
  | 0, l, r, s, vs, h, hv => by
    simp only [u64L, Option.some.injEq, Prod.mk.injEq] at h
    obtain ⟨rfl, rfl⟩ := h
    exact ⟨rfl, vs, rfl, hv⟩
  | k + 1, [], r, s, vs, h, hv => by simp [u64L] at h
  | k + 1, c :: l, r, s, vs, h, hv => by
    unfold u64L at h
    split at h
    · rename_i h0; cases h0
    · rename_i x l' h0
      cases h0
      obtain ⟨hx, h⟩ := bcondO h
      split at h
      · rename_i s' r' h2
        cases h
        cases vs with
        | nil => exact hv.elim
        | cons v vs =>
          obtain ⟨k1, k2⟩ := hv
          obtain ⟨k3, ws, k4, k5⟩ := u64L_ok h2 k2
          refine ⟨by rw [List.length_cons, k3]; omega, ws, ?_, k5⟩
          rw [List.map_cons, List.cons_append, ← k4, show v = _ from k1, U_nat (blt_lt hx)]
      · cases h
    · cases h
def hashP (l : List C) : Option (Bool × HL) := match l with
  | .bool bg :: r => match u64L 8 r with
    | some (s, .int .i64 (.ofNat n) :: q) => match bytesL q with
      | some w => bif Nat.beq w.length 128 then some (bg, ⟨s, n, (w.take (n % 128)).reverse, w.drop (n % 128)⟩) else none
      | none => none
    | _ => none
  | _ => none
theorem lstU (s : List (BitVec 64)) : s.map U = cU s.length (lst 0 s) := by
  apply List.ext_getElem?
  intro i
  rw [List.getElem?_map]
  by_cases h : i < s.length
  · rw [show (cU s.length (lst 0 s))[i]? = some (U (lst 0 s i)) from cells_get h, List.getElem?_eq_getElem h, Option.map_some]
    unfold lst
    rw [List.getD_eq_getElem?_getD, List.getElem?_eq_getElem h]; rfl
  · rw [List.getElem?_eq_none (by omega), List.getElem?_eq_none (by rw [cells_len]; omega)]; rfl
theorem hashP_ok {l : List C} {vs : List Value} {bg : Bool} {g : HL} (h : hashP l = some (bg, g)) (hv : CsR bs l vs) : ∃ hs : HS, vs = hH bg hs ∧ HLR hs g := by
  unfold hashP at h
  split at h
  case h_2 => cases h
  rename_i bg' r
  split at h
  case h_2 => cases h
  rename_i s n q hu
  split at h
  case h_2 => cases h
  rename_i w hw
  obtain ⟨hl, h⟩ := bcond h
  cases h
  have hl := beq_eq hl
  cases vs with
  | nil => exact hv.elim
  | cons v vs =>
    obtain ⟨k1, k2⟩ := hv
    obtain ⟨k3, ws, rfl, k5⟩ := u64L_ok hu k2
    cases ws with
    | nil => exact k5.elim
    | cons v2 ws =>
      obtain ⟨k6, k7⟩ := k5
      have hb := bytesL_vs hw k7
      refine ⟨⟨lst 0 s, n, byF w⟩, ?_, ⟨k3, fun _ _ => rfl, rfl, ?_, ?_, fun i hi => ?_⟩⟩
      · rw [show v = .bool bg from k1, show v2 = _ from k6, hb, map_cB, hl, lstU, k3]; rfl
      · have : n % 128 < 128 := Nat.mod_lt _ (by decide)
        simp only [List.length_reverse, List.length_take, List.length_drop]; omega
      · have : n % 128 < 128 := Nat.mod_lt _ (by decide)
        simp only [List.length_reverse, List.length_take]; omega
      · simp only [List.reverse_reverse, List.take_append_drop]
def byM (l : List Nat) : List C := l.map fun n => .int .u8 (.ofNat (n % 256))
def hcL (bg : Bool) (g : HL) : List C := .bool bg :: (g.s.map (fun x => C.int .u64 (.ofNat x.toNat)) ++ (.int .i64 (.ofNat g.n) :: byM (g.pre.reverse ++ g.rest)))
theorem byM_ok : ∀ (l : List Nat), CsR bs (byM l) (l.map fun n => B (BitVec.ofNat 8 n))
  | [] => trivial
  | n :: l => ⟨by show B _ = Value.int .u8 _; unfold B; rw [BitVec.toNat_ofNat]; rfl, byM_ok l⟩
theorem u64C_ok : ∀ (l : List (BitVec 64)), CsR bs (l.map fun x => C.int .u64 (.ofNat x.toNat)) (l.map U)
  | [] => trivial
  | _ :: l => ⟨rfl, u64C_ok l⟩
theorem hcL_len {hs : HS} {g : HL} (r : HLR hs g) (bg : Bool) : (hcL bg g).length = 138 := by
  have := r.len
  simp only [hcL, byM, List.length_cons, List.length_append, List.length_map, r.s8, List.length_reverse]; omega
theorem hcL_ok {hs : HS} {g : HL} (r : HLR hs g) (bg : Bool) : CsR bs (hcL bg g) (hH bg hs) := by
  have h1 : hH bg hs = .bool bg :: (g.s.map U ++ (N g.n :: (g.pre.reverse ++ g.rest).map fun n => B (BitVec.ofNat 8 n))) := by
    rw [lstU, r.s8, map_cB, List.length_append, List.length_reverse, r.len, ← r.n]
    unfold hH hC
    rw [cU_congr (g := lst 0 g.s) r.s, cB_congr (g := fnL (g.pre.reverse ++ g.rest)) r.w]
    rfl
  rw [h1]
  exact ⟨rfl, (u64C_ok g.s).app ⟨rfl, byM_ok _⟩⟩
def notSame (id : Nat) : V → Bool
  | .c (.sl id' _ _ _) => !Nat.beq id' id
  | .c .nils => true
  | .c .emp => true
  | _ => false
def gPut : Orc := fun xs h => match xs with
  | [.c (.ptr id 0), v] => match h.get id with
    | some b => bif fullB b 196 138 && notSame id v then (match hashP (rd b.cs 0 138), rdB h v with
      | some (bg, g), some bl => bif Nat.blt (g.n + bl.length) 4611686018427387904 then some (.tup [], h.put id (some ⟨196, 138, ofList (hcL bg (g.puts bl)), false, 0⟩)) else none
      | _, _ => none) else none
    | none => none
  | _ => none
theorem gPut_ok : OrcF Tryz.prog 109 gPut := by
  intro xs h v h' he bs vs w ha hR
  unfold gPut at he
  split at he
  case h_2 => cases he
  rename_i id v0
  split at he
  case h_2 => cases he
  rename_i b hg
  obtain ⟨hc, he⟩ := bcondO he
  rw [Bool.and_eq_true] at hc
  split at he
  case h_2 => cases he
  rename_i bg g bl hp hb
  obtain ⟨hlt, he⟩ := bcond he
  cases he
  match vs, ha with
  | [u0, u], ⟨⟨k, hk, hu0⟩, hu, _⟩ =>
    subst hu0
    obtain ⟨cs, c1, c2, c3, c4, c5, c6, c7, c8⟩ := fullB_ok hR hg hk hc.1
    obtain ⟨hs, e1, r⟩ := hashP_ok hp c3
    subst e1
    obtain ⟨hrd, hb256, hsl⟩ := rdB_ok hR hu hb
    have hne : 0 < bl.length → rb u ≠ k := fun hpos => by
      obtain ⟨id', off, len, cap, k', e2, hk', e3, hsome⟩ := hsl hpos
      subst e2
      rw [e3]
      intro e4
      subst e4
      obtain ⟨b', hg'⟩ := Option.isSome_iff_exists.1 hsome
      have := hR.inj id' id b' b k' (hR.dom id' k' hk').1 (hR.dom id k' hk).1 hg' hg hk' hk
      have h2 := hc.2
      rw [this] at h2
      simp [notSame] at h2
    have hw := put_ok w k bg hs c1 hrd hne (by rw [r.n]; exact blt_lt hlt)
    have hpr := r.puts bl
    exact wrote_call hR hg hk hc.1 hw (hcL_ok hpr bg) (hcL_len hpr bg) ⟨[], trivial, rfl⟩
def gSum : Orc := fun xs h => match xs with
  | [.c (.ptr id 0)] => match h.get id with
    | some b => bif fullB b 196 138 then (match hashP (rd b.cs 0 138) with
      | some (true, g) => bif Nat.blt g.n 2305843009213693952 then some (.agg (byM (flL g.sum.s)), h) else none
      | _ => none) else none
    | none => none
  | _ => none
theorem gSum_ok : OrcF Tryz.prog 52 gSum := by
  intro xs h v h' he bs vs w ha hR
  unfold gSum at he
  split at he
  case h_2 => cases he
  rename_i id
  split at he
  case h_2 => cases he
  rename_i b hg
  obtain ⟨hc, he⟩ := bcondO he
  split at he
  case h_2 => cases he
  rename_i g hp
  obtain ⟨hlt, he⟩ := bcond he
  cases he
  match vs, ha with
  | [u0], ⟨⟨k, hk, hu0⟩, _⟩ =>
    subst hu0
    obtain ⟨cs, c1, c2, c3, c4, c5, c6, c7, c8⟩ := fullB_ok hR hg hk hc
    obtain ⟨hs, e1, r⟩ := hashP_ok hp c3
    subst e1
    have hlt := blt_lt hlt
    have hn : hs.n < 2305843009213693952 := by rw [r.n]; exact hlt
    have hpu := sum_t w k hs c1 hn
    refine pure_call hR hpu ?_
    have hsr := r.sum (by omega)
    refine ⟨_, byM_ok (flL g.sum.s), ?_⟩
    rw [map_cB, flL_len, hsr.s8]
    congr 1
    congr 1
    refine cB_congr fun i hi => ?_
    rw [show fnL (flL g.sum.s) i = byF (flL g.sum.s) i from rfl, ← flL_at g.sum.s i (by rw [hsr.s8]; exact hi)]
    unfold flatB
    rw [hsr.s (i / 8) (by omega)]
end
end Go.Proofs.YtgmieahcpkcabaaGreat
namespace Go.Ev
open Go Go.Sym Go.RowKit
set_option linter.unusedSectionVars false
noncomputable section
variable [Vl]
variable {P : Program} {bs bs0 : Nm} {w w' : World} {h h0 : Hp}
theorem newrow_call (hR : HR w bs h) {f : FuncId} {args : Array Value} {el m : Nat} {F : Nat → Value} {z : T C} (hp : NewRow P f args w el m F) (hz : TR Nm.no z m (cells m F)) (h14 : m ≤ 16384) (hid : h.nx < 4096) :
    CallR P f args w (After w bs h (.c (.sl h.nx 0 m (some m))) ((⟨h.h, h.nx + 1⟩ : Hp).put h.nx (some ⟨el, m, z, false, 0⟩))) := by
  refine .inr ⟨run_callFunc hp.ok _, hp.calls.mono ?_⟩
  rintro e w' ⟨b, rfl, hb, hM⟩
  obtain ⟨hn, hc⟩ := hR.nx h.nx (Nat.le_refl _)
  have hg := hM.have_ _ (List.mem_singleton.2 rfl)
  have hlen : (cells m F).length = m := cells_len
  have hbr := mk_br (bs := bs) (id := h.nx) (q := none) (b := ⟨el, m, z, false, 0⟩) hg (by show m ≤ (cells m F).length; omega) h14 (show (cells m F).length = m from hlen) (hz.mono (Le.bot bs)) (nput_le hn hc)
  obtain ⟨hR', hM'⟩ := hR.made hid (Ext.of_mem1 hM hb) hb (block_lt hg) hbr
  exact ⟨_, rfl, _, hR', hM', b, m, nput_self, Nat.le_refl _, fun c e => by cases e; rfl, fun e => (nomatch e), rfl⟩
def shC (k : Nat) : C → C
  | .ptr id off => .ptr (k + id) off
  | .sl id off len cap => .sl (k + id) off len cap
  | .fn f caps => .fn f (caps.map fun p => (k + p.1, p.2))
  | c => c
def shP (k : Nat) : P1 → P1
  | .c c => .c (shC k c)
  | .agg l => .agg (l.map (shC k))
def shV (k : Nat) : V → V
  | .c c => .c (shC k c)
  | .agg l => .agg (l.map (shC k))
  | .tup l => .tup (l.map (shP k))
def shN (bs bs0 : Nm) (k : Nat) : Nm := ⟨fun i => if i < k then bs.b i else bs0.b (i - k), fun i => if i < k then bs.c i else bs0.c (i - k)⟩
theorem shN_b (k i : Nat) : (shN bs bs0 k).b (k + i) = bs0.b i := by
  show (if k + i < k then _ else _) = _
  rw [if_neg (by omega), Nat.add_sub_cancel_left]
theorem shN_c (k i : Nat) : (shN bs bs0 k).c (k + i) = bs0.c i := by
  show (if k + i < k then _ else _) = _
  rw [if_neg (by omega), Nat.add_sub_cancel_left]
theorem shC_caps {k : Nat} : ∀ {l : List (Nat × Nat)} {vs : List Value}, capR bs0 l vs → capR (shN bs bs0 k) (l.map fun p => (k + p.1, p.2)) vs
  | [], [], _ => trivial
  | (_, _) :: _, _ :: _, ⟨⟨b, h1, h2⟩, h3⟩ => ⟨⟨b, by rw [shN_b]; exact h1, h2⟩, shC_caps h3⟩
  | [], _ :: _, h => h.elim
  | _ :: _, [], h => h.elim
theorem shC_ok {k : Nat} {c : C} {v : Value} (hc : CR bs0 c v) : CR (shN bs bs0 k) (shC k c) v := by
  cases c with
  | ptr id off => obtain ⟨b, h1, h2⟩ := hc; exact ⟨b, by rw [shN_b]; exact h1, h2⟩
  | sl id off len cap => obtain ⟨b, c, h1, h2, h3, h4, h5⟩ := hc; exact ⟨b, c, by rw [shN_b]; exact h1, h2, h3, fun e e' => by rw [shN_c]; exact h4 e e', h5⟩
  | fn f caps => obtain ⟨vs, h1, h2⟩ := hc; exact ⟨vs, shC_caps h1, h2⟩
  | _ => exact hc
theorem shCs_ok {k : Nat} : ∀ {l : List C} {vs : List Value}, CsR bs0 l vs → CsR (shN bs bs0 k) (l.map (shC k)) vs
  | [], [], _ => trivial
  | _ :: _, _ :: _, ⟨h1, h2⟩ => ⟨shC_ok h1, shCs_ok h2⟩
  | [], _ :: _, h => h.elim
  | _ :: _, [], h => h.elim
theorem shP_ok {k : Nat} {c : P1} {v : Value} (hc : PR bs0 c v) : PR (shN bs bs0 k) (shP k c) v := by
  cases c with
  | c c => exact shC_ok hc
  | agg l => obtain ⟨vs, h1, h2⟩ := hc; exact ⟨vs, shCs_ok h1, h2⟩
theorem shPs_ok {k : Nat} : ∀ {l : List P1} {vs : List Value}, PsR bs0 l vs → PsR (shN bs bs0 k) (l.map (shP k)) vs
  | [], [], _ => trivial
  | _ :: _, _ :: _, ⟨h1, h2⟩ => ⟨shP_ok h1, shPs_ok h2⟩
  | [], _ :: _, h => h.elim
  | _ :: _, [], h => h.elim
theorem shV_ok {k : Nat} {x : V} {v : Value} (hv : VR bs0 x v) : VR (shN bs bs0 k) (shV k x) v := by
  cases x with
  | c c => exact shC_ok hv
  | agg l => obtain ⟨vs, h1, h2⟩ := hv; exact ⟨vs, shCs_ok h1, h2⟩
  | tup l => obtain ⟨vs, h1, h2⟩ := hv; exact ⟨vs, shPs_ok h1, h2⟩
def T.map {α β : Type} (f : α → β) (t : T α) : T β := T.rec (motive := fun _ => T β) (fun a => .lf (f a)) (fun _ _ l r => .nd l r) t
theorem T.map_get {α β : Type} (f : α → β) : ∀ (t : T α) (i : Nat), (T.map f t).get i = f (t.get i)
  | .lf a, i => rfl
  | .nd l r, i => by
    rw [show T.map f (.nd l r) = .nd (T.map f l) (T.map f r) from rfl, T.get_nd, T.get_nd, T.map_get f l, T.map_get f r]
    split <;> rfl
def shB (k : Nat) (b : Bl) : Bl := ⟨b.t, b.len, T.map (shC k) b.cs, b.ro, b.ks⟩
def shPut (k : Nat) (H : Hp) : List (Nat × Bl) → Hp
  | [] => H
  | (i, b) :: r => (shPut k H r).put (k + i) (some (shB k b))
theorem shPut_nx {k : Nat} {H : Hp} : ∀ l : List (Nat × Bl), (shPut k H l).nx = H.nx
  | [] => rfl
  | _ :: r => shPut_nx r
theorem shPut_get {k n : Nat} {H : Hp} (hkn : k + n ≤ 4096) : ∀ {l : List (Nat × Bl)}, (∀ x ∈ l, x.1 < n) → ∀ id, id < 4096 → ∀ b, (shPut k H l).get id = some b → (H.get id = some b ∧ ∀ x ∈ l, k + x.1 ≠ id) ∨ ∃ x ∈ l, id = k + x.1 ∧ b = shB k x.2
  | [], _, id, _, b, hb => .inl ⟨hb, fun x hx => by cases hx⟩
  | (i, b') :: r, hl, id, hid, b, hb => by
    have hi := hl (i, b') List.mem_cons_self
    rw [shPut, Hp.get_put (show k + i < 4096 by have : i < n := hi; omega) hid] at hb
    by_cases e : id = k + i
    · rw [if_pos e] at hb
      cases hb
      exact .inr ⟨(i, b'), List.mem_cons_self, e, rfl⟩
    · rw [if_neg e] at hb
      rcases shPut_get hkn (fun x hx => hl x (List.mem_cons_of_mem _ hx)) id hid b hb with ⟨h1, h2⟩ | ⟨x, h1, h2, h3⟩
      · refine .inl ⟨h1, fun x hx => ?_⟩
        rcases List.mem_cons.1 hx with rfl | hx
        · exact fun e2 => e e2.symm
        · exact h2 x hx
      · exact .inr ⟨x, List.mem_cons_of_mem _ h1, h2, h3⟩
def nilH : Hp := ⟨.lf none, 0⟩
theorem HR.nil (w : World) : HR w Nm.no nilH := ⟨(fun id b _ hb => by unfold nilH Hp.get at hb; rw [T.get_lf] at hb; cases hb), (fun _ _ _ _ _ _ _ _ _ h => by cases h), (fun _ _ h => by cases h), (fun _ _ => ⟨rfl, rfl⟩)⟩
def T.lft {α : Type} : T α → T α
  | .lf a => .lf a
  | .nd l _ => l
def T.rgt {α : Type} : T α → T α
  | .lf a => .lf a
  | .nd _ r => r
theorem T.get_lft {α : Type} : ∀ (t : T α) (i : Nat), i % 2 = 0 → t.get i = t.lft.get (i / 2)
  | .lf _, _, _ => rfl
  | .nd l r, i, h => by rw [T.get_nd, if_pos h]; rfl
theorem T.get_rgt {α : Type} : ∀ (t : T α) (i : Nat), ¬ i % 2 = 0 → t.get i = t.rgt.get (i / 2)
  | .lf _, _, _ => rfl
  | .nd l r, i, h => by rw [T.get_nd, if_neg h]; rfl
def tEq : Nat → T C → T C → Nat → Bool
  | 0, _, _, n => Nat.beq n 0
  | d + 1, a, b, n => bif Nat.beq n 0 then true else match a, b with
    | .lf x, .lf y => cEq x y
    | a, b => tEq d a.lft b.lft ((n + 1) / 2) && tEq d a.rgt b.rgt (n / 2)
theorem tEq_ok : ∀ {d : Nat} {a b : T C} {n : Nat}, tEq d a b n = true → ∀ j, j < n → b.get j = a.get j
  | 0, a, b, n, h, j, hj => by have := beq_eq h; omega
  | d + 1, a, b, n, h, j, hj => by
    unfold tEq at h
    cases hb : Nat.beq n 0 with
    | true => have := beq_eq hb; omega
    | false =>
      rw [hb] at h
      simp only [cond_false] at h
      split at h
      · rw [cEq_ok h]
      · rw [Bool.and_eq_true] at h
        by_cases h2 : j % 2 = 0
        · rw [T.get_lft a j h2, T.get_lft b j h2]
          exact tEq_ok h.1 _ (by omega)
        · rw [T.get_rgt a j h2, T.get_rgt b j h2]
          exact tEq_ok h.2 _ (by omega)
def blEq (a b : Bl) : Bool := Nat.beq a.t b.t && Nat.beq a.len b.len && Nat.beq a.ks b.ks && (a.ro == b.ro) && tEq 15 a.cs b.cs a.len
theorem blEq_ok {a b : Bl} (h : blEq a b = true) : b.t = a.t ∧ b.len = a.len ∧ b.ks = a.ks ∧ b.ro = a.ro ∧ ∀ j, j < a.len → b.cs.get j = a.cs.get j := by
  simp only [blEq, Bool.and_eq_true] at h
  obtain ⟨⟨⟨⟨e1, e2⟩, e3⟩, e4⟩, e5⟩ := h
  exact ⟨(beq_eq e1).symm, (beq_eq e2).symm, (beq_eq e3).symm, (eq_of_beq e4).symm, tEq_ok e5⟩
def tellsB (H : Hp) (l : List (Nat × Bl)) : Bool := l.all fun x => match H.get x.1 with
  | some b => blEq b x.2 && Nat.blt x.1 H.nx && Nat.blt x.1 4096
  | none => false
theorem tellsB_ok {H : Hp} {l : List (Nat × Bl)} (h : tellsB H l = true) : ∀ x ∈ l, ∃ b, H.get x.1 = some b ∧ blEq b x.2 = true ∧ x.1 < H.nx ∧ x.1 < 4096 := fun x hx => by
  have := List.all_eq_true.1 h x hx
  split at this
  · rename_i b hg
    simp only [Bool.and_eq_true] at this
    exact ⟨b, hg, this.1.1, blt_lt this.1.2, blt_lt this.2⟩
  · cases this
theorem fresh_call (hR : HR w bs h) {f : FuncId} {args : Array Value} {v : V} {l : List (Nat × Bl)} (hc : CallR P f args w (After w Nm.no nilH v h0)) (ht : tellsB h0 l = true) (hk : h.nx + h0.nx ≤ 4096) :
    CallR P f args w (After w bs h (shV h.nx v) (shPut h.nx ⟨h.h, h.nx + h0.nx⟩ l)) := by
  have key : ∀ u w', After w Nm.no nilH v h0 u w' → After w bs h (shV h.nx v) (shPut h.nx ⟨h.h, h.nx + h0.nx⟩ l) u w' := by
    rintro u w' ⟨bs0, hR0, hM0, hv0⟩
    have hnown : ∀ k, ¬ Owned nilH Nm.no k := fun k ⟨i, b, _, _, hb⟩ => nomatch hb
    have hnew : ∀ i k, bs0.b i = some k → w.heap.size ≤ k := fun i k hb => by
      rcases Nat.lt_or_ge k w.heap.size with hlt | hge
      · rcases hM0.range i k hb hlt with e | e
        · exact nomatch e
        · exact absurd e (hnown k)
      · exact hge
    have hlt : ∀ x ∈ l, x.1 < h0.nx := fun x hx => (tellsB_ok ht x hx).elim fun _ h => h.2.2.1
    have hi0 : ∀ i k, bs0.b i = some k → i < h0.nx := fun i k hb => by
      rcases Nat.lt_or_ge i h0.nx with hl | hl
      · exact hl
      · rw [(hR0.nx i hl).1] at hb; cases hb
    have hsh : ∀ id, h.nx ≤ id → (shN bs bs0 h.nx).b id = bs0.b (id - h.nx) ∧ (shN bs bs0 h.nx).c id = bs0.c (id - h.nx) := fun id hid => ⟨if_neg (by omega), if_neg (by omega)⟩
    have hsl : ∀ id, id < h.nx → (shN bs bs0 h.nx).b id = bs.b id ∧ (shN bs bs0 h.nx).c id = bs.c id := fun id hid => ⟨if_pos hid, if_pos hid⟩
    have hle1 : ∀ id k, bs.b id = some k → (shN bs bs0 h.nx).b id = some k := fun id k e => by
      rcases Nat.lt_or_ge id h.nx with hl | hl
      · rw [(hsl id hl).1]; exact e
      · rw [(hR.nx id hl).1] at e; cases e
    have hle2 : ∀ id k, bs.c id = some k → (shN bs bs0 h.nx).c id = some k := fun id k e => by
      rcases Nat.lt_or_ge id h.nx with hl | hl
      · rw [(hsl id hl).2]; exact e
      · rw [(hR.nx id hl).2] at e; cases e
    have hle : Le bs (shN bs bs0 h.nx) := ⟨hle1, hle2⟩
    have hget : ∀ id b, id < 4096 → (shPut h.nx ⟨h.h, h.nx + h0.nx⟩ l).get id = some b → (id < h.nx ∧ h.get id = some b) ∨ ∃ x ∈ l, id = h.nx + x.1 ∧ b = shB h.nx x.2 := fun id b hid hb => by
      rcases shPut_get hk hlt id hid b hb with ⟨h1, _⟩ | h1
      · refine .inl ⟨?_, h1⟩
        rcases Nat.lt_or_ge id h.nx with hl | hl
        · exact hl
        · have := hR.gone hid (hR.nx id hl).1
          have h1 : h.get id = some b := h1
          rw [this] at h1; cases h1
      · exact .inr h1
    refine ⟨shN bs bs0 h.nx, ⟨fun id b hid hb => ?_, fun id id' b b' k hid hid' hb hb' e e' => ?_, fun id k e => ?_, fun id hid => ?_⟩, ⟨hM0.os, hM0.tape, hM0.output, hM0.size, hle, ?_, fun id hid => hsl id hid, fun k hk' _ => hM0.old k hk' (hnown k), fun k hk' ⟨id, b, hid, hb, e⟩ => ?_, fun id k e hk' => ?_⟩, shV_ok hv0⟩
    · rcases hget id b hid hb with ⟨hl, h1⟩ | ⟨x, hx, rfl, rfl⟩
      · obtain ⟨k, h2, h3⟩ := hR.blk id b hid h1
        refine ⟨k, by rw [(hsl id hl).1]; exact h2, h3.mono (hM0.old k (hR.dom id k h2).2 (hnown k)) hle (hsl id hl).2⟩
      · obtain ⟨b0, hg0, hq, _, _⟩ := tellsB_ok ht x hx
        obtain ⟨e1, e2, e3, e4, e5⟩ := blEq_ok hq
        obtain ⟨k, h2, cs, fr, c1, c2, c3, c4, c5, c6⟩ := hR0.blk x.1 b0 (by have := hlt x hx; omega) hg0
        refine ⟨k, by rw [shN_b]; exact h2, cs, fr, by rw [show (shB h.nx x.2).t = b0.t from e1]; exact c1, fun e => c2 (by rw [← e4]; exact e), by rw [show (shB h.nx x.2).len = b0.len from e2]; exact c3, by rw [show (shB h.nx x.2).len = b0.len from e2]; exact c4, ?_, ?_⟩
        · rw [shN_c, show (shB h.nx x.2).len = b0.len from e2, show (shB h.nx x.2).ks = b0.ks from e3]; exact c5
        · intro j hj
          rw [show (shB h.nx x.2).len = b0.len from e2] at hj
          obtain ⟨u', hu', hr'⟩ := c6 j hj
          refine ⟨u', hu', ?_⟩
          show CR _ ((T.map (shC h.nx) x.2.cs).get j) u'
          rw [T.map_get, e5 j hj]
          exact shC_ok hr'
    · rcases hget id b hid hb with ⟨hl, h1⟩ | ⟨x, hx, rfl, rfl⟩
      · rw [(hsl id hl).1] at e
        rcases hget id' b' hid' hb' with ⟨hl', h1'⟩ | ⟨x', hx', rfl, rfl⟩
        · rw [(hsl id' hl').1] at e'
          exact hR.inj id id' b b' k hid hid' h1 h1' e e'
        · rw [shN_b] at e'
          have := hnew _ _ e'
          have := (hR.dom id k e).2
          omega
      · rw [shN_b] at e
        rcases hget id' b' hid' hb' with ⟨hl', h1'⟩ | ⟨x', hx', rfl, rfl⟩
        · rw [(hsl id' hl').1] at e'
          have := hnew _ _ e
          have := (hR.dom id' k e').2
          omega
        · rw [shN_b] at e'
          obtain ⟨b1, g1, _⟩ := tellsB_ok ht x hx
          obtain ⟨b2, g2, _⟩ := tellsB_ok ht x' hx'
          have l1 := hlt x hx
          have l2 := hlt x' hx'
          rw [hR0.inj x.1 x'.1 b1 b2 k (by omega) (by omega) g1 g2 e e']
    · rcases Nat.lt_or_ge id h.nx with hl | hl
      · rw [(hsl id hl).1] at e
        have := hR.dom id k e
        exact ⟨this.1, Nat.lt_of_lt_of_le this.2 hM0.size⟩
      · rw [(hsh id hl).1] at e
        have h1 := hR0.dom _ k e
        have h2 := hi0 _ k e
        exact ⟨by omega, h1.2⟩
    · rw [shPut_nx] at hid
      have hid : h.nx + h0.nx ≤ id := hid
      rw [(hsh id (by omega)).1, (hsh id (by omega)).2]
      exact hR0.nx _ (by omega)
    · rw [shPut_nx]; exact Nat.le_add_right _ _
    · rcases hget id b hid hb with ⟨hl, h1⟩ | ⟨x, hx, rfl, rfl⟩
      · rw [(hsl id hl).1] at e
        exact ⟨id, b, hid, h1, e⟩
      · rw [shN_b] at e
        have := hnew _ _ e
        omega
    · rcases Nat.lt_or_ge id h.nx with hl | hl
      · rw [(hsl id hl).1] at e; exact .inl e
      · rw [(hsh id hl).1] at e
        have := hnew _ _ e
        omega
  rcases hc with ⟨u, w', h1, h2⟩ | ⟨h1, h2⟩
  · exact .inl ⟨u, w', h1, key _ _ h2⟩
  · exact .inr ⟨h1, h2.mono fun e w' ⟨u, he, ha⟩ => ⟨u, he, key _ _ ha⟩⟩
end
end Go.Ev
namespace Go.Sym
open Go Go.RowKit
theorem made_gen {P : Program} {t e m : Nat} {i : TypeInfo} {zv z : Value} (ht : P.underlying t = some (.slice e)) (h1 : P.info? e = some i) (h2 : i.zero = some zv) (hs : i.size = 1) (hv : zv.cells = #[z]) (hb : i.bytes ≤ 8) (hm : m ≤ 16777216) : Made P t e m (cells m fun _ => z) := fun w => by
  have hbm : i.bytes * m ≤ 8 * 16777216 := Nat.mul_le_mul hb hm
  have key := run_makeSlice (P := P) w t e i zv ht h1 h2 .i64 .i64 (m : Int) (m : Int) (by omega) (by omega) (by rw [Int.toNat_natCast, hs]; omega) (by
    have : ((i.bytes * m : Nat) : Int) ≤ ((8 * 16777216 : Nat) : Int) := Int.ofNat_le.2 hbm
    rw [Int.natCast_mul] at this
    omega) (by omega)
  rw [Int.toNat_natCast, hs, hv, Nat.mul_one] at key
  have hc : madeCells #[z] m = (cells m fun _ => z).toArray := by
    unfold madeCells cells
    apply Array.ext'
    simp
    intro a _
    simp [Nat.mod_one]
  rw [hc] at key
  exact key
def allU (p : Nat → Bool) : Nat → Bool
  | 0 => true
  | k + 1 => allU p k && p k
theorem allU_no {p : Nat → Bool} {i : Nat} (h : p i = false) : ∀ {m : Nat}, i < m → allU p m = false
  | 0, hi => by omega
  | m + 1, hi => by
    unfold allU
    by_cases e : i = m
    · subst e; rw [h, Bool.and_false]
    · rw [allU_no h (show i < m by omega), Bool.false_and]
theorem allU_step {p : Nat → Bool} {k : Nat} (h : allU p k = true) (hp : p k = true) : allU p (k + 1) = true := by unfold allU; rw [h, hp]; rfl
def canU (f g : Nat → BitVec 8) (i : Nat) : Bool := decide (g i &&& ~~~f i = 0#8)
def blankU (f : Nat → BitVec 8) (i : Nat) : Bool := decide (f i = 255#8)
def fstU (p : Nat → Bool) : Nat → Int
  | 0 => -1
  | k + 1 => if fstU p k = -1 then (if p k then -1 else (k : Int)) else fstU p k
theorem fstU_step {p : Nat → Bool} {k : Nat} (h : fstU p k = -1) (hp : p k = true) : fstU p (k + 1) = -1 := by unfold fstU; rw [if_pos h, if_pos hp]
theorem fstU_hit {p : Nat → Bool} {k : Nat} (h : fstU p k = -1) (hp : p k = false) : ∀ {m : Nat}, k < m → fstU p m = (k : Int)
  | 0, hi => by omega
  | m + 1, hi => by
    unfold fstU
    by_cases e : k = m
    · subst e; rw [if_pos h, hp]; rfl
    · rw [fstU_hit h hp (show k < m by omega), if_neg (by omega)]
theorem fstU_all (p : Nat → Bool) : ∀ m, decide ((0 : Int) ≤ fstU p m) = !allU p m
  | 0 => rfl
  | m + 1 => by
    have ih := fstU_all p m
    unfold fstU allU
    by_cases h : fstU p m = -1
    · rw [if_pos h]
      rw [h] at ih
      have ha : allU p m = true := by cases hb : allU p m <;> simp [hb] at ih ⊢
      rw [ha]
      cases hp : p m with
      | true => rfl
      | false => simp
    · rw [if_neg h, ih]
      have hge : (0 : Int) ≤ fstU p m := by
        have key : ∀ m, -1 ≤ fstU p m := by
          intro m
          induction m with
          | zero => exact Int.le_refl _
          | succ m ihm => unfold fstU; split <;> (try split) <;> omega
        have := key m; omega
      rw [decide_eq_true hge] at ih
      have ha : allU p m = false := by cases hb : allU p m <;> simp [hb] at ih ⊢
      rw [ha]; rfl
abbrev cW (n : Nat) (f : Nat → BitVec 32) : List Value := cells n (fun i => W (f i))
theorem cW_set {m i : Nat} {f : Nat → BitVec 32} (v : BitVec 32) : (cW m f).set i (W v) = cW m (upd f i v) := by
  rw [cW, cells_set]; exact cells_congr fun j _ => by unfold upd; split <;> rfl
theorem cW_one {m : Nat} {f : Nat → BitVec 32} : ∀ v ∈ cW m f, v.oneCell' = true := by
  intro v hv; obtain ⟨i, _, rfl⟩ := List.mem_map.1 hv; rfl
theorem cW_fil (m : Nat) (z : BitVec 32) (g : Nat → BitVec 32) : cW m (fil z g m) = cW m g := cells_congr fun i hi => by rw [fil_get, if_pos hi]
def crcU (x : BitVec 32) : Nat → BitVec 32
  | 0 => x
  | k + 1 => if crcU x k &&& 1#32 = 1#32 then (crcU x k >>> 1) ^^^ 3988292384#32 else crcU x k >>> 1
theorem crcU_one {x : BitVec 32} {k : Nat} (h : crcU x k &&& 1#32 = 1#32) : crcU x (k + 1) = (crcU x k >>> 1) ^^^ 3988292384#32 := if_pos h
theorem crcU_none {x : BitVec 32} {k : Nat} (h : ¬ crcU x k &&& 1#32 = 1#32) : crcU x (k + 1) = crcU x k >>> 1 := if_neg h
def crcOne (i : Nat) : BitVec 32 := crcU (BitVec.ofNat 32 i) 8
def crcG (f : Nat → BitVec 8) : Nat → BitVec 32
  | 0 => 4294967295#32
  | k + 1 => crcG f k >>> 8 ^^^ crcOne ((crcG f k).setWidth 8 ^^^ f k).toNat
theorem cv_NW (m : Nat) : Value.int .u32 (IntKind.u32.wrap (m : Int)) = W (BitVec.ofNat 32 m) := by rw [wrapW, BitVec.ofInt_natCast]; rfl
end Go.Sym
namespace Go.Proofs.YtgmieahcpkcabaaGreat
open Go Go.Sym
noncomputable def i5 : TypeInfo := (Tryz.prog.info? 5).getD default
theorem i5_eq : Tryz.prog.info? 5 = some i5 := by kernel_rfl
theorem i5_z : i5.zero = some (.int .u8 0) := by kernel_rfl
theorem i5_s : i5.size = 1 := by kernel_rfl
theorem i5_b : Nat.ble i5.bytes 8 = true := by kernel_rfl
theorem z5 : (Value.int .u8 0).cells = #[B 0] := by kernel_rfl
set_option maxRecDepth 100000 in
theorem made36 {m : Nat} (hm : m ≤ 16777216) : Made Tryz.prog 36 5 m (cB m (fun _ => 0)) := made_gen (z := B 0) Tryz.underlying36 i5_eq i5_z i5_s z5 (Nat.le_of_ble_eq_true i5_b) hm
theorem zero381 : Zero Tryz.prog 381 (cW 256 (fun _ => 0)) := fun _ => by kernel_rfl
section
variable {P : Program} {a : Act} {w : World} {n : Nat} {E : Nat → Option Value} {dst : Option Nat} {ty : TypeId} {pos : String} {af : Array Edge} {g : Option (Nat × Bool)}
theorem r_notW {t : TypeId} {x : Operand} {u : BitVec 32} (hS : Slots a n E) (hx : ev E x = some (W u)) : Run P a ⟨dst, .unOp .xor t x, ty, pos, af, g⟩ w (W (~~~u)) := by
  have h : Op.unary .xor (W u) = pure (W (~~~u)) := by
    show (pure (Value.int .u32 (IntKind.u32.wrap ((BitVec.ofInt 32 _ ^^^ BitVec.ofInt 32 _).toNat : Int))) : Sem Value) = _
    have e : BitVec.ofInt 32 (if IntKind.u32.signed then -1 else IntKind.u32.max) = BitVec.allOnes 32 := by decide
    rw [ofInt_nat, wrapW, ofInt_nat, e, BitVec.allOnes_xor]
    rfl
  simp [Run, execOp, hS.eval hx, h]
end
theorem blank_step (k : Nat) : upd (fil 0#8 (fun _ => 255#8) k) k 255#8 = fil 0#8 (fun _ => 255#8) (k + 1) := rfl
theorem crc_step (k : Nat) : upd (fil 0#32 crcOne k) k (crcOne k) = fil 0#32 crcOne (k + 1) := rfl
theorem run_callv {P : Program} {a : Act} {w : World} {n : Nat} {E : Nat → Option Value} {dst : Option Nat} {ty : TypeId} {pos : String} {af : Array Edge} {g : Option (Nat × Bool)} {f : FuncId} {t : Nat} {xs : List Operand} {ats : Array TypeId} {vs : List Value} (hf : callable P f = true) (hS : Slots a n E) (ht : E t = some (.func (.func f) #[] #[])) (hx : evs E xs = some vs) :
    (execOp a.eval ⟨dst, .call ⟨.value (.tmp t), xs.toArray, ats⟩, ty, pos, af, g⟩).run P w = .ok (.enter f vs.toArray) w := by
  have h := Slots.evals (xs := xs) hS hx
  have h' : Array.map a.eval xs.toArray = vs.toArray := by rw [← h]; simp
  have h1 : execOp a.eval ⟨dst, .call ⟨.value (.tmp t), xs.toArray, ats⟩, ty, pos, af, g⟩ = (do let d ← resolve a.eval ⟨.value (.tmp t), xs.toArray, ats⟩ ty; invoke d.target d.args) := rfl
  have hv : a.eval (.tmp t) = .func (.func f) #[] #[] := hS.eval ht
  rw [h1]
  unfold resolve
  simp only [hv]
  show (callFunc f (#[] ++ Array.map a.eval xs.toArray ++ #[])).run P w = _
  simp only [Array.empty_append, Array.append_empty, h']
  exact run_callFunc hf _
theorem s_purev {P : Program} {Q : Exit → Act → World → Prop} {a : Act} {w w0 : World} {n : Nat} {ops : Array Oper} {rest : List Oper} {L : List Blk} {E : Nat → Option Value} {ty : TypeId} {pos : String} {af : Array Edge} {f : FuncId} {t d : Nat} {xs : List Operand} {ats : Array TypeId} {vs : List Value} {v : Value} (hS : Slots a n E) (hM : Mem w0 w L) (hd : d < n) (ht : E t = some (.func (.func f) #[] #[])) (hx : evs E xs = some vs) (hc : Pure P f vs.toArray w v)
    (h : ∀ a w, Slots a n (put E d v) → Mem w0 w L → wpList P ops Q rest a w) : wpList P ops Q (⟨some d, .call ⟨.value (.tmp t), xs.toArray, ats⟩, ty, pos, af, none⟩ :: rest) a w := by
  refine wpList_plain rfl (fun K hK => ?_)
  unfold Oper.wp
  rw [run_callv hc.ok hS ht hx, Oper.upon_enter]
  refine hc.calls.mono ?_
  rintro e w' ⟨rfl, hm⟩
  exact hK _ _ (h _ w' (hS.put v hd) (hM.after hm))
theorem b_neqNf {t : TypeId} {x y : Nat} (h : x = y) : binOp .neq t (N x) (N y) = pure (.bool false) := by rw [b_neqN, decide_eq_true h]; rfl
theorem sz352 : (Tryz.prog.info? 352).map (·.size) = some 1 := by kernel_rfl
theorem sz381 : (Tryz.prog.info? 381).map (·.size) = some 256 := by kernel_rfl
set_option maxRecDepth 100000 in
theorem blank_ok (m : Nat) (hm : m ≤ 65536) (w0 : World) : NewRow Tryz.prog 39 #[N m] w0 5 m (fun _ => B 255#8) := by
  refine ⟨by kernel_rfl, ?_⟩
  refine calls_sym Tryz.func39 rfl (by kernel_rfl) ?_
  intro a hS
  have hM : Mem w0 w0 [] := Mem.refl w0
  refine c_seq <| c_region ?_
  refine vg hS <| va rfl ?_; clear hS; intro a hS
  refine s_nil <| k_seq <| c_seq <| c_region ?_
  refine vg hS <| vm rfl <| vv (r_min · rfl (show ev _ _ = some (N 65536) from rfl) (r := (m : Int)) (if_neg (by omega))) <| vv (r_max · (show ev _ _ = some (N 0) from rfl) rfl (r := (m : Int)) (by split <;> omega)) ?_; clear hS; intro a hS
  refine s_make hS hM (by decide) rfl rfl (made36 (by omega)) ?_; clear hS hM; intro a b8 w hb8 hS hM
  refine vg hS <| va rfl ?_; clear hS; intro a hS
  refine s_nil <| k_seq <| c_seq <| c_seq <| c_region ?_
  refine vg hS <| vm rfl <| vv (r_len · rfl Tryz.underlying36) <| vv (r_move · (show ev _ _ = some (N 0) from rfl)) ?_; clear hS; intro a hS
  refine s_nil <| k_seq <| c_block ?_
  refine c_loop (σ := Nat) (fun k a w => (k ≤ m) ∧ Slots a 19 (env [(3, .slice (some ⟨b8, 0, none⟩) m m), (10, N m), (11, N k)]) ∧ Mem w0 w ([⟨b8, 5, cB m (fil 0#8 (fun _ => 255#8) k)⟩])) (fun k => m - k) (0) ⟨by omega, hS.to _ ⟨rfl, rfl, rfl, trivial⟩, hM⟩ ?_
  clear hS hM; rintro k a w ⟨hk, hS, hM⟩
  refine c_seq <| c_region ?_
  refine vg hS <| vv (r_bv · rfl rfl gN (b_lssN _ _ _)) ?_; clear hS; intro a hS
  refine s_nil <| k_seq <| c_seq ?_
  refine c_cond hS rfl (fun hc => ?_) (fun hc => ?_)
  · have hk1 := of_decide_eq_true hc
    refine c_skip <| k_seq <| c_seq <| c_block <| c_seq <| c_region ?_
    refine vg hS <| vm rfl <| va rfl ?_; clear hS; intro a hS
    refine s_nil <| k_seq <| c_region ?_
    refine vg hS <| vm rfl <| vm rfl <| vv (r_indexS0 · rfl rfl Tryz.underlying36 sz5 (by omega)) ?_; clear hS; intro a hS
    refine s_storeB hS hM rfl (show ev _ _ = some (B 255#8) from rfl) (j := 0) rfl sz5 (by omega) ?_; clear hS hM; intro a w hS hM
    refine s_nil <| k_in <| k_seq <| c_region ?_
    refine vg hS <| vv (r_bv · rfl (show ev _ _ = some (N 1) from rfl) gN (b_addN _ _ _ (by omega))) <| vm rfl ?_; clear hS; intro a hS
    refine s_nil <| k_then ?_
    refine ⟨k + 1, by omega, by omega, hS.to _ ⟨rfl, rfl, rfl, trivial⟩, (hM.congr (by rw [← blank_step]; rfl))⟩
  · obtain rfl : k = m := by have := of_decide_eq_false hc; omega
    refine c_exit <| k_thenx <| k_thenx <| k_inx <| k_seq <| c_seq <| c_region ?_
    refine vg hS <| vm rfl <| va rfl ?_; clear hS; intro a hS
    refine s_nil <| k_seq <| c_ret ?_
    exact k_res1 hS rfl (RV.tmp rfl) (newrow_end hb8 (hM.congr (by rw [cB_fil])))
set_option maxRecDepth 100000 in
theorem can_ok (w0 : World) {v u : Value} {m : Nat} {f g : Nat → BitVec 8} (hr : Rd w0 v m (fun i => B (f i))) (hr2 : Rd w0 u m (fun i => B (g i))) (hmb : m < 4611686018427387904) : Pure Tryz.prog 341 #[v, u] w0 (.bool (allU (canU f g) m)) := by
  refine ⟨by kernel_rfl, ?_⟩
  refine calls_sym Tryz.func341 rfl (by kernel_rfl) ?_
  intro a hS
  have hM : Mem w0 w0 [] := Mem.refl w0
  refine c_seq <| c_region ?_
  refine vg hS <| va rfl ?_; clear hS; intro a hS
  refine s_nil <| k_seq <| c_seq <| c_seq <| c_region ?_
  refine vg hS <| vm rfl <| vv (r_lenR · rfl (hr.keep hM (by intro hq e he; cases he)) Tryz.underlying36) <| vm rfl <| vv (r_lenR · rfl (hr2.keep hM (by intro hq e he; cases he)) Tryz.underlying36) <| vv (r_bv · rfl rfl gN (b_neqNf rfl)) ?_; clear hS; intro a hS
  refine s_nil <| k_seq ?_
  refine c_false hS rfl rfl ?_
  refine c_skip <| k_seq <| c_seq <| c_seq <| c_region ?_
  refine vg hS <| vm rfl <| vv (r_lenR · rfl (hr.keep hM (by intro hq e he; cases he)) Tryz.underlying36) <| vv (r_move · (show ev _ _ = some (N 0) from rfl)) ?_; clear hS; intro a hS
  refine s_nil <| k_seq <| c_block ?_
  refine c_loop (σ := Nat) (fun k a w => (k ≤ m ∧ allU (canU f g) k = true) ∧ Slots a 27 (env [(0, v), (1, u), (12, N m), (13, N k)]) ∧ Mem w0 w ([])) (fun k => m - k) (0) ⟨⟨by omega, rfl⟩, hS.to _ ⟨rfl, rfl, rfl, rfl, trivial⟩, hM⟩ ?_
  clear hS hM; rintro k a w ⟨hk, hS, hM⟩
  obtain ⟨hkm, hka⟩ := hk; have hk : k ≤ m ∧ allU (canU f g) k = true := ⟨hkm, hka⟩
  refine c_seq <| c_region ?_
  refine vg hS <| vv (r_bv · rfl rfl gN (b_lssN _ _ _)) ?_; clear hS; intro a hS
  refine s_nil <| k_seq <| c_seq ?_
  refine c_cond hS rfl (fun hc => ?_) (fun hc => ?_)
  · have hk1 := of_decide_eq_true hc
    refine c_skip <| k_seq <| c_seq <| c_block <| c_seq <| c_region ?_
    refine vg hS <| vm rfl <| va rfl ?_; clear hS; intro a hS
    refine s_nil <| k_seq <| c_seq ?_
    refine c_plan 10 (fun w => Mem w0 w _) [(1, _), (5, _), (0, _), (12, _), (13, _), (14, _), (15, _)] (by kernel_rfl) (by kernel_rfl) hS ⟨rfl, rfl, rfl, rfl, rfl, rfl, rfl, trivial⟩ (hM.drawn _) ?_; clear hS hM
    refine pv rfl (fun hS _ => r_move hS rfl) <| pv rfl (fun hS _ => r_move hS rfl) <| pv rfl (fun hS hM => r_indexR hS rfl (hr2.keep hM (by intro hq e he; cases he)) rfl Tryz.underlying36 sz5 (by omega)) <| pv rfl (fun hS hM => r_loadR hS rfl (hr2.keep hM (by intro hq e he; cases he)) (by omega) Tryz.underlying5 rfl) <| pv rfl (fun hS _ => r_move hS rfl) <| pv rfl (fun hS _ => r_move hS rfl) <| pv rfl (fun hS hM => r_indexR hS rfl (hr.keep hM (by intro hq e he; cases he)) rfl Tryz.underlying36 sz5 (by omega)) <| pv rfl (fun hS hM => r_loadR hS rfl (hr.keep hM (by intro hq e he; cases he)) (by omega) Tryz.underlying5 rfl) <| pv rfl (fun hS _ => r_bv hS rfl rfl gB (b_andNotB _ _ _)) <| pv rfl (fun hS _ => r_bv hS rfl (show ev _ _ = some (B 0#8) from rfl) gB (b_neqB _ _ _)) ?_
    refine p_nil rfl ?_; intro a w hS hM
    refine s_nil <| k_seq ?_
    refine c_cond hS rfl (fun hc => ?_) (fun hc => ?_)
    · have hk2 : ¬ g k &&& ~~~f k = 0#8 := by simpa using hc
      refine c_seq <| c_region ?_
      refine vg hS <| va rfl ?_; clear hS; intro a hS
      refine s_nil <| k_seq <| c_ret <| k_inr <| k_thenr <| k_thenr <| k_inr <| k_thenr ?_
      exact k_res1 hS rfl (RV.tmp rfl) ⟨(by first | rw [allU_no (p := canU f g) (i := k) (decide_eq_false hk2) hk1] | rw [hk.2]), hM.done trivial⟩
    · have hk2 : g k &&& ~~~f k = 0#8 := by simpa using hc
      refine c_skip <| k_in <| k_seq <| c_region ?_
      refine vg hS <| vv (r_bv · rfl (show ev _ _ = some (N 1) from rfl) gN (b_addN _ _ _ (by omega))) <| vm rfl ?_; clear hS; intro a hS
      refine s_nil <| k_then ?_
      refine ⟨k + 1, by omega, ⟨by omega, allU_step hk.2 (decide_eq_true hk2)⟩, hS.to _ ⟨rfl, rfl, rfl, rfl, trivial⟩, hM⟩
  · obtain rfl : k = m := by have := of_decide_eq_false hc; omega
    refine c_exit <| k_thenx <| k_thenx <| k_inx <| k_seq <| c_seq <| c_region ?_
    refine vg hS <| va rfl ?_; clear hS; intro a hS
    refine s_nil <| k_seq <| c_ret ?_
    exact k_res1 hS rfl (RV.tmp rfl) ⟨(by first | rw [allU_no (p := canU f g) (i := k) (decide_eq_false hk2) hk1] | rw [hk.2]), hM.done trivial⟩
set_option maxRecDepth 100000 in
theorem isnt_ok (x : BitVec 8) (w0 : World) : Pure Tryz.prog 281 #[B x] w0 (.bool (!decide (x = 255#8))) := by
  refine ⟨by kernel_rfl, ?_⟩
  refine calls_sym Tryz.func281 rfl (by kernel_rfl) ?_
  intro a hS
  have hM : Mem w0 w0 [] := Mem.refl w0
  refine c_seq <| c_region ?_
  refine vg hS <| va rfl ?_; clear hS; intro a hS
  refine s_nil <| k_seq <| c_seq <| c_region ?_
  refine vg hS <| vm rfl <| vv (r_bv · rfl (show ev _ _ = some (B 255#8) from rfl) gB (b_neqB _ _ _)) <| va rfl ?_; clear hS; intro a hS
  refine s_nil <| k_seq <| c_ret ?_
  exact k_res1 hS rfl (RV.tmp rfl) ⟨rfl, hM.done trivial⟩
set_option maxRecDepth 100000 in
theorem indexf_ok (w0 : World) {v : Value} {m : Nat} {f : Nat → BitVec 8} (hr : Rd w0 v m (fun i => B (f i))) (hmb : m < 4611686018427387904) : Pure Tryz.prog 320 #[v, .func (.func 281) #[] #[]] w0 (.int .i64 (fstU (blankU f) m)) := by
  refine ⟨by kernel_rfl, ?_⟩
  refine calls_sym Tryz.func320 rfl (by kernel_rfl) ?_
  intro a hS
  have hM : Mem w0 w0 [] := Mem.refl w0
  refine c_seq <| c_region ?_
  refine vg hS <| vv (r_assign · (show ev _ _ = some (N 0) from rfl)) ?_; clear hS; intro a hS
  refine s_nil <| k_seq <| c_seq <| c_seq <| c_region ?_
  refine vg hS <| vm rfl <| vv (r_lenR · rfl (hr.keep hM (by intro hq e he; cases he)) Tryz.underlying36) <| vv (r_move · (show ev _ _ = some (N 0) from rfl)) ?_; clear hS; intro a hS
  refine s_nil <| k_seq <| c_block ?_
  refine c_loop (σ := Nat) (fun k a w => (k ≤ m ∧ fstU (blankU f) k = -1) ∧ Slots a 19 (env [(0, v), (1, .func (.func 281) #[] #[]), (7, N m), (8, N k)]) ∧ Mem w0 w ([])) (fun k => m - k) (0) ⟨⟨by omega, rfl⟩, hS.to _ ⟨rfl, rfl, rfl, rfl, trivial⟩, hM⟩ ?_
  clear hS hM; rintro k a w ⟨hk, hS, hM⟩
  obtain ⟨hkm, hka⟩ := hk; have hk : k ≤ m ∧ fstU (blankU f) k = -1 := ⟨hkm, hka⟩
  refine c_seq <| c_region ?_
  refine vg hS <| vv (r_bv · rfl rfl gN (b_lssN _ _ _)) ?_; clear hS; intro a hS
  refine s_nil <| k_seq <| c_seq ?_
  refine c_cond hS rfl (fun hc => ?_) (fun hc => ?_)
  · have hk1 := of_decide_eq_true hc
    refine c_skip <| k_seq <| c_seq <| c_block <| c_seq <| c_region ?_
    refine vg hS <| vm rfl <| va rfl ?_; clear hS; intro a hS
    refine s_nil <| k_seq <| c_seq <| c_region ?_
    refine vg hS <| vm rfl <| vm rfl <| vm rfl <| vv (r_indexR · rfl (hr.keep hM (by intro hq e he; cases he)) rfl Tryz.underlying36 sz5 (by omega)) <| vv (r_loadR · rfl (hr.keep hM (by intro hq e he; cases he)) (by omega) Tryz.underlying5 rfl) ?_; clear hS; intro a hS
    refine s_purev hS hM (by decide) rfl rfl (isnt_ok _ _) ?_; clear hS hM; intro a w hS hM
    refine s_nil <| k_seq ?_
    refine c_cond hS rfl (fun hc => ?_) (fun hc => ?_)
    · have hk2 : blankU f k = false := by simpa [blankU] using hc
      refine c_seq <| c_region ?_
      refine vg hS <| vm rfl <| va rfl ?_; clear hS; intro a hS
      refine s_nil <| k_seq <| c_ret <| k_inr <| k_thenr <| k_thenr <| k_inr <| k_thenr ?_
      exact k_res1 hS rfl (RV.tmp rfl) ⟨(by first | rw [fstU_hit hk.2 hk2 hk1]; rfl | rw [hk.2]), hM.done trivial⟩
    · have hk2 : blankU f k = true := by simpa [blankU] using hc
      refine c_skip <| k_in <| k_seq <| c_region ?_
      refine vg hS <| vv (r_bv · rfl (show ev _ _ = some (N 1) from rfl) gN (b_addN _ _ _ (by omega))) <| vm rfl ?_; clear hS; intro a hS
      refine s_nil <| k_then ?_
      refine ⟨k + 1, by omega, ⟨by omega, fstU_step hk.2 hk2⟩, hS.to _ ⟨rfl, rfl, rfl, rfl, trivial⟩, hM⟩
  · obtain rfl : k = m := by have := of_decide_eq_false hc; omega
    refine c_exit <| k_thenx <| k_thenx <| k_inx <| k_seq <| c_seq <| c_region ?_
    refine vg hS <| vv (r_assign · (show ev _ _ = some (.int .i64 (-1)) from rfl)) ?_; clear hS; intro a hS
    refine s_nil <| k_seq <| c_ret ?_
    exact k_res1 hS rfl (RV.tmp rfl) ⟨(by first | rw [fstU_hit hk.2 hk2 hk1]; rfl | rw [hk.2]), hM.done trivial⟩
set_option maxRecDepth 100000 in
theorem containsf_ok (w0 : World) {v : Value} {m : Nat} {f : Nat → BitVec 8} (hr : Rd w0 v m (fun i => B (f i))) (hmb : m < 4611686018427387904) : Pure Tryz.prog 280 #[v, .func (.func 281) #[] #[]] w0 (.bool (!allU (blankU f) m)) := by
  refine ⟨by kernel_rfl, ?_⟩
  refine calls_sym Tryz.func280 rfl (by kernel_rfl) ?_
  intro a hS
  have hM : Mem w0 w0 [] := Mem.refl w0
  refine c_seq <| c_region ?_
  refine vg hS <| va rfl ?_; clear hS; intro a hS
  refine s_nil <| k_seq <| c_seq <| c_region ?_
  refine vg hS <| vm rfl <| vm rfl ?_; clear hS; intro a hS
  refine s_pure hS hM (by decide) rfl (indexf_ok _ (hr.keep hM (by intro hq e he; cases he)) hmb) ?_; clear hS hM; intro a w hS hM
  refine vg hS <| vv (r_bv · rfl (show ev _ _ = some (.int .i64 (0)) from rfl) gZ (b_geqZ _ _ _)) <| va rfl ?_; clear hS; intro a hS
  refine s_nil <| k_seq <| c_ret ?_
  exact k_res1 hS rfl (RV.tmp rfl) ⟨(by rw [← fstU_all]), hM.done trivial⟩
set_option maxRecDepth 100000 in
theorem isblank_ok (w0 : World) {v : Value} {m : Nat} {f : Nat → BitVec 8} (hr : Rd w0 v m (fun i => B (f i))) (hmb : m < 4611686018427387904) : Pure Tryz.prog 226 #[v] w0 (.bool (allU (blankU f) m)) := by
  refine ⟨by kernel_rfl, ?_⟩
  refine calls_sym Tryz.func226 rfl (by kernel_rfl) ?_
  intro a hS
  have hM : Mem w0 w0 [] := Mem.refl w0
  refine c_seq <| c_region ?_
  refine vg hS <| va rfl ?_; clear hS; intro a hS
  refine s_nil <| k_seq <| c_seq <| c_region ?_
  refine vg hS <| vm rfl ?_; clear hS; intro a hS
  refine s_pure hS hM (by decide) (vs := [_, .func (.func 281) #[] #[]]) rfl (containsf_ok _ (hr.keep hM (by intro hq e he; cases he)) hmb) ?_; clear hS hM; intro a w hS hM
  refine vg hS <| vv (r_not · rfl) <| va rfl ?_; clear hS; intro a hS
  refine s_nil <| k_seq <| c_ret ?_
  exact k_res1 hS rfl (RV.tmp rfl) ⟨(by rw [Bool.not_not]), hM.done trivial⟩
set_option maxRecDepth 100000 in
theorem crcone_ok (i : Nat) (w0 : World) : Pure Tryz.prog 340 #[N i] w0 (W (crcOne i)) := by
  refine ⟨by kernel_rfl, ?_⟩
  refine calls_sym Tryz.func340 rfl (by kernel_rfl) ?_
  intro a hS
  have hM : Mem w0 w0 [] := Mem.refl w0
  refine c_seq <| c_region ?_
  refine vg hS <| vv (r_assign · (show ev _ _ = some (W 0#32) from rfl)) ?_; clear hS; intro a hS
  refine s_nil <| k_seq <| c_seq <| c_region ?_
  refine vg hS <| vm rfl <| vv (r_conv · rfl (by kernel_rfl) Tryz.underlying352 (cv_NW _)) <| va rfl ?_; clear hS; intro a hS
  refine s_nil <| k_seq <| c_seq <| c_seq <| c_region ?_
  refine vg hS <| vv (r_move · (show ev _ _ = some (N 0) from rfl)) ?_; clear hS; intro a hS
  refine s_nil <| k_seq <| c_block ?_
  refine c_loop (σ := Nat) (fun k a w => (k ≤ 8) ∧ Slots a 19 (env [(3, W (crcU (BitVec.ofNat 32 i) k)), (7, N k)]) ∧ Mem w0 w ([])) (fun k => 8 - k) (0) ⟨by omega, hS.to _ ⟨rfl, rfl, trivial⟩, hM⟩ ?_
  clear hS hM; rintro k a w ⟨hk, hS, hM⟩
  refine c_seq <| c_region ?_
  refine vg hS <| vv (r_bv · rfl (show ev _ _ = some (N 8) from rfl) gN (b_lssN _ _ _)) ?_; clear hS; intro a hS
  refine s_nil <| k_seq <| c_seq ?_
  refine c_cond hS rfl (fun hc => ?_) (fun hc => ?_)
  · have hk1 := of_decide_eq_true hc
    refine c_skip <| k_seq <| c_seq <| c_block <| c_seq <| c_region ?_
    refine vg hS <| vm rfl <| vv (r_bv · rfl (show ev _ _ = some (W 1#32) from rfl) gW (b_andW _ _ _)) <| va rfl ?_; clear hS; intro a hS
    refine s_nil <| k_seq <| c_seq <| c_region ?_
    refine vg hS <| vm rfl <| vv (r_bv · rfl (show ev _ _ = some (.int .u64 ((1 : Nat) : Int)) from rfl) gW (b_shrW _ _ _ 1)) <| va rfl ?_; clear hS; intro a hS
    refine s_nil <| k_seq <| c_seq <| c_region ?_
    refine vg hS <| vm rfl <| vv (r_bv · rfl (show ev _ _ = some (W 1#32) from rfl) gW (b_eqlW _ _ _)) ?_; clear hS; intro a hS
    refine s_nil <| k_seq ?_
    refine c_cond hS rfl (fun hc => ?_) (fun hc => ?_)
    · have hk2 := of_decide_eq_true hc
      refine c_region ?_
      refine vg hS <| vm rfl <| vv (r_bv · rfl (show ev _ _ = some (W 3988292384#32) from rfl) gW (b_xorW _ _ _)) <| va rfl ?_; clear hS; intro a hS
      refine s_nil <| k_in <| k_seq <| c_region ?_
      refine vg hS <| vv (r_bv · rfl (show ev _ _ = some (N 1) from rfl) gN (b_addN _ _ _ (by omega))) <| vm rfl ?_; clear hS; intro a hS
      refine s_nil <| k_then ?_
      refine ⟨k + 1, by omega, by omega, hS.to _ ⟨congrArg (fun q => some (W q)) (by first | rw [crcU_one hk2] | rw [crcU_none hk2]), rfl, trivial⟩, hM⟩
    · have hk2 := of_decide_eq_false hc
      refine c_skip <| k_in <| k_seq <| c_region ?_
      refine vg hS <| vv (r_bv · rfl (show ev _ _ = some (N 1) from rfl) gN (b_addN _ _ _ (by omega))) <| vm rfl ?_; clear hS; intro a hS
      refine s_nil <| k_then ?_
      refine ⟨k + 1, by omega, by omega, hS.to _ ⟨congrArg (fun q => some (W q)) (by first | rw [crcU_one hk2] | rw [crcU_none hk2]), rfl, trivial⟩, hM⟩
  · obtain rfl : k = 8 := by have := of_decide_eq_false hc; omega
    refine c_exit <| k_thenx <| k_thenx <| k_inx <| k_seq <| c_seq <| c_region ?_
    refine vg hS <| vm rfl <| va rfl ?_; clear hS; intro a hS
    refine s_nil <| k_seq <| c_ret ?_
    exact k_res1 hS rfl (RV.tmp rfl) ⟨rfl, hM.done trivial⟩
set_option maxRecDepth 100000 in
theorem crctable_ok  (w0 : World) : Pure Tryz.prog 321 #[] w0 (.agg (cW 256 crcOne).toArray) := by
  refine ⟨by kernel_rfl, ?_⟩
  refine calls_sym Tryz.func321 rfl (by kernel_rfl) ?_
  intro a hS
  have hM : Mem w0 w0 [] := Mem.refl w0
  refine c_seq <| c_region ?_
  refine s_alloc hS hM (by decide) zero381 ?_; clear hS hM; intro a b0 w hb0 hS hM
  refine s_nil <| k_seq <| c_seq <| c_region ?_
  refine s_alloc hS hM (by decide) zero381 ?_; clear hS hM; intro a b1 w hb1 hS hM
  refine s_nil <| k_seq <| c_seq <| c_seq <| c_region ?_
  refine vg hS <| vv (r_move · (show ev _ _ = some (N 0) from rfl)) ?_; clear hS; intro a hS
  refine s_nil <| k_seq <| c_block ?_
  refine c_loop (σ := Nat) (fun k a w => (k ≤ 256) ∧ Slots a 12 (env [(0, ptr b0 0), (1, ptr b1 0), (3, N k)]) ∧ Mem w0 w ([⟨b1, 381, cW 256 (fil 0#32 crcOne k)⟩, ⟨b0, 381, cW 256 (fun _ => 0)⟩])) (fun k => 256 - k) (0) ⟨by omega, hS.to _ ⟨rfl, rfl, rfl, trivial⟩, hM⟩ ?_
  clear hS hM; rintro k a w ⟨hk, hS, hM⟩
  refine c_seq <| c_region ?_
  refine vg hS <| vv (r_bv · rfl (show ev _ _ = some (N 256) from rfl) gN (b_lssN _ _ _)) ?_; clear hS; intro a hS
  refine s_nil <| k_seq <| c_seq ?_
  refine c_cond hS rfl (fun hc => ?_) (fun hc => ?_)
  · have hk1 := of_decide_eq_true hc
    refine c_skip <| k_seq <| c_seq <| c_block <| c_seq <| c_region ?_
    refine vg hS <| vm rfl <| va rfl ?_; clear hS; intro a hS
    refine s_nil <| k_seq <| c_region ?_
    refine vg hS <| vm rfl <| vm rfl ?_; clear hS; intro a hS
    refine s_pure hS hM (by decide) rfl (crcone_ok _ _) ?_; clear hS hM; intro a w hS hM
    refine vg hS <| vv (r_index0 · rfl rfl Tryz.underlying381 sz352 (by omega)) ?_; clear hS; intro a hS
    refine s_store hS hM rfl rfl (j := 0) rfl sz352 rfl (cells_get hk1) ?_; clear hS hM; intro a w hS hM
    replace hM := hM.congr (congrArg (fun q => List.cons (Blk.mk _ _ q) _) (cW_set _))
    refine s_nil <| k_in <| k_seq <| c_region ?_
    refine vg hS <| vv (r_bv · rfl (show ev _ _ = some (N 1) from rfl) gN (b_addN _ _ _ (by omega))) <| vm rfl ?_; clear hS; intro a hS
    refine s_nil <| k_then ?_
    refine ⟨k + 1, by omega, by omega, hS.to _ ⟨rfl, rfl, rfl, trivial⟩, (hM.congr (by rw [← crc_step]))⟩
  · obtain rfl : k = 256 := by have := of_decide_eq_false hc; omega
    refine c_exit <| k_thenx <| k_thenx <| k_inx <| k_seq <| c_seq <| c_region ?_
    refine vg hS <| vv (r_loadAll · hM rfl (j := 0) rfl Tryz.underlying381 rfl sz381 cells_len) ?_; clear hS; intro a hS
    refine s_storeAll hS hM rfl rfl (j := 1) rfl sz381 cells_len cells_len cW_one ?_; clear hS hM; intro a w hS hM
    refine s_nil <| k_seq <| c_ret ?_
    exact k_res1 hS rfl (RV.row rfl (hM.have_ _ (mem_of_get (j := 1) rfl)) Tryz.underlying381 rfl (by rw [sz381]; exact congrArg some cells_len.symm)) ⟨congrArg (fun q => Ending.returned (.agg (List.toArray q))) (cW_fil 256 0#32 crcOne), hM.done ⟨hb1, hb0, trivial⟩⟩
set_option maxRecDepth 100000 in
theorem crcsum_ok (w0 : World) {v : Value} {m : Nat} {f : Nat → BitVec 8} (hr : Rd w0 v m (fun i => B (f i))) (hmb : m < 4611686018427387904) : Pure Tryz.prog 285 #[v] w0 (W (~~~crcG f m)) := by
  refine ⟨by kernel_rfl, ?_⟩
  refine calls_sym Tryz.func285 rfl (by kernel_rfl) ?_
  intro a hS
  have hM : Mem w0 w0 [] := Mem.refl w0
  refine c_seq <| c_region ?_
  refine vg hS <| vv (r_assign · (show ev _ _ = some (W 0#32) from rfl)) ?_; clear hS; intro a hS
  refine s_nil <| k_seq <| c_seq <| c_region ?_
  refine s_pure hS hM (by decide) rfl (crctable_ok _) ?_; clear hS hM; intro a w hS hM
  refine s_alloc hS hM (by decide) zero381 ?_; clear hS hM; intro a b3 w hb3 hS hM
  refine s_storeAll hS hM rfl rfl (j := 0) rfl sz381 cells_len cells_len cW_one ?_; clear hS hM; intro a w hS hM
  refine s_nil <| k_seq <| c_seq <| c_region ?_
  refine vg hS <| vv (r_assign · (show ev _ _ = some (W 4294967295#32) from rfl)) ?_; clear hS; intro a hS
  refine s_nil <| k_seq <| c_seq <| c_seq <| c_region ?_
  refine vg hS <| vm rfl <| vv (r_lenR · rfl (hr.keepGe hM ⟨hb3, trivial⟩) Tryz.underlying36) <| vv (r_move · (show ev _ _ = some (N 0) from rfl)) ?_; clear hS; intro a hS
  refine s_nil <| k_seq <| c_block ?_
  refine c_loop (σ := Nat) (fun k a w => (k ≤ m) ∧ Slots a 26 (env [(3, ptr b3 0), (4, W (crcG f k)), (8, v), (9, N m), (10, N k)]) ∧ Mem w0 w ([⟨b3, 381, cW 256 crcOne⟩])) (fun k => m - k) (0) ⟨by omega, hS.to _ ⟨rfl, rfl, rfl, rfl, rfl, trivial⟩, hM⟩ ?_
  clear hS hM; rintro k a w ⟨hk, hS, hM⟩
  refine c_seq <| c_region ?_
  refine vg hS <| vv (r_bv · rfl rfl gN (b_lssN _ _ _)) ?_; clear hS; intro a hS
  refine s_nil <| k_seq <| c_seq ?_
  refine c_cond hS rfl (fun hc => ?_) (fun hc => ?_)
  · have hk1 := of_decide_eq_true hc
    refine c_skip <| k_seq <| c_seq <| c_block <| c_seq <| c_region ?_
    refine vg hS <| vv (r_indexR · rfl (hr.keepGe hM ⟨hb3, trivial⟩) rfl Tryz.underlying36 sz5 (by omega)) <| vv (r_loadR · rfl (hr.keepGe hM ⟨hb3, trivial⟩) (by omega) Tryz.underlying5 rfl) <| va rfl ?_; clear hS; intro a hS
    refine s_nil <| k_seq <| c_region ?_
    refine vg hS <| vm rfl <| vv (r_bv · rfl (show ev _ _ = some (.int .u64 ((8 : Nat) : Int)) from rfl) gW (b_shrW _ _ _ 8)) <| vm rfl <| vv (r_conv · rfl (by kernel_rfl) Tryz.underlying5 (cv_WB _)) <| vm rfl <| vv (r_bv · rfl rfl gB (b_xorB _ _ _)) <| vv (r_index0 · rfl rfl Tryz.underlying381 sz352 (BitVec.isLt _)) <| vv (r_load · hM rfl (j := 0) rfl Tryz.underlying352 rfl (cells_get (BitVec.isLt _))) <| vv (r_bv · rfl rfl gW (b_xorW _ _ _)) <| va rfl ?_; clear hS; intro a hS
    refine s_nil <| k_in <| k_seq <| c_region ?_
    refine vg hS <| vv (r_bv · rfl (show ev _ _ = some (N 1) from rfl) gN (b_addN _ _ _ (by omega))) <| vm rfl ?_; clear hS; intro a hS
    refine s_nil <| k_then ?_
    refine ⟨k + 1, by omega, by omega, hS.to _ ⟨rfl, rfl, rfl, rfl, rfl, trivial⟩, hM⟩
  · obtain rfl : k = m := by have := of_decide_eq_false hc; omega
    refine c_exit <| k_thenx <| k_thenx <| k_inx <| k_seq <| c_seq <| c_region ?_
    refine vg hS <| vm rfl <| vv (r_notW · rfl) <| va rfl ?_; clear hS; intro a hS
    refine s_nil <| k_seq <| c_ret ?_
    exact k_res1 hS rfl (RV.tmp rfl) ⟨rfl, hM.done ⟨hb3, trivial⟩⟩
end Go.Proofs.YtgmieahcpkcabaaGreat
