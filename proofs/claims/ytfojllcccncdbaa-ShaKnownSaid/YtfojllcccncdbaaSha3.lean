/- The walks through package sha512. Printed by a program of mine (walk.py). -/
import Derived.Test.YtfojllcccncdbaaPress3
import Derived.Test.YtfojllcccncdbaaSha2
import Derived.Test.YtfojllcccncdbaaSymStore
import Derived.Test.YtfojllcccncdbaaSymCmp
namespace Go.Proofs.Ytfojllcccncdbaa
open Go Go.Sym
attribute [local irreducible] sstep wordsTo HS.puts be flatB

theorem zero56 : Zero Try.prog 56 (hC false (fun _ => 0) 0 (fun _ => 0)) := fun _ => by kernel_rfl
theorem hbld_new (s : Nat → BitVec 64) (w : World) : (Instr.build 56 ([(0, .bool true), (1, .agg (cU 8 s).toArray)] : List (Nat × Value)).toArray).run Try.prog w = .ok (.agg (hC true s 0 (fun _ => 0)).toArray) w := by kernel_rfl
theorem sz3 : (Try.prog.info? 3).map (·.size) = some 1 := by kernel_rfl
theorem sz4 : (Try.prog.info? 4).map (·.size) = some 1 := by kernel_rfl
theorem sz39 : (Try.prog.info? 39).map (·.size) = some 64 := by kernel_rfl
theorem sz54 : (Try.prog.info? 54).map (·.size) = some 128 := by kernel_rfl
theorem sz56 : (Try.prog.info? 56).map (·.size) = some 138 := by kernel_rfl
theorem zero39 : Zero Try.prog 39 (cB 64 (fun _ => 0)) := fun _ => by kernel_rfl
theorem row22_1 (x0 : BitVec 8) : BuildsRow Try.prog 22 5 1 [(0, B x0)] [B x0] := fun _ => by kernel_rfl
theorem elem22 : ElemOk Try.prog 22 5 (B 0) 1 := ⟨Try.underlying22, by kernel_rfl, by decide, by decide⟩
theorem made22_200 : Made Try.prog 22 5 200 (cB 200 (fun _ => 0)) := fun _ => by kernel_rfl

set_option maxRecDepth 100000 in
theorem begin_ok  (w0 : World) : Pure Try.prog 51 #[] w0 (.agg (cU 8 iv).toArray) := by
  refine ⟨by kernel_rfl, ?_⟩
  refine calls_sym Try.func51 rfl (by kernel_rfl) ?_
  intro a hS
  have hM : Mem w0 w0 [] := Mem.refl w0
  refine c_seq ?_
  refine c_region ?_
  refine s_alloc hS hM (by decide) zero36 ?_; clear hS hM; intro a b0 w hb0 hS hM
  refine s_nil ?_
  refine k_seq ?_
  refine c_seq ?_
  refine c_region ?_
  refine s_val hS (by decide) rfl rfl (r_build hS (vs := [(0, U 7640891576956012808#64), (1, U 13503953896175478587#64), (2, U 4354685564936845355#64), (3, U 11912009170470909681#64), (4, U 5840696475078001361#64), (5, U 11170449401992604703#64), (6, U 2270897969802886507#64), (7, U 6620516959819538809#64)]) rfl (build36 _ _ _ _ _ _ _ _)) ?_; clear hS; intro a hS
  refine s_storeAll hS hM rfl rfl (j := 0) rfl sz36 cells_len cells_len cU_one ?_; clear hS hM; intro a w hS hM
  refine s_nil ?_
  refine k_seq ?_
  refine c_ret ?_
  exact k_res1 hS rfl (RV.row rfl (hM.have_ _ (mem_of_get (j := 0) rfl)) Try.underlying36 rfl (by rw [sz36]; exact congrArg some cells_len.symm)) ⟨rfl, hM.done ⟨hb0, trivial⟩⟩

set_option maxRecDepth 100000 in
theorem new_ok (w0 : World) : NewObj Try.prog 30 #[] w0 56 (hH true HS.zero) := by
  refine ⟨by kernel_rfl, ?_⟩
  refine calls_sym Try.func30 rfl (by kernel_rfl) ?_
  intro a hS
  have hM : Mem w0 w0 [] := Mem.refl w0
  refine c_seq ?_
  refine c_region ?_
  refine s_val hS (by decide) rfl rfl (r_assign hS rfl) ?_; clear hS; intro a hS
  refine s_nil ?_
  refine k_seq ?_
  refine c_seq ?_
  refine c_region ?_
  refine s_pure hS hM (by decide) rfl (begin_ok _) ?_; clear hS hM; intro a w hS hM
  refine s_val hS (by decide) rfl rfl (r_build hS rfl (hbld_new _)) ?_; clear hS; intro a hS
  refine s_box hS hM (by decide) rfl rfl ?_; clear hS hM; intro a b3 w hb3 hS hM
  refine s_val hS (by decide) rfl rfl (r_assign hS rfl) ?_; clear hS; intro a hS
  refine s_nil ?_
  refine k_seq ?_
  refine c_ret ?_
  exact k_res1 hS rfl (RV.tmp rfl) (newobj_end hb3 hM)

set_option maxRecDepth 100000 in
theorem own_ok (w0 : World) (b : Nat) (bg : Bool) (h : HS) (hb : w0.heap[b]? = some (.cells (hH bg h).toArray 56 (0, 0))) : Pure Try.prog 52 #[ptr b 0] w0 (.agg (hH true (asH bg h)).toArray) := by
  refine ⟨by kernel_rfl, ?_⟩
  refine calls_sym Try.func52 rfl (by kernel_rfl) ?_
  intro a hS
  have hM : Mem w0 w0 [⟨b, 56, hH bg h⟩] := Mem.start hb
  refine c_seq ?_
  refine c_region ?_
  refine s_alloc hS hM (by decide) zero56 ?_; clear hS hM; intro a b2 w hb2 hS hM
  refine s_nil ?_
  refine k_seq ?_
  refine c_seq ?_
  refine c_seq ?_
  cases bg
  · skip
    refine c_region ?_
    refine s_val hS (by decide) rfl rfl (r_move hS rfl) ?_; clear hS; intro a hS
    refine s_val hS (by decide) rfl rfl (r_ptrNil hS rfl rfl Try.underlying47) ?_; clear hS; intro a hS
    refine s_val hS (by decide) rfl rfl (r_move hS rfl) ?_; clear hS; intro a hS
    refine s_valg hS (by decide) rfl rfl rfl rfl rfl (r_move hS rfl) ?_; clear hS; intro a hS
    refine s_valg hS (by decide) rfl rfl rfl rfl rfl (r_nilCheck hS rfl) ?_; clear hS; intro a hS
    refine s_valg hS (by decide) rfl rfl rfl rfl rfl (r_field0 hS rfl Try.underlying56 rfl (s := 0) sz4 (k := 0) rfl) ?_; clear hS; intro a hS
    refine s_valg hS (by decide) rfl rfl rfl rfl rfl (r_load hS hM rfl (j := 1) rfl Try.underlying4 rfl (hC_bg _ _ _ _)) ?_; clear hS; intro a hS
    refine s_valg hS (by decide) rfl rfl rfl rfl rfl (r_not hS rfl) ?_; clear hS; intro a hS
    refine s_val hS (by decide) rfl rfl (r_pick hS rfl rfl) ?_; clear hS; intro a hS
    refine s_nil ?_
    refine k_seq ?_
    refine c_true hS rfl rfl ?_
    refine c_seq ?_
    refine c_region ?_
    refine s_newobj hS hM (by decide) rfl (new_ok _) ?_; clear hS hM; intro a w b12 hb12 hS hM
    refine s_val hS (by decide) rfl rfl (r_nilCheck hS rfl) ?_; clear hS; intro a hS
    refine s_val hS (by decide) rfl rfl (r_loadAll hS hM rfl (j := 0) rfl Try.underlying56 rfl sz56 (hC_len _ _ _ _)) ?_; clear hS; intro a hS
    refine s_storeAll hS hM rfl rfl (j := 1) rfl sz56 (hC_len _ _ _ _) (hC_len _ _ _ _) (hC_one _ _ _ _) ?_; clear hS hM; intro a w hS hM
    refine s_nil ?_
    refine k_seq ?_
    refine c_ret ?_
    refine k_thenr ?_
    exact k_res1 hS rfl (RV.row rfl (hM.have_ _ (mem_of_get (j := 1) rfl)) Try.underlying56 rfl (by rw [sz56]; exact congrArg some (hC_len _ _ _ _).symm)) ⟨rfl, Mem.same hb (by first | exact hM.drop hb2 | exact (hM.drop hb12).drop hb2)⟩
  · skip
    refine c_region ?_
    refine s_val hS (by decide) rfl rfl (r_move hS rfl) ?_; clear hS; intro a hS
    refine s_val hS (by decide) rfl rfl (r_ptrNil hS rfl rfl Try.underlying47) ?_; clear hS; intro a hS
    refine s_val hS (by decide) rfl rfl (r_move hS rfl) ?_; clear hS; intro a hS
    refine s_valg hS (by decide) rfl rfl rfl rfl rfl (r_move hS rfl) ?_; clear hS; intro a hS
    refine s_valg hS (by decide) rfl rfl rfl rfl rfl (r_nilCheck hS rfl) ?_; clear hS; intro a hS
    refine s_valg hS (by decide) rfl rfl rfl rfl rfl (r_field0 hS rfl Try.underlying56 rfl (s := 0) sz4 (k := 0) rfl) ?_; clear hS; intro a hS
    refine s_valg hS (by decide) rfl rfl rfl rfl rfl (r_load hS hM rfl (j := 1) rfl Try.underlying4 rfl (hC_bg _ _ _ _)) ?_; clear hS; intro a hS
    refine s_valg hS (by decide) rfl rfl rfl rfl rfl (r_not hS rfl) ?_; clear hS; intro a hS
    refine s_val hS (by decide) rfl rfl (r_pick hS rfl rfl) ?_; clear hS; intro a hS
    refine s_nil ?_
    refine k_seq ?_
    refine c_false hS rfl rfl ?_
    refine c_skip ?_
    refine k_seq ?_
    refine c_seq ?_
    refine c_region ?_
    refine s_val hS (by decide) rfl rfl (r_move hS rfl) ?_; clear hS; intro a hS
    refine s_val hS (by decide) rfl rfl (r_nilCheck hS rfl) ?_; clear hS; intro a hS
    refine s_val hS (by decide) rfl rfl (r_loadAll hS hM rfl (j := 1) rfl Try.underlying56 rfl sz56 (hC_len _ _ _ _)) ?_; clear hS; intro a hS
    refine s_storeAll hS hM rfl rfl (j := 0) rfl sz56 (hC_len _ _ _ _) (hC_len _ _ _ _) (hC_one _ _ _ _) ?_; clear hS hM; intro a w hS hM
    refine s_nil ?_
    refine k_seq ?_
    refine c_ret ?_
    exact k_res1 hS rfl (RV.row rfl (hM.have_ _ (mem_of_get (j := 0) rfl)) Try.underlying56 rfl (by rw [sz56]; exact congrArg some (hC_len _ _ _ _).symm)) ⟨rfl, Mem.same hb (by first | exact hM.drop hb2 | exact (hM.drop hb12).drop hb2)⟩

set_option maxRecDepth 100000 in
theorem ownnil_ok  (w0 : World) : Pure Try.prog 52 #[.pointer none] w0 (.agg (hH true HS.zero).toArray) := by
  refine ⟨by kernel_rfl, ?_⟩
  refine calls_sym Try.func52 rfl (by kernel_rfl) ?_
  intro a hS
  have hM : Mem w0 w0 [] := Mem.refl w0
  refine c_seq ?_
  refine c_region ?_
  refine s_alloc hS hM (by decide) zero56 ?_; clear hS hM; intro a b2 w hb2 hS hM
  refine s_nil ?_
  refine k_seq ?_
  refine c_seq ?_
  refine c_seq ?_
  refine c_region ?_
  refine s_val hS (by decide) rfl rfl (r_move hS rfl) ?_; clear hS; intro a hS
  refine s_val hS (by decide) rfl rfl (r_nilNil hS rfl rfl Try.underlying47) ?_; clear hS; intro a hS
  refine s_val hS (by decide) rfl rfl (r_move hS rfl) ?_; clear hS; intro a hS
  refine s_skip hS (by decide) rfl rfl rfl rfl rfl ?_; clear hS; intro a hS
  refine s_skip hS (by decide) rfl rfl rfl rfl rfl ?_; clear hS; intro a hS
  refine s_skip hS (by decide) rfl rfl rfl rfl rfl ?_; clear hS; intro a hS
  refine s_skip hS (by decide) rfl rfl rfl rfl rfl ?_; clear hS; intro a hS
  refine s_skip hS (by decide) rfl rfl rfl rfl rfl ?_; clear hS; intro a hS
  refine s_val hS (by decide) rfl rfl (r_pick hS rfl rfl) ?_; clear hS; intro a hS
  refine s_nil ?_
  refine k_seq ?_
  refine c_true hS rfl rfl ?_
  refine c_seq ?_
  refine c_region ?_
  refine s_newobj hS hM (by decide) rfl (new_ok _) ?_; clear hS hM; intro a w b12 hb12 hS hM
  refine s_val hS (by decide) rfl rfl (r_nilCheck hS rfl) ?_; clear hS; intro a hS
  refine s_val hS (by decide) rfl rfl (r_loadAll hS hM rfl (j := 0) rfl Try.underlying56 rfl sz56 (hC_len _ _ _ _)) ?_; clear hS; intro a hS
  refine s_storeAll hS hM rfl rfl (j := 1) rfl sz56 (hC_len _ _ _ _) (hC_len _ _ _ _) (hC_one _ _ _ _) ?_; clear hS hM; intro a w hS hM
  refine s_nil ?_
  refine k_seq ?_
  refine c_ret ?_
  refine k_thenr ?_
  exact k_res1 hS rfl (RV.row rfl (hM.have_ _ (mem_of_get (j := 1) rfl)) Try.underlying56 rfl (by rw [sz56]; exact congrArg some (hC_len _ _ _ _).symm)) ⟨rfl, hM.done ⟨hb12, hb2, trivial⟩⟩

set_option maxRecDepth 100000 in
theorem count_ok (w0 : World) (b : Nat) (bg : Bool) (h : HS) (hb : w0.heap[b]? = some (.cells (hH bg h).toArray 56 (0, 0))) : Pure Try.prog 33 #[ptr b 0] w0 (N h.n) := by
  refine ⟨by kernel_rfl, ?_⟩
  refine calls_sym Try.func33 rfl (by kernel_rfl) ?_
  intro a hS
  have hM : Mem w0 w0 [⟨b, 56, hH bg h⟩] := Mem.start hb
  refine c_seq ?_
  refine c_region ?_
  refine s_val hS (by decide) rfl rfl (r_assign hS (show ev _ _ = some (N 0) from rfl)) ?_; clear hS; intro a hS
  refine s_nil ?_
  refine k_seq ?_
  refine c_seq ?_
  refine c_seq ?_
  refine c_region ?_
  refine s_val hS (by decide) rfl rfl (r_move hS rfl) ?_; clear hS; intro a hS
  refine s_val hS (by decide) rfl rfl (r_ptrNil hS rfl rfl Try.underlying47) ?_; clear hS; intro a hS
  refine s_nil ?_
  refine k_seq ?_
  refine c_false hS rfl rfl ?_
  refine c_skip ?_
  refine k_seq ?_
  refine c_seq ?_
  refine c_region ?_
  refine s_val hS (by decide) rfl rfl (r_move hS rfl) ?_; clear hS; intro a hS
  refine s_val hS (by decide) rfl rfl (r_nilCheck hS rfl) ?_; clear hS; intro a hS
  refine s_val hS (by decide) rfl rfl (r_field0 hS rfl Try.underlying56 rfl (s := 0) sz3 (k := 9) rfl) ?_; clear hS; intro a hS
  refine s_val hS (by decide) rfl rfl (r_load hS hM rfl (j := 0) rfl Try.underlying3 rfl (hC_n _ _ _ _)) ?_; clear hS; intro a hS
  refine s_val hS (by decide) rfl rfl (r_assign hS rfl) ?_; clear hS; intro a hS
  refine s_nil ?_
  refine k_seq ?_
  refine c_ret ?_
  exact k_res1 hS rfl (RV.tmp rfl) ⟨rfl, Mem.same hb hM⟩

set_option maxRecDepth 100000 in
theorem countnil_ok  (w0 : World) : Pure Try.prog 33 #[.pointer none] w0 (N 0) := by
  refine ⟨by kernel_rfl, ?_⟩
  refine calls_sym Try.func33 rfl (by kernel_rfl) ?_
  intro a hS
  have hM : Mem w0 w0 [] := Mem.refl w0
  refine c_seq ?_
  refine c_region ?_
  refine s_val hS (by decide) rfl rfl (r_assign hS (show ev _ _ = some (N 0) from rfl)) ?_; clear hS; intro a hS
  refine s_nil ?_
  refine k_seq ?_
  refine c_seq ?_
  refine c_seq ?_
  refine c_region ?_
  refine s_val hS (by decide) rfl rfl (r_move hS rfl) ?_; clear hS; intro a hS
  refine s_val hS (by decide) rfl rfl (r_nilNil hS rfl rfl Try.underlying47) ?_; clear hS; intro a hS
  refine s_nil ?_
  refine k_seq ?_
  refine c_true hS rfl rfl ?_
  refine c_seq ?_
  refine c_region ?_
  refine s_val hS (by decide) rfl rfl (r_assign hS (show ev _ _ = some (N 0) from rfl)) ?_; clear hS; intro a hS
  refine s_nil ?_
  refine k_seq ?_
  refine c_ret ?_
  refine k_thenr ?_
  exact k_res1 hS rfl (RV.tmp rfl) ⟨rfl, hM.done trivial⟩

set_option maxRecDepth 100000 in
theorem put_ok (w0 : World) (b : Nat) (bg : Bool) (h : HS) {v : Value} {m : Nat} {f : Nat → BitVec 8} (hb : w0.heap[b]? = some (.cells (hH bg h).toArray 56 (0, 0))) (hr : Rd w0 v m (fun i => B (f i))) (hne : 0 < m → rb v ≠ b) (hn : h.n + m < 4611686018427387904) : Wrote Try.prog 53 #[ptr b 0, v] w0 b 56 (hH bg (h.puts f m)) (.tuple #[]) := by
  refine ⟨by kernel_rfl, ?_⟩
  refine calls_sym Try.func53 rfl (by kernel_rfl) ?_
  intro a hS
  have hM : Mem w0 w0 [⟨b, 56, hH bg h⟩] := Mem.start hb
  refine c_seq ?_
  refine c_region ?_
  refine s_val hS (by decide) rfl rfl (r_move hS rfl) ?_; clear hS; intro a hS
  refine s_val hS (by decide) rfl rfl (r_lenR hS rfl (hr.keep hM (ne_one hne)) Try.underlying22) ?_; clear hS; intro a hS
  refine s_val hS (by decide) rfl rfl (r_move hS (show ev _ _ = some (N 0) from rfl)) ?_; clear hS; intro a hS
  refine s_nil ?_
  refine k_seq ?_
  refine c_block ?_
  refine c_loop (σ := Nat) (fun k a w => (k ≤ m) ∧ Slots a 55 (env [(0, ptr b 0), (8, v), (9, N m), (10, N k)]) ∧ Mem w0 w ([⟨b, 56, hC bg (h.puts f k).s (h.puts f k).n (h.puts f k).w⟩])) (fun k => m - k) (0) ⟨by omega, hS.to _ ⟨rfl, rfl, rfl, rfl, trivial⟩, (hM.congr (by unfold hH HS.puts; rfl))⟩ ?_
  clear hS hM; rintro k a w ⟨hk, hS, hM⟩
  have hpn := HS.puts_n h f k
  refine c_seq ?_
  refine c_region ?_
  refine s_val hS (by decide) rfl rfl (r_bv hS rfl rfl gN (b_lssN _ _ _)) ?_; clear hS; intro a hS
  refine s_nil ?_
  refine k_seq ?_
  refine c_seq ?_
  refine c_cond hS rfl (fun hc => ?_) (fun hc => ?_)
  · have hk1 := of_decide_eq_true hc
    refine c_skip ?_
    refine k_seq ?_
    refine c_seq ?_
    refine c_block ?_
    refine c_seq ?_
    refine c_region ?_
    refine s_val hS (by decide) rfl rfl (r_indexR hS rfl (hr.keep hM (ne_one hne)) rfl Try.underlying22 sz5 (by omega)) ?_; clear hS; intro a hS
    refine s_val hS (by decide) rfl rfl (r_loadR hS rfl (hr.keep hM (ne_one hne)) (by omega) Try.underlying5 rfl) ?_; clear hS; intro a hS
    refine s_val hS (by decide) rfl rfl (r_assign hS rfl) ?_; clear hS; intro a hS
    refine s_nil ?_
    refine k_seq ?_
    refine c_seq ?_
    refine c_plan 10 (fun w => Mem w0 w _) [(0, _), (5, _), (8, _), (9, _), (10, _), (11, _), (12, _), (13, _)] (by kernel_rfl) (by kernel_rfl) hS ⟨rfl, rfl, rfl, rfl, rfl, rfl, rfl, rfl, trivial⟩ (hM.drawn _) ?_; clear hS hM
    refine p_step rfl (fun a w hS hM => y_val rfl (r_move hS rfl)) ?_
    refine p_step rfl (fun a w hS hM => y_val rfl (r_move hS rfl)) ?_
    refine p_step rfl (fun a w hS hM => y_val rfl (r_nilCheck hS rfl)) ?_
    refine p_step rfl (fun a w hS hM => y_val rfl (r_field0 hS rfl Try.underlying56 rfl (s := 0) sz3 (k := 9) rfl)) ?_
    refine p_step rfl (fun a w hS hM => y_val rfl (r_load hS hM rfl (j := 0) rfl Try.underlying3 rfl (hC_n _ _ _ _))) ?_
    refine p_step rfl (fun a w hS hM => y_val rfl (r_bv hS rfl (show ev _ _ = some (N 128) from rfl) gN (b_remN _ _ _ (by omega)))) ?_
    refine p_step rfl (fun a w hS hM => y_val rfl (r_move hS rfl)) ?_
    refine p_step rfl (fun a w hS hM => y_val rfl (r_nilCheck hS rfl)) ?_
    refine p_step rfl (fun a w hS hM => y_val rfl (r_field0 hS rfl Try.underlying56 rfl (s := 127) sz54 (k := 10) rfl)) ?_
    refine p_step rfl (fun a w hS hM => y_val rfl (r_index1 hS rfl rfl Try.underlying54 sz5 (by omega))) ?_
    refine p_nil rfl ?_; intro a w hS hM
    refine s_store hS hM rfl rfl (j := 0) rfl sz5 rfl (hC_w _ _ _ _ (Nat.mod_lt _ (by decide))) ?_; clear hS hM; intro a w hS hM
    replace hM : Mem w0 w [⟨b, 56, (hC bg (h.puts f k).s (h.puts f k).n (h.puts f k).w).set (10 + (h.puts f k).n % 128) (B (f k))⟩] := hM
    rw [hC_set_w _ _ _ _ _ (Nat.mod_lt _ (by decide))] at hM
    refine s_nil ?_
    refine k_seq ?_
    refine c_seq ?_
    refine c_region ?_
    refine s_val hS (by decide) rfl rfl (r_move hS rfl) ?_; clear hS; intro a hS
    refine s_val hS (by decide) rfl rfl (r_nilCheck hS rfl) ?_; clear hS; intro a hS
    refine s_val hS (by decide) rfl rfl (r_field0 hS rfl Try.underlying56 rfl (s := 0) sz3 (k := 9) rfl) ?_; clear hS; intro a hS
    refine s_val hS (by decide) rfl rfl (r_load hS hM rfl (j := 0) rfl Try.underlying3 rfl (hC_n _ _ _ _)) ?_; clear hS; intro a hS
    refine s_val hS (by decide) rfl rfl (r_bv hS rfl (show ev _ _ = some (N 1) from rfl) gN (b_addN _ _ _ (by omega))) ?_; clear hS; intro a hS
    refine s_val hS (by decide) rfl rfl (r_nilCheck hS rfl) ?_; clear hS; intro a hS
    refine s_val hS (by decide) rfl rfl (r_field0 hS rfl Try.underlying56 rfl (s := 0) sz3 (k := 9) rfl) ?_; clear hS; intro a hS
    refine s_store hS hM rfl rfl (j := 0) rfl sz3 rfl (hC_n _ _ _ _) ?_; clear hS hM; intro a w hS hM
    replace hM : Mem w0 w [⟨b, 56, (hC bg (h.puts f k).s (h.puts f k).n (upd (h.puts f k).w ((h.puts f k).n % 128) (f k))).set 9 (N ((h.puts f k).n + 1))⟩] := hM
    rw [hC_set_n] at hM
    refine s_nil ?_
    refine k_seq ?_
    refine c_seq ?_
    refine c_region ?_
    refine s_val hS (by decide) rfl rfl (r_move hS rfl) ?_; clear hS; intro a hS
    refine s_val hS (by decide) rfl rfl (r_nilCheck hS rfl) ?_; clear hS; intro a hS
    refine s_val hS (by decide) rfl rfl (r_field0 hS rfl Try.underlying56 rfl (s := 0) sz3 (k := 9) rfl) ?_; clear hS; intro a hS
    refine s_val hS (by decide) rfl rfl (r_load hS hM rfl (j := 0) rfl Try.underlying3 rfl (hC_n _ _ _ _)) ?_; clear hS; intro a hS
    refine s_val hS (by decide) rfl rfl (r_bv hS rfl (show ev _ _ = some (N 128) from rfl) gN (b_remN _ _ _ (by omega))) ?_; clear hS; intro a hS
    refine s_val hS (by decide) rfl rfl (r_bv hS rfl (show ev _ _ = some (N 0) from rfl) gN (b_eqlN _ _ _)) ?_; clear hS; intro a hS
    refine s_nil ?_
    refine k_seq ?_
    refine c_cond hS rfl (fun hc => ?_) (fun hc => ?_)
    · have hk2 := of_decide_eq_true hc
      refine c_seq ?_
      refine c_region ?_
      refine s_val hS (by decide) rfl rfl (r_move hS rfl) ?_; clear hS; intro a hS
      refine s_val hS (by decide) rfl rfl (r_nilCheck hS rfl) ?_; clear hS; intro a hS
      refine s_val hS (by decide) rfl rfl (r_field0 hS rfl Try.underlying56 rfl (s := 127) sz54 (k := 10) rfl) ?_; clear hS; intro a hS
      refine s_val hS (by decide) rfl rfl (r_sliceA0 hS rfl Try.underlying54 sz5) ?_; clear hS; intro a hS
      refine s_pure hS hM (by decide) rfl (words_rd _ (hC_rd hM (j := 0) rfl (by decide))) ?_; clear hS hM; intro a w hS hM
      refine s_val hS (by decide) rfl rfl (r_move hS rfl) ?_; clear hS; intro a hS
      refine s_val hS (by decide) rfl rfl (r_extract hS rfl rfl) ?_; clear hS; intro a hS
      refine s_val hS (by decide) rfl rfl (r_extract hS rfl rfl) ?_; clear hS; intro a hS
      refine s_alloc hS hM (by decide) zero25 ?_; clear hS hM; intro a b6 w hb6 hS hM
      refine s_storeAll hS hM rfl rfl (j := 0) rfl sz25 cells_len cells_len cU_one ?_; clear hS hM; intro a w hS hM
      refine s_val hS (by decide) rfl rfl (r_assign hS rfl) ?_; clear hS; intro a hS
      refine s_nil ?_
      refine k_seq ?_
      refine c_plan 9 (fun w => Mem w0 w _) [(0, _), (6, _), (5, _), (8, _), (9, _), (10, _), (11, _), (12, _), (13, _), (14, _), (15, _), (16, _), (17, _), (18, _), (19, _), (20, _), (21, _), (22, _), (23, _), (24, _), (25, _), (26, _), (27, _), (28, _), (29, _), (30, _), (31, _), (32, _), (33, _), (34, _), (35, _), (36, _), (37, _), (38, _), (39, _), (40, _), (41, _), (42, _), (43, _), (44, _)] (by kernel_rfl) (by kernel_rfl) hS ⟨rfl, rfl, rfl, rfl, rfl, rfl, rfl, rfl, rfl, rfl, rfl, rfl, rfl, rfl, rfl, rfl, rfl, rfl, rfl, rfl, rfl, rfl, rfl, rfl, rfl, rfl, rfl, rfl, rfl, rfl, rfl, rfl, rfl, rfl, rfl, rfl, rfl, rfl, rfl, rfl, trivial⟩ (hM.drawn _) ?_; clear hS hM
      refine p_step rfl (fun a w hS hM => y_val rfl (r_move hS rfl)) ?_
      refine p_step rfl (fun a w hS hM => y_val rfl (r_move hS rfl)) ?_
      refine p_step rfl (fun a w hS hM => y_val rfl (r_nilCheck hS rfl)) ?_
      refine p_step rfl (fun a w hS hM => y_val rfl (r_field0 hS rfl Try.underlying56 rfl (s := 7) sz36 (k := 1) rfl)) ?_
      refine p_step rfl (fun a w hS hM => y_val rfl (r_loadSub hS hM rfl (j := 1) rfl (hC_split _ _ _ _) rfl Try.underlying36 rfl (by rw [cells_len]; exact sz36))) ?_
      refine p_step rfl (fun a w hS hM => y_val rfl (r_loadAll hS hM rfl (j := 0) rfl Try.underlying25 rfl sz25 cells_len)) ?_
      refine p_step rfl (fun a w hS hM => y_call (by kernel_rfl) hS rfl ((step_ok _ _ _).mem hM)) ?_
      refine p_step rfl (fun a w hS hM => y_val rfl (r_nilCheck hS rfl)) ?_
      refine p_step rfl (fun a w hS hM => y_val rfl (r_field0 hS rfl Try.underlying56 rfl (s := 7) sz36 (k := 1) rfl)) ?_
      refine p_nil rfl ?_; intro a w hS hM
      refine s_storeRow hS hM rfl rfl (j := 1) rfl (by rw [cells_len]; exact sz36) cU_one (by rw [hC_len, cells_len]; decide) ?_; clear hS hM; intro a w hS hM
      rw [hC_splice_s] at hM
      refine s_nil ?_
      refine k_in ?_
      refine k_seq ?_
      refine c_region ?_
      refine s_val hS (by decide) rfl rfl (r_bv hS rfl (show ev _ _ = some (N 1) from rfl) gN (b_addN _ _ _ (by omega))) ?_; clear hS; intro a hS
      refine s_val hS (by decide) rfl rfl (r_move hS rfl) ?_; clear hS; intro a hS
      refine s_nil ?_
      refine k_then ?_
      refine ⟨k + 1, by omega, by omega, hS.to _ ⟨rfl, rfl, rfl, rfl, trivial⟩, (by first | exact (hM.drop hb6).congr (by rw [show h.puts f (k + 1) = (h.puts f k).put (f k) by rw [HS.puts], HS.put_full hk2, ← wd_full]; try rfl) | exact hM.congr (by rw [show h.puts f (k + 1) = (h.puts f k).put (f k) by rw [HS.puts], HS.put_more hk2]; try rfl))⟩
    · have hk2 := of_decide_eq_false hc
      refine c_skip ?_
      refine k_in ?_
      refine k_seq ?_
      refine c_region ?_
      refine s_val hS (by decide) rfl rfl (r_bv hS rfl (show ev _ _ = some (N 1) from rfl) gN (b_addN _ _ _ (by omega))) ?_; clear hS; intro a hS
      refine s_val hS (by decide) rfl rfl (r_move hS rfl) ?_; clear hS; intro a hS
      refine s_nil ?_
      refine k_then ?_
      refine ⟨k + 1, by omega, by omega, hS.to _ ⟨rfl, rfl, rfl, rfl, trivial⟩, (by first | exact (hM.drop hb6).congr (by rw [show h.puts f (k + 1) = (h.puts f k).put (f k) by rw [HS.puts], HS.put_full hk2, ← wd_full]; try rfl) | exact hM.congr (by rw [show h.puts f (k + 1) = (h.puts f k).put (f k) by rw [HS.puts], HS.put_more hk2]; try rfl))⟩
  · obtain rfl : k = m := by have := of_decide_eq_false hc; omega
    refine c_exit ?_
    refine k_thenx ?_
    refine k_thenx ?_
    refine k_inx ?_
    exact k_res0n hS rfl ⟨rfl, hM⟩

set_option maxRecDepth 100000 in
theorem write_ok (w0 : World) (b : Nat) (bg : Bool) (h : HS) {v : Value} {m : Nat} {f : Nat → BitVec 8} (hb : w0.heap[b]? = some (.cells (hH bg h).toArray 56 (0, 0))) (hr : Rd w0 v m (fun i => B (f i))) (hne : 0 < m → rb v ≠ b) (hn : (asH bg h).n + m < 4611686018427387904) : Wrote Try.prog 34 #[ptr b 0, v] w0 b 56 (hH true ((asH bg h).puts f m)) (.tuple #[]) := by
  refine ⟨by kernel_rfl, ?_⟩
  refine calls_sym Try.func34 rfl (by kernel_rfl) ?_
  intro a hS
  have hM : Mem w0 w0 [⟨b, 56, hH bg h⟩] := Mem.start hb
  refine c_seq ?_
  refine c_seq ?_
  refine c_region ?_
  refine s_val hS (by decide) rfl rfl (r_move hS rfl) ?_; clear hS; intro a hS
  refine s_val hS (by decide) rfl rfl (r_ptrNil hS rfl rfl Try.underlying47) ?_; clear hS; intro a hS
  refine s_nil ?_
  refine k_seq ?_
  refine c_false hS rfl rfl ?_
  refine c_skip ?_
  refine k_seq ?_
  refine c_seq ?_
  refine c_region ?_
  refine s_val hS (by decide) rfl rfl (r_move hS rfl) ?_; clear hS; intro a hS
  refine s_val hS (by decide) rfl rfl (r_move hS rfl) ?_; clear hS; intro a hS
  refine s_pure hS hM (by decide) rfl (own_ok _ _ _ _ (hM.block (j := 0) rfl)) ?_; clear hS hM; intro a w hS hM
  refine s_val hS (by decide) rfl rfl (r_nilCheck hS rfl) ?_; clear hS; intro a hS
  refine s_storeAll hS hM rfl rfl (j := 0) rfl sz56 (hC_len _ _ _ _) (hC_len _ _ _ _) (hC_one _ _ _ _) ?_; clear hS hM; intro a w hS hM
  refine s_nil ?_
  refine k_seq ?_
  refine c_region ?_
  refine s_val hS (by decide) rfl rfl (r_move hS rfl) ?_; clear hS; intro a hS
  refine s_val hS (by decide) rfl rfl (r_move hS rfl) ?_; clear hS; intro a hS
  refine s_wrote hS hM (by decide) rfl (j := 0) rfl (put_ok _ _ _ _ (hM.block (j := 0) rfl) (hr.keep hM (ne_one hne)) hne (by omega)) ?_; clear hS hM; intro a w hS hM
  refine s_nil ?_
  exact k_res0n hS rfl ⟨rfl, hM⟩

set_option maxRecDepth 100000 in
theorem writenil_ok (v : Value) (w0 : World) : Pure Try.prog 34 #[.pointer none, v] w0 (.tuple #[]) := by
  refine ⟨by kernel_rfl, ?_⟩
  refine calls_sym Try.func34 rfl (by kernel_rfl) ?_
  intro a hS
  have hM : Mem w0 w0 [] := Mem.refl w0
  refine c_seq ?_
  refine c_seq ?_
  refine c_region ?_
  refine s_val hS (by decide) rfl rfl (r_move hS rfl) ?_; clear hS; intro a hS
  refine s_val hS (by decide) rfl rfl (r_nilNil hS rfl rfl Try.underlying47) ?_; clear hS; intro a hS
  refine s_nil ?_
  refine k_seq ?_
  refine c_true hS rfl rfl ?_
  refine c_ret ?_
  refine k_thenr ?_
  exact k_res0 hS rfl ⟨rfl, hM.done trivial⟩

set_option maxRecDepth 100000 in
theorem eight_ok (w0 : World) (x : BitVec 64) : Fresh Try.prog 54 #[U x] w0 5 (cB 8 (be x)) := by
  refine ⟨by kernel_rfl, ?_⟩
  refine calls_sym Try.func54 rfl (by kernel_rfl) ?_
  intro a hS
  have hM : Mem w0 w0 [] := Mem.refl w0
  refine c_seq ?_
  refine c_region ?_
  refine s_val hS (by decide) rfl rfl (r_assign hS rfl) ?_; clear hS; intro a hS
  refine s_nil ?_
  refine k_seq ?_
  refine c_seq ?_
  refine c_region ?_
  refine s_val hS (by decide) rfl rfl (r_assign hS rfl) ?_; clear hS; intro a hS
  refine s_nil ?_
  refine k_seq ?_
  refine c_seq ?_
  refine c_seq ?_
  refine c_region ?_
  refine s_val hS (by decide) rfl rfl (r_assign hS (show ev _ _ = some (N 56) from rfl)) ?_; clear hS; intro a hS
  refine s_nil ?_
  refine k_seq ?_
  refine c_block ?_
  refine c_loop (σ := Nat × Value × List Blk) (fun s a w => (s.1 ≤ 8 ∧ Own w0.heap.size 5 s.2.1 (cB s.1 (be x)) s.2.2) ∧ Slots a 17 (env [(0, U x), (3, s.2.1), (4, .int .i64 (56 - 8 * (s.1 : Int)))]) ∧ Mem w0 w (s.2.2)) (fun s => 8 - s.1) (0, .slice none 0 0, []) ⟨⟨by decide, Own.nil⟩, hS.to _ ⟨rfl, rfl, rfl, trivial⟩, hM⟩ ?_
  clear hS hM; rintro ⟨j, v, Lx⟩ a w ⟨hk, hS, hM⟩
  obtain ⟨hk, ho⟩ := hk; dsimp only at hk ho hS hM
  refine c_seq ?_
  refine c_seq ?_
  refine c_region ?_
  refine s_val hS (by decide) rfl rfl (r_move hS rfl) ?_; clear hS; intro a hS
  refine s_val hS (by decide) rfl rfl (r_bv hS rfl (show ev _ _ = some (.int .i64 (0)) from rfl) gZ (b_geqZ _ _ _)) ?_; clear hS; intro a hS
  refine s_nil ?_
  refine k_seq ?_
  refine c_cond hS rfl (fun hc => ?_) (fun hc => ?_)
  · have hk1 := of_decide_eq_true hc; have hk2 : j ≤ 7 := (by omega); rw [show (56 : Int) - 8 * (j : Int) = ((56 - 8 * j : Nat) : Int) by omega] at hS
    refine c_skip ?_
    refine k_seq ?_
    refine c_seq ?_
    refine c_block ?_
    refine c_region ?_
    refine s_val hS (by decide) rfl rfl (r_move hS rfl) ?_; clear hS; intro a hS
    refine s_val hS (by decide) rfl rfl (r_move hS rfl) ?_; clear hS; intro a hS
    refine s_val hS (by decide) rfl rfl (r_move hS rfl) ?_; clear hS; intro a hS
    refine s_val hS (by decide) rfl rfl (r_bv hS rfl rfl gU (b_shrU _ _ _ _)) ?_; clear hS; intro a hS
    refine s_val hS (by decide) rfl rfl (r_conv hS rfl (by kernel_rfl) Try.underlying5 (cv_UB _)) ?_; clear hS; intro a hS
    refine s_buildSlice hS hM (by decide) (vs := [(0, B _)]) rfl (row22_1 _) ?_; clear hS hM; intro a b14 w hb14 hS hM
    refine s_append hS [_] (Lx := Lx) hM (by decide) rfl rfl elem22 ho ((row1 hM).src Try.underlying22 (fun _ _ => rfl)) (by rw [show (cB j (be x)).length = j from cells_len]; omega) ?_; clear hS hM ho; intro a w v Lx ho hS hM
    refine s_val hS (by decide) rfl rfl (r_assign hS rfl) ?_; clear hS; intro a hS
    refine s_nil ?_
    refine k_in ?_
    refine k_seq ?_
    refine c_region ?_
    refine s_val hS (by decide) rfl rfl (r_move hS rfl) ?_; clear hS; intro a hS
    refine s_val hS (by decide) rfl rfl (r_bv hS rfl (show ev _ _ = some (.int .i64 (8)) from rfl) gZ (b_subZ _ _ _ (by omega))) ?_; clear hS; intro a hS
    refine s_val hS (by decide) rfl rfl (r_assign hS rfl) ?_; clear hS; intro a hS
    refine s_nil ?_
    refine k_then ?_
    refine ⟨(j + 1, _, _), (by show 8 - (j + 1) < 8 - j; omega), ⟨by show j + 1 ≤ 8; omega, ho.congr (snoc_be _ _)⟩, hS.to _ ⟨rfl, rfl, congrArg (fun q => some (Value.int .i64 q)) (by omega), trivial⟩, (hM.drop hb14)⟩
  · obtain rfl : j = 8 := by have := of_decide_eq_false hc; omega
    refine c_exit ?_
    refine k_thenx ?_
    refine k_thenx ?_
    refine k_inx ?_
    refine k_seq ?_
    refine c_seq ?_
    refine c_region ?_
    refine s_val hS (by decide) rfl rfl (r_move hS rfl) ?_; clear hS; intro a hS
    refine s_val hS (by decide) rfl rfl (r_assign hS rfl) ?_; clear hS; intro a hS
    refine s_nil ?_
    refine k_seq ?_
    refine c_ret ?_
    exact k_res1 hS rfl (RV.tmp rfl) ⟨_, _, rfl, ho, hM⟩

set_option maxRecDepth 100000 in
theorem numbers_ok (w0 : World) (b : Nat) (bg : Bool) (h : HS) (hb : w0.heap[b]? = some (.cells (hH bg h).toArray 56 (0, 0))) : Fresh Try.prog 55 #[ptr b 0] w0 5 (cB 64 (flatB h.s)) := by
  refine ⟨by kernel_rfl, ?_⟩
  refine calls_sym Try.func55 rfl (by kernel_rfl) ?_
  intro a hS
  have hM : Mem w0 w0 [⟨b, 56, hH bg h⟩] := Mem.start hb
  refine c_seq ?_
  refine c_region ?_
  refine s_val hS (by decide) rfl rfl (r_assign hS rfl) ?_; clear hS; intro a hS
  refine s_nil ?_
  refine k_seq ?_
  refine c_seq ?_
  refine c_region ?_
  refine s_val hS (by decide) rfl rfl (r_assign hS rfl) ?_; clear hS; intro a hS
  refine s_nil ?_
  refine k_seq ?_
  refine c_seq ?_
  refine c_seq ?_
  refine c_region ?_
  refine s_val hS (by decide) rfl rfl (r_move hS rfl) ?_; clear hS; intro a hS
  refine s_val hS (by decide) rfl rfl (r_nilCheck hS rfl) ?_; clear hS; intro a hS
  refine s_val hS (by decide) rfl rfl (r_field0 hS rfl Try.underlying56 rfl (s := 7) sz36 (k := 1) rfl) ?_; clear hS; intro a hS
  refine s_val hS (by decide) rfl rfl (r_loadSub hS hM rfl (j := 0) rfl (hC_split _ _ _ _) rfl Try.underlying36 rfl (by rw [cells_len]; exact sz36)) ?_; clear hS; intro a hS
  refine s_val hS (by decide) rfl rfl (r_move hS (show ev _ _ = some (N 0) from rfl)) ?_; clear hS; intro a hS
  refine s_nil ?_
  refine k_seq ?_
  refine c_block ?_
  refine c_loop (σ := Nat × Value × List Blk) (fun s a w => (s.1 ≤ 8 ∧ Own w0.heap.size 5 s.2.1 (cB (8 * s.1) (flatB h.s)) s.2.2) ∧ Slots a 19 (env [(3, s.2.1), (9, .agg (cU 8 h.s).toArray), (10, N s.1)]) ∧ Mem w0 w ([⟨b, 56, hH bg h⟩] ++ s.2.2)) (fun s => 8 - s.1) (0, .slice none 0 0, []) ⟨⟨by decide, Own.nil⟩, hS.to _ ⟨rfl, rfl, rfl, trivial⟩, hM⟩ ?_
  clear hS hM; rintro ⟨k, v, Lx⟩ a w ⟨hk, hS, hM⟩
  obtain ⟨hk, ho⟩ := hk; dsimp only at hk ho hS hM
  refine c_seq ?_
  refine c_region ?_
  refine s_val hS (by decide) rfl rfl (r_bv hS rfl (show ev _ _ = some (N 8) from rfl) gN (b_lssN _ _ _)) ?_; clear hS; intro a hS
  refine s_nil ?_
  refine k_seq ?_
  refine c_seq ?_
  refine c_cond hS rfl (fun hc => ?_) (fun hc => ?_)
  · have hk1 := of_decide_eq_true hc
    refine c_skip ?_
    refine k_seq ?_
    refine c_seq ?_
    refine c_block ?_
    refine c_seq ?_
    refine c_region ?_
    refine s_val hS (by decide) rfl rfl (r_index hS rfl rfl Try.underlying36 sz24 Try.underlying24 rfl (by omega) (cells_get' (by omega))) ?_; clear hS; intro a hS
    refine s_val hS (by decide) rfl rfl (r_assign hS rfl) ?_; clear hS; intro a hS
    refine s_nil ?_
    refine k_seq ?_
    refine c_region ?_
    refine s_val hS (by decide) rfl rfl (r_move hS rfl) ?_; clear hS; intro a hS
    refine s_val hS (by decide) rfl rfl (r_move hS rfl) ?_; clear hS; intro a hS
    refine s_fresh hS hM (by decide) rfl (eight_ok _ _) ?_; clear hS hM; intro a w v15 L15 ho15 hS hM
    have hr15 := ho15.rdFront hM; replace hM := hM.forget ho15.ge
    refine s_append hS [_] (Lx := Lx) hM (by decide) rfl rfl elem22 ho (hr15.src Try.underlying22 (fun _ _ => rfl)) (by rw [show (cB (8 * k) (flatB h.s)).length = 8 * k from cells_len]; omega) ?_; clear hS hM ho; intro a w v Lx ho hS hM
    refine s_val hS (by decide) rfl rfl (r_assign hS rfl) ?_; clear hS; intro a hS
    refine s_nil ?_
    refine k_in ?_
    refine k_seq ?_
    refine c_region ?_
    refine s_val hS (by decide) rfl rfl (r_bv hS rfl (show ev _ _ = some (N 1) from rfl) gN (b_addN _ _ _ (by omega))) ?_; clear hS; intro a hS
    refine s_val hS (by decide) rfl rfl (r_move hS rfl) ?_; clear hS; intro a hS
    refine s_nil ?_
    refine k_then ?_
    refine ⟨(k + 1, _, _), (by show 8 - (k + 1) < 8 - k; omega), ⟨by show k + 1 ≤ 8; omega, ho.congr (catB _ _)⟩, hS.to _ ⟨rfl, rfl, rfl, trivial⟩, hM⟩
  · obtain rfl : k = 8 := by have := of_decide_eq_false hc; omega
    refine c_exit ?_
    refine k_thenx ?_
    refine k_thenx ?_
    refine k_inx ?_
    refine k_seq ?_
    refine c_seq ?_
    refine c_region ?_
    refine s_val hS (by decide) rfl rfl (r_move hS rfl) ?_; clear hS; intro a hS
    refine s_val hS (by decide) rfl rfl (r_assign hS rfl) ?_; clear hS; intro a hS
    refine s_nil ?_
    refine k_seq ?_
    refine c_ret ?_
    exact k_res1 hS rfl (RV.tmp rfl) ⟨_, _, rfl, ho, Mem.same hb hM⟩

set_option maxRecDepth 100000 in
theorem sum_ok (w0 : World) (b : Nat) (bg : Bool) (h : HS) (hb : w0.heap[b]? = some (.cells (hH bg h).toArray 56 (0, 0))) (hn : (asH bg h).n < 2305843009213693952) : Pure Try.prog 31 #[ptr b 0] w0 (.agg (cB 64 (flatB (asH bg h).sum.s)).toArray) := by
  refine ⟨by kernel_rfl, ?_⟩
  refine calls_sym Try.func31 rfl (by kernel_rfl) ?_
  intro a hS
  have hM : Mem w0 w0 [⟨b, 56, hH bg h⟩] := Mem.start hb
  refine c_seq ?_
  refine c_region ?_
  refine s_alloc hS hM (by decide) zero39 ?_; clear hS hM; intro a b2 w hb2 hS hM
  refine s_nil ?_
  refine k_seq ?_
  refine c_seq ?_
  refine c_region ?_
  refine s_val hS (by decide) rfl rfl (r_move hS rfl) ?_; clear hS; intro a hS
  refine s_pure hS hM (by decide) rfl (own_ok _ _ _ _ (hM.block (j := 1) rfl)) ?_; clear hS hM; intro a w hS hM
  refine s_alloc hS hM (by decide) zero56 ?_; clear hS hM; intro a b3 w hb3 hS hM
  refine s_storeAll hS hM rfl rfl (j := 0) rfl sz56 (hC_len _ _ _ _) (hC_len _ _ _ _) (hC_one _ _ _ _) ?_; clear hS hM; intro a w hS hM
  refine s_nil ?_
  refine k_seq ?_
  refine c_seq ?_
  refine c_region ?_
  refine s_val hS (by decide) rfl rfl (r_field0 hS rfl Try.underlying56 rfl (s := 0) sz3 (k := 9) rfl) ?_; clear hS; intro a hS
  refine s_val hS (by decide) rfl rfl (r_load hS hM rfl (j := 0) rfl Try.underlying3 rfl (hH_n _ _)) ?_; clear hS; intro a hS
  refine s_val hS (by decide) rfl rfl (r_conv hS rfl (by kernel_rfl) Try.underlying24 (cv_NU _)) ?_; clear hS; intro a hS
  refine s_val hS (by decide) rfl rfl (r_assign hS rfl) ?_; clear hS; intro a hS
  refine s_nil ?_
  refine k_seq ?_
  refine c_seq ?_
  refine c_region ?_
  refine s_buildSlice hS hM (by decide) (vs := [(0, B 128#8)]) rfl (row22_1 _) ?_; clear hS hM; intro a b10 w hb10 hS hM
  refine s_wrote hS hM (by decide) rfl (j := 1) rfl (put_ok _ _ _ _ (hM.block (j := 1) rfl) (row1 hM) (fun _ => hM.ne_at (i := 0) (j := 1) rfl rfl (by decide)) (by omega)) ?_; clear hS hM; intro a w hS hM
  replace hM := hM.drop hb10
  have hx1 : ((asH bg h).puts (fun _ => 128#8) 1).n = (asH bg h).n + 1 := HS.puts_n _ _ _
  refine s_nil ?_
  refine k_seq ?_
  refine c_seq ?_
  refine c_block ?_
  refine c_loop (σ := Nat) (fun k a w => (k ≤ zc (asH bg h).n) ∧ Slots a 29 (env [(0, ptr b 0), (2, ptr b2 0), (3, ptr b3 0), (4, U (BitVec.ofNat 64 (asH bg h).n))]) ∧ Mem w0 w ([⟨b3, 56, hH true (((asH bg h).puts (fun _ => 128#8) 1).puts (fun _ => 0#8) k)⟩, ⟨b2, 39, cB 64 (fun _ => 0)⟩, ⟨b, 56, hH bg h⟩])) (fun k => zc (asH bg h).n - k) (0) ⟨by omega, hS.to _ ⟨rfl, rfl, rfl, rfl, trivial⟩, (hM.congr (by rw [show ((asH bg h).puts (fun _ => 128#8) 1).puts (fun _ => 0#8) 0 = ((asH bg h).puts (fun _ => 128#8) 1) by rw [HS.puts]]; rfl))⟩ ?_
  clear hS hM; rintro k a w ⟨hk, hS, hM⟩
  have hx : (((asH bg h).puts (fun _ => 128#8) 1).puts (fun _ => 0#8) k).n = (asH bg h).n + 1 + k := by rw [HS.puts_n, hx1]
  have hz := zc_lt (asH bg h).n
  refine c_seq ?_
  refine c_seq ?_
  refine c_region ?_
  refine s_val hS (by decide) rfl rfl (r_field0 hS rfl Try.underlying56 rfl (s := 0) sz3 (k := 9) rfl) ?_; clear hS; intro a hS
  refine s_val hS (by decide) rfl rfl (r_load hS hM rfl (j := 0) rfl Try.underlying3 rfl (hH_n _ _)) ?_; clear hS; intro a hS
  refine s_val hS (by decide) rfl rfl (r_bv hS rfl (show ev _ _ = some (N 128) from rfl) gN (b_remN _ _ _ (by omega))) ?_; clear hS; intro a hS
  refine s_val hS (by decide) rfl rfl (r_bv hS rfl (show ev _ _ = some (N 112) from rfl) gN (b_neqN _ _ _)) ?_; clear hS; intro a hS
  refine s_nil ?_
  refine k_seq ?_
  refine c_cond hS rfl (fun hc => ?_) (fun hc => ?_)
  · have hk1 : k < zc (asH bg h).n := by rcases Nat.lt_or_ge k (zc (asH bg h).n) with q | q; exact q; exact absurd hc (by rw [hx, show k = zc (asH bg h).n by omega, zc_end]; decide)
    refine c_skip ?_
    refine k_seq ?_
    refine c_block ?_
    refine c_region ?_
    refine s_buildSlice hS hM (by decide) (vs := [(0, B 0#8)]) rfl (row22_1 _) ?_; clear hS hM; intro a b16 w hb16 hS hM
    refine s_wrote hS hM (by decide) rfl (j := 1) rfl (put_ok _ _ _ _ (hM.block (j := 1) rfl) (row1 hM) (fun _ => hM.ne_at (i := 0) (j := 1) rfl rfl (by decide)) (by omega)) ?_; clear hS hM; intro a w hS hM
    replace hM := hM.drop hb16
    refine s_nil ?_
    refine k_in ?_
    refine k_then ?_
    refine ⟨k + 1, by omega, by omega, hS.to _ ⟨rfl, rfl, rfl, rfl, trivial⟩, (hM.congr (by rw [puts_one]; rfl))⟩
  · obtain rfl : k = zc (asH bg h).n := by rcases Nat.lt_or_ge k (zc (asH bg h).n) with q | q; exact absurd (of_decide_eq_true (by simpa using hc)) (by rw [hx]; exact zc_more q); omega
    refine c_exit ?_
    refine k_thenx ?_
    refine k_thenx ?_
    refine k_inx ?_
    refine k_seq ?_
    refine c_seq ?_
    refine c_region ?_
    refine s_val hS (by decide) rfl rfl (r_move hS rfl) ?_; clear hS; intro a hS
    refine s_val hS (by decide) rfl rfl (r_bv hS rfl (show ev _ _ = some (.int .u64 ((61 : Nat) : Int)) from rfl) gU (b_shrU _ _ _ 61)) ?_; clear hS; intro a hS
    refine s_fresh hS hM (by decide) rfl (eight_ok _ _) ?_; clear hS hM; intro a w v20 L20 ho20 hS hM
    replace hM := hM.swap
    refine s_wrote hS hM (by decide) rfl (j := 0) rfl (put_ok _ _ _ _ (hM.block (j := 0) rfl) (ho20.rdCells (L := [_, _, _]) hM) (own_ne (L := [_, _, _]) ho20 hM (j := 0) rfl) (by omega)) ?_; clear hS hM; intro a w hS hM
    replace hM := Mem.dropRight (L := [_, _, _]) hM ho20.ge
    have hx2 : ((((asH bg h).puts (fun _ => 128#8) 1).puts (fun _ => 0#8) (zc (asH bg h).n)).puts (be (BitVec.ofNat 64 (asH bg h).n >>> 61)) 8).n = (asH bg h).n + 1 + zc (asH bg h).n + 8 := by rw [HS.puts_n, hx]
    refine s_nil ?_
    refine k_seq ?_
    refine c_seq ?_
    refine c_region ?_
    refine s_val hS (by decide) rfl rfl (r_move hS rfl) ?_; clear hS; intro a hS
    refine s_val hS (by decide) rfl rfl (r_bv hS rfl (show ev _ _ = some (.int .u64 ((3 : Nat) : Int)) from rfl) gU (b_shlU _ _ _ 3)) ?_; clear hS; intro a hS
    refine s_fresh hS hM (by decide) rfl (eight_ok _ _) ?_; clear hS hM; intro a w v24 L24 ho24 hS hM
    replace hM := hM.swap
    refine s_wrote hS hM (by decide) rfl (j := 0) rfl (put_ok _ _ _ _ (hM.block (j := 0) rfl) (ho24.rdCells (L := [_, _, _]) hM) (own_ne (L := [_, _, _]) ho24 hM (j := 0) rfl) (by omega)) ?_; clear hS hM; intro a w hS hM
    replace hM := Mem.dropRight (L := [_, _, _]) hM ho24.ge
    refine s_nil ?_
    refine k_seq ?_
    refine c_seq ?_
    refine c_region ?_
    refine s_fresh hS hM (by decide) rfl (numbers_ok _ _ _ _ (hM.block (j := 0) rfl)) ?_; clear hS hM; intro a w v26 L26 ho26 hS hM
    obtain ⟨b26, cap26, sp26, rfl, hb26, hc26, rfl⟩ := ho26.some (by rw [cells_len]; decide)
    refine s_val hS (by decide) rfl rfl (r_s2a hS rfl Try.underlying39 (by rw [cells_len]; decide)) ?_; clear hS; intro a hS
    refine s_val hS (by decide) rfl rfl (r_loadSub hS hM rfl (j := 0) (pre := []) (mid := cB 64 _) (post := sp26) rfl rfl rfl Try.underlying39 rfl (by rw [cells_len]; exact sz39)) ?_; clear hS; intro a hS
    refine s_storeAll hS hM rfl rfl (j := 2) rfl sz39 cells_len cells_len cB_one ?_; clear hS hM; intro a w hS hM
    refine s_nil ?_
    refine k_seq ?_
    refine c_ret ?_
    exact k_res1 hS rfl (RV.row rfl (hM.have_ _ (mem_of_get (j := 2) rfl)) Try.underlying39 rfl (by rw [sz39]; exact congrArg some cells_len.symm)) ⟨rfl, Mem.same hb (((hM.drop hb26).drop hb3).drop hb2)⟩

set_option maxRecDepth 100000 in
theorem sumnil_ok  (w0 : World) : Pure Try.prog 31 #[.pointer none] w0 (.agg (cB 64 (flatB HS.zero.sum.s)).toArray) := by
  have hn : HS.zero.n < 2305843009213693952 := by decide
  refine ⟨by kernel_rfl, ?_⟩
  refine calls_sym Try.func31 rfl (by kernel_rfl) ?_
  intro a hS
  have hM : Mem w0 w0 [] := Mem.refl w0
  refine c_seq ?_
  refine c_region ?_
  refine s_alloc hS hM (by decide) zero39 ?_; clear hS hM; intro a b2 w hb2 hS hM
  refine s_nil ?_
  refine k_seq ?_
  refine c_seq ?_
  refine c_region ?_
  refine s_val hS (by decide) rfl rfl (r_move hS rfl) ?_; clear hS; intro a hS
  refine s_pure hS hM (by decide) rfl (ownnil_ok _) ?_; clear hS hM; intro a w hS hM
  refine s_alloc hS hM (by decide) zero56 ?_; clear hS hM; intro a b3 w hb3 hS hM
  refine s_storeAll hS hM rfl rfl (j := 0) rfl sz56 (hC_len _ _ _ _) (hC_len _ _ _ _) (hC_one _ _ _ _) ?_; clear hS hM; intro a w hS hM
  refine s_nil ?_
  refine k_seq ?_
  refine c_seq ?_
  refine c_region ?_
  refine s_val hS (by decide) rfl rfl (r_field0 hS rfl Try.underlying56 rfl (s := 0) sz3 (k := 9) rfl) ?_; clear hS; intro a hS
  refine s_val hS (by decide) rfl rfl (r_load hS hM rfl (j := 0) rfl Try.underlying3 rfl (hH_n _ _)) ?_; clear hS; intro a hS
  refine s_val hS (by decide) rfl rfl (r_conv hS rfl (by kernel_rfl) Try.underlying24 (cv_NU _)) ?_; clear hS; intro a hS
  refine s_val hS (by decide) rfl rfl (r_assign hS rfl) ?_; clear hS; intro a hS
  refine s_nil ?_
  refine k_seq ?_
  refine c_seq ?_
  refine c_region ?_
  refine s_buildSlice hS hM (by decide) (vs := [(0, B 128#8)]) rfl (row22_1 _) ?_; clear hS hM; intro a b10 w hb10 hS hM
  refine s_wrote hS hM (by decide) rfl (j := 1) rfl (put_ok _ _ _ _ (hM.block (j := 1) rfl) (row1 hM) (fun _ => hM.ne_at (i := 0) (j := 1) rfl rfl (by decide)) (by omega)) ?_; clear hS hM; intro a w hS hM
  replace hM := hM.drop hb10
  have hx1 : (HS.zero.puts (fun _ => 128#8) 1).n = HS.zero.n + 1 := HS.puts_n _ _ _
  refine s_nil ?_
  refine k_seq ?_
  refine c_seq ?_
  refine c_block ?_
  refine c_loop (σ := Nat) (fun k a w => (k ≤ zc HS.zero.n) ∧ Slots a 29 (env [(2, ptr b2 0), (3, ptr b3 0), (4, U (BitVec.ofNat 64 HS.zero.n))]) ∧ Mem w0 w ([⟨b3, 56, hH true ((HS.zero.puts (fun _ => 128#8) 1).puts (fun _ => 0#8) k)⟩, ⟨b2, 39, cB 64 (fun _ => 0)⟩])) (fun k => zc HS.zero.n - k) (0) ⟨by omega, hS.to _ ⟨rfl, rfl, rfl, trivial⟩, (hM.congr (by rw [show (HS.zero.puts (fun _ => 128#8) 1).puts (fun _ => 0#8) 0 = (HS.zero.puts (fun _ => 128#8) 1) by rw [HS.puts]]; rfl))⟩ ?_
  clear hS hM; rintro k a w ⟨hk, hS, hM⟩
  have hx : ((HS.zero.puts (fun _ => 128#8) 1).puts (fun _ => 0#8) k).n = HS.zero.n + 1 + k := by rw [HS.puts_n, hx1]
  have hz := zc_lt HS.zero.n
  refine c_seq ?_
  refine c_seq ?_
  refine c_region ?_
  refine s_val hS (by decide) rfl rfl (r_field0 hS rfl Try.underlying56 rfl (s := 0) sz3 (k := 9) rfl) ?_; clear hS; intro a hS
  refine s_val hS (by decide) rfl rfl (r_load hS hM rfl (j := 0) rfl Try.underlying3 rfl (hH_n _ _)) ?_; clear hS; intro a hS
  refine s_val hS (by decide) rfl rfl (r_bv hS rfl (show ev _ _ = some (N 128) from rfl) gN (b_remN _ _ _ (by omega))) ?_; clear hS; intro a hS
  refine s_val hS (by decide) rfl rfl (r_bv hS rfl (show ev _ _ = some (N 112) from rfl) gN (b_neqN _ _ _)) ?_; clear hS; intro a hS
  refine s_nil ?_
  refine k_seq ?_
  refine c_cond hS rfl (fun hc => ?_) (fun hc => ?_)
  · have hk1 : k < zc HS.zero.n := by rcases Nat.lt_or_ge k (zc HS.zero.n) with q | q; exact q; exact absurd hc (by rw [hx, show k = zc HS.zero.n by omega, zc_end]; decide)
    refine c_skip ?_
    refine k_seq ?_
    refine c_block ?_
    refine c_region ?_
    refine s_buildSlice hS hM (by decide) (vs := [(0, B 0#8)]) rfl (row22_1 _) ?_; clear hS hM; intro a b16 w hb16 hS hM
    refine s_wrote hS hM (by decide) rfl (j := 1) rfl (put_ok _ _ _ _ (hM.block (j := 1) rfl) (row1 hM) (fun _ => hM.ne_at (i := 0) (j := 1) rfl rfl (by decide)) (by omega)) ?_; clear hS hM; intro a w hS hM
    replace hM := hM.drop hb16
    refine s_nil ?_
    refine k_in ?_
    refine k_then ?_
    refine ⟨k + 1, by omega, by omega, hS.to _ ⟨rfl, rfl, rfl, trivial⟩, (hM.congr (by rw [puts_one]; rfl))⟩
  · obtain rfl : k = zc HS.zero.n := by rcases Nat.lt_or_ge k (zc HS.zero.n) with q | q; exact absurd (of_decide_eq_true (by simpa using hc)) (by rw [hx]; exact zc_more q); omega
    refine c_exit ?_
    refine k_thenx ?_
    refine k_thenx ?_
    refine k_inx ?_
    refine k_seq ?_
    refine c_seq ?_
    refine c_region ?_
    refine s_val hS (by decide) rfl rfl (r_move hS rfl) ?_; clear hS; intro a hS
    refine s_val hS (by decide) rfl rfl (r_bv hS rfl (show ev _ _ = some (.int .u64 ((61 : Nat) : Int)) from rfl) gU (b_shrU _ _ _ 61)) ?_; clear hS; intro a hS
    refine s_fresh hS hM (by decide) rfl (eight_ok _ _) ?_; clear hS hM; intro a w v20 L20 ho20 hS hM
    replace hM := hM.swap
    refine s_wrote hS hM (by decide) rfl (j := 0) rfl (put_ok _ _ _ _ (hM.block (j := 0) rfl) (ho20.rdCells (L := [_, _]) hM) (own_ne (L := [_, _]) ho20 hM (j := 0) rfl) (by omega)) ?_; clear hS hM; intro a w hS hM
    replace hM := Mem.dropRight (L := [_, _]) hM ho20.ge
    have hx2 : (((HS.zero.puts (fun _ => 128#8) 1).puts (fun _ => 0#8) (zc HS.zero.n)).puts (be (BitVec.ofNat 64 HS.zero.n >>> 61)) 8).n = HS.zero.n + 1 + zc HS.zero.n + 8 := by rw [HS.puts_n, hx]
    refine s_nil ?_
    refine k_seq ?_
    refine c_seq ?_
    refine c_region ?_
    refine s_val hS (by decide) rfl rfl (r_move hS rfl) ?_; clear hS; intro a hS
    refine s_val hS (by decide) rfl rfl (r_bv hS rfl (show ev _ _ = some (.int .u64 ((3 : Nat) : Int)) from rfl) gU (b_shlU _ _ _ 3)) ?_; clear hS; intro a hS
    refine s_fresh hS hM (by decide) rfl (eight_ok _ _) ?_; clear hS hM; intro a w v24 L24 ho24 hS hM
    replace hM := hM.swap
    refine s_wrote hS hM (by decide) rfl (j := 0) rfl (put_ok _ _ _ _ (hM.block (j := 0) rfl) (ho24.rdCells (L := [_, _]) hM) (own_ne (L := [_, _]) ho24 hM (j := 0) rfl) (by omega)) ?_; clear hS hM; intro a w hS hM
    replace hM := Mem.dropRight (L := [_, _]) hM ho24.ge
    refine s_nil ?_
    refine k_seq ?_
    refine c_seq ?_
    refine c_region ?_
    refine s_fresh hS hM (by decide) rfl (numbers_ok _ _ _ _ (hM.block (j := 0) rfl)) ?_; clear hS hM; intro a w v26 L26 ho26 hS hM
    obtain ⟨b26, cap26, sp26, rfl, hb26, hc26, rfl⟩ := ho26.some (by rw [cells_len]; decide)
    refine s_val hS (by decide) rfl rfl (r_s2a hS rfl Try.underlying39 (by rw [cells_len]; decide)) ?_; clear hS; intro a hS
    refine s_val hS (by decide) rfl rfl (r_loadSub hS hM rfl (j := 0) (pre := []) (mid := cB 64 _) (post := sp26) rfl rfl rfl Try.underlying39 rfl (by rw [cells_len]; exact sz39)) ?_; clear hS; intro a hS
    refine s_storeAll hS hM rfl rfl (j := 2) rfl sz39 cells_len cells_len cB_one ?_; clear hS hM; intro a w hS hM
    refine s_nil ?_
    refine k_seq ?_
    refine c_ret ?_
    exact k_res1 hS rfl (RV.row rfl (hM.have_ _ (mem_of_get (j := 2) rfl)) Try.underlying39 rfl (by rw [sz39]; exact congrArg some cells_len.symm)) ⟨rfl, hM.done ⟨hb26, hb3, hb2, trivial⟩⟩

set_option maxRecDepth 100000 in
theorem mid_ok (w0 : World) (b : Nat) (bg : Bool) (h : HS) (hb : w0.heap[b]? = some (.cells (hH bg h).toArray 56 (0, 0))) : NewRow Try.prog 35 #[ptr b 0] w0 5 200 (fun i => B (midF (asH bg h) i)) := by
  refine ⟨by kernel_rfl, ?_⟩
  refine calls_sym Try.func35 rfl (by kernel_rfl) ?_
  intro a hS
  have hM : Mem w0 w0 [⟨b, 56, hH bg h⟩] := Mem.start hb
  refine c_seq ?_
  refine c_region ?_
  refine s_val hS (by decide) rfl rfl (r_assign hS rfl) ?_; clear hS; intro a hS
  refine s_nil ?_
  refine k_seq ?_
  refine c_seq ?_
  refine c_region ?_
  refine s_val hS (by decide) rfl rfl (r_move hS rfl) ?_; clear hS; intro a hS
  refine s_pure hS hM (by decide) rfl (own_ok _ _ _ _ (hM.block (j := 0) rfl)) ?_; clear hS hM; intro a w hS hM
  refine s_alloc hS hM (by decide) zero56 ?_; clear hS hM; intro a b3 w hb3 hS hM
  refine s_storeAll hS hM rfl rfl (j := 0) rfl sz56 (hC_len _ _ _ _) (hC_len _ _ _ _) (hC_one _ _ _ _) ?_; clear hS hM; intro a w hS hM
  refine s_nil ?_
  refine k_seq ?_
  refine c_seq ?_
  refine c_region ?_
  refine s_make hS hM (by decide) (show ev _ _ = some (N 200) from rfl) (show ev _ _ = some (N 200) from rfl) made22_200 ?_; clear hS hM; intro a b7 w hb7 hS hM
  refine s_val hS (by decide) rfl rfl (r_assign hS rfl) ?_; clear hS; intro a hS
  refine s_nil ?_
  refine k_seq ?_
  refine c_seq ?_
  refine c_region ?_
  refine s_val hS (by decide) rfl rfl (r_move hS rfl) ?_; clear hS; intro a hS
  refine s_fresh hS hM (by decide) rfl (numbers_ok _ _ _ _ (hM.block (j := 1) rfl)) ?_; clear hS hM; intro a w v9 L9 ho9 hS hM
  have hr9 := ho9.rdFront hM; replace hM := hM.forget ho9.ge
  refine s_copy hS hM (by decide) rfl rfl Try.underlying22 sz5 (j := 0) rfl hr9 (fun _ _ => rfl) (by simp only [cells_len]; omega) ?_; clear hS hM; intro a w hS hM
  replace hM : Mem w0 w (⟨b7, 5, splice (cB 200 (fun _ => 0)) 0 (cells (min 64 200) (fun i => B (flatB (asH bg h).s i)))⟩ :: _) := hM
  rw [mid_s1] at hM
  refine s_nil ?_
  refine k_seq ?_
  refine c_seq ?_
  refine c_gplan 6 (fun _ => [⟨b7, 5, cB 200 (mid1 (asH bg h))⟩, ⟨b3, 56, hH true (asH bg h)⟩, ⟨b, 56, hH bg h⟩]) [(4, .slice (some ⟨b7, 0, none⟩) 200 200), (3, ptr b3 0), (2, .slice none 0 0)] (fun i V Bl => match i with | 0 => V 0 = .slice (some ⟨b7, 0, none⟩) 200 200 ∧ Bl 0 = [] | 1 => V 1 = .slice (some ⟨b7, 0 + 64, none⟩) (200 - 64) (200 - 64) ∧ Bl 1 = [] | 2 => V 2 = ptr b3 9 ∧ Bl 2 = [] | 3 => V 3 = N (asH bg h).n ∧ Bl 3 = [] | 4 => V 4 = U (BitVec.ofNat 64 (asH bg h).n) ∧ Bl 4 = [] | 5 => Own w0.heap.size 5 (V 5) (cB 8 (be (BitVec.ofNat 64 (asH bg h).n))) (Bl 5) | _ => True) (by kernel_rfl) (by kernel_rfl) hS ⟨rfl, rfl, rfl, trivial⟩ hM ?_ ?_
  · clear hS hM
    refine ⟨?_, ?_, ?_, ?_, ?_, ?_, trivial⟩
    · intro S V Bl X a w hp hs hR hX hS hM hn
      replace hS := hS.to [(4, .slice (some ⟨b7, 0, none⟩) 200 200)] ⟨rfl, trivial⟩
      have hM0 := hM; replace hM := hM0.dropApp hn
      exact gy_val rfl (r_move hS rfl) ⟨⟨rfl, rfl⟩, (fun _ h => by cases h), hM0⟩
    · intro S V Bl X a w hp hs hR hX hS hM hn
      have h0 : V 0 = .slice (some ⟨b7, 0, none⟩) 200 200 := (hR 0 rfl).1
      replace hS := hS.to [(11, .slice (some ⟨b7, 0, none⟩) 200 200)] ⟨congrArg some h0, trivial⟩
      have hM0 := hM; replace hM := hM0.dropApp hn
      exact gy_val rfl (r_sliceO hS rfl Try.underlying22 sz5 ⟨_, (show ev _ _ = some (.int .i64 ((64 : Nat) : Int)) from rfl)⟩ rfl (by decide) (by decide) (by decide)) ⟨⟨rfl, rfl⟩, (fun _ h => by cases h), hM0⟩
    · intro S V Bl X a w hp hs hR hX hS hM hn
      replace hS := hS.to [(3, ptr b3 0)] ⟨rfl, trivial⟩
      have hM0 := hM; replace hM := hM0.dropApp hn
      exact gy_val rfl (r_field0 hS rfl Try.underlying56 rfl (s := 0) sz3 (k := 9) rfl) ⟨⟨rfl, rfl⟩, (fun _ h => by cases h), hM0⟩
    · intro S V Bl X a w hp hs hR hX hS hM hn
      have h2 : V 2 = ptr b3 9 := (hR 2 rfl).1
      replace hS := hS.to [(13, ptr b3 9)] ⟨congrArg some h2, trivial⟩
      have hM0 := hM; replace hM := hM0.dropApp hn
      exact gy_val rfl (r_load hS hM rfl (j := 1) rfl Try.underlying3 rfl (hH_n _ _)) ⟨⟨rfl, rfl⟩, (fun _ h => by cases h), hM0⟩
    · intro S V Bl X a w hp hs hR hX hS hM hn
      have h3 : V 3 = N (asH bg h).n := (hR 3 rfl).1
      replace hS := hS.to [(14, N (asH bg h).n)] ⟨congrArg some h3, trivial⟩
      have hM0 := hM; replace hM := hM0.dropApp hn
      exact gy_val rfl (r_conv hS rfl (by kernel_rfl) Try.underlying24 (cv_NU _)) ⟨⟨rfl, rfl⟩, (fun _ h => by cases h), hM0⟩
    · intro S V Bl X a w hp hs hR hX hS hM hn
      have h4 : V 4 = U (BitVec.ofNat 64 (asH bg h).n) := (hR 4 rfl).1
      replace hS := hS.to [(15, U (BitVec.ofNat 64 (asH bg h).n))] ⟨congrArg some h4, trivial⟩
      have hM0 := hM; replace hM := hM0.dropApp hn
      exact gy_fresh hS rfl (eight_ok _ _) hM0 fun v Lx w' ho hM' => ⟨ho, ho.ge, hM'⟩
  clear hS hM; intro V Bl a w hR hN hS hM
  have ho16 : Own w0.heap.size 5 (V 5) (cB 8 (be (BitVec.ofNat 64 (asH bg h).n))) (Bl 5) := hR 5 (by decide)
  obtain ⟨v0, B0⟩ : V 0 = .slice (some ⟨b7, 0, none⟩) 200 200 ∧ Bl 0 = [] := hR 0 (by decide)
  obtain ⟨v1, B1⟩ : V 1 = .slice (some ⟨b7, 0 + 64, none⟩) (200 - 64) (200 - 64) ∧ Bl 1 = [] := hR 1 (by decide)
  obtain ⟨v2, B2⟩ : V 2 = ptr b3 9 ∧ Bl 2 = [] := hR 2 (by decide)
  obtain ⟨v3, B3⟩ : V 3 = N (asH bg h).n ∧ Bl 3 = [] := hR 3 (by decide)
  obtain ⟨v4, B4⟩ : V 4 = U (BitVec.ofNat 64 (asH bg h).n) ∧ Bl 4 = [] := hR 4 (by decide)
  replace hS := hS.to [(11, .slice (some ⟨b7, 0, none⟩) 200 200), (12, .slice (some ⟨b7, 0 + 64, none⟩) (200 - 64) (200 - 64)), (13, ptr b3 9), (14, N (asH bg h).n), (15, U (BitVec.ofNat 64 (asH bg h).n)), (16, V 5), (4, .slice (some ⟨b7, 0, none⟩) 200 200), (3, ptr b3 0), (2, .slice none 0 0)] ⟨congrArg some v0, congrArg some v1, congrArg some v2, congrArg some v3, congrArg some v4, rfl, rfl, rfl, rfl, trivial⟩
  replace hM := hM.congr (L' := Bl 5 ++ [⟨b7, 5, cB 200 (mid1 (asH bg h))⟩, ⟨b3, 56, hH true (asH bg h)⟩, ⟨b, 56, hH bg h⟩]) (by show (Bl 0 ++ (Bl 1 ++ (Bl 2 ++ (Bl 3 ++ (Bl 4 ++ (Bl 5 ++ ([]))))))) ++ _ = _; rw [B0, B1, B2, B3, B4]; simp only [List.nil_append, List.append_nil])
  clear hR hN v0 B0 v1 B1 v2 B2 v3 B3 v4 B4; generalize V 5 = v16 at *; generalize Bl 5 = L16 at *; clear V Bl
  have hr16 := ho16.rdFront hM; replace hM := hM.forget ho16.ge
  refine s_copy hS hM (by decide) rfl rfl Try.underlying22 sz5 (j := 0) rfl hr16 (fun _ _ => rfl) (by simp only [cells_len]; decide) ?_; clear hS hM; intro a w hS hM
  replace hM : Mem w0 w (⟨b7, 5, splice (cB 200 (mid1 (asH bg h))) 64 (cells (min 8 136) (fun i => B (be (BitVec.ofNat 64 (asH bg h).n) i)))⟩ :: _) := hM
  rw [mid_s2] at hM
  refine s_nil ?_
  refine k_seq ?_
  refine c_seq ?_
  refine c_plan 7 (fun w => Mem w0 w _) [(4, _), (3, _), (2, _)] (by kernel_rfl) (by kernel_rfl) hS ⟨rfl, rfl, rfl, trivial⟩ (hM.drawn _) ?_; clear hS hM
  refine p_step rfl (fun a w hS hM => y_val rfl (r_move hS rfl)) ?_
  refine p_step rfl (fun a w hS hM => y_val rfl (r_sliceO hS rfl Try.underlying22 sz5 ⟨_, (show ev _ _ = some (.int .i64 ((72 : Nat) : Int)) from rfl)⟩ rfl (by decide) (by decide) (by decide))) ?_
  refine p_step rfl (fun a w hS hM => y_val rfl (r_field0 hS rfl Try.underlying56 rfl (s := 127) sz54 (k := 10) rfl)) ?_
  refine p_step rfl (fun a w hS hM => y_val rfl (r_field0 hS rfl Try.underlying56 rfl (s := 0) sz3 (k := 9) rfl)) ?_
  refine p_step rfl (fun a w hS hM => y_val rfl (r_load hS hM rfl (j := 1) rfl Try.underlying3 rfl (hH_n _ _))) ?_
  refine p_step rfl (fun a w hS hM => y_val rfl (r_bv hS rfl (show ev _ _ = some (N 128) from rfl) gN (b_remN _ _ _ (by omega)))) ?_
  refine p_step rfl (fun a w hS hM => y_val rfl (r_sliceP hS rfl Try.underlying54 sz5 rfl ⟨_, (show ev _ _ = some (.int .i64 (((asH bg h).n % 128 : Nat) : Int)) from rfl)⟩ (Nat.zero_le _) (Nat.le_of_lt (Nat.mod_lt _ (by decide))) (by decide))) ?_
  refine p_nil rfl ?_; intro a w hS hM
  refine s_copy hS hM (by decide) rfl rfl Try.underlying22 sz5 (j := 0) rfl (hC_rd hM (j := 1) (m := (asH bg h).n % 128) rfl (Nat.le_of_lt (Nat.mod_lt _ (by decide)))) (fun _ _ => rfl) (by simp only [cells_len]; omega) ?_; clear hS hM; intro a w hS hM
  replace hM : Mem w0 w (⟨b7, 5, splice (cB 200 (mid2 (asH bg h))) 72 (cells (min ((asH bg h).n % 128) 128) (fun i => B ((asH bg h).w i)))⟩ :: _) := hM
  rw [mid_s3] at hM
  refine s_nil ?_
  refine k_seq ?_
  refine c_seq ?_
  refine c_region ?_
  refine s_val hS (by decide) rfl rfl (r_move hS rfl) ?_; clear hS; intro a hS
  refine s_val hS (by decide) rfl rfl (r_assign hS rfl) ?_; clear hS; intro a hS
  refine s_nil ?_
  refine k_seq ?_
  refine c_ret ?_
  exact k_res1 hS rfl (RV.tmp rfl) (newrow_end hb7 (Mem.same hb ((Mem.swap (X := [_]) (Y := [_, _]) hM).drop hb3)))

set_option maxRecDepth 100000 in
theorem midnil_ok (w0 : World) : NewRow Try.prog 35 #[.pointer none] w0 5 200 (fun i => B (midF HS.zero i)) := by
  refine ⟨by kernel_rfl, ?_⟩
  refine calls_sym Try.func35 rfl (by kernel_rfl) ?_
  intro a hS
  have hM : Mem w0 w0 [] := Mem.refl w0
  refine c_seq ?_
  refine c_region ?_
  refine s_val hS (by decide) rfl rfl (r_assign hS rfl) ?_; clear hS; intro a hS
  refine s_nil ?_
  refine k_seq ?_
  refine c_seq ?_
  refine c_region ?_
  refine s_val hS (by decide) rfl rfl (r_move hS rfl) ?_; clear hS; intro a hS
  refine s_pure hS hM (by decide) rfl (ownnil_ok _) ?_; clear hS hM; intro a w hS hM
  refine s_alloc hS hM (by decide) zero56 ?_; clear hS hM; intro a b3 w hb3 hS hM
  refine s_storeAll hS hM rfl rfl (j := 0) rfl sz56 (hC_len _ _ _ _) (hC_len _ _ _ _) (hC_one _ _ _ _) ?_; clear hS hM; intro a w hS hM
  refine s_nil ?_
  refine k_seq ?_
  refine c_seq ?_
  refine c_region ?_
  refine s_make hS hM (by decide) (show ev _ _ = some (N 200) from rfl) (show ev _ _ = some (N 200) from rfl) made22_200 ?_; clear hS hM; intro a b7 w hb7 hS hM
  refine s_val hS (by decide) rfl rfl (r_assign hS rfl) ?_; clear hS; intro a hS
  refine s_nil ?_
  refine k_seq ?_
  refine c_seq ?_
  refine c_region ?_
  refine s_val hS (by decide) rfl rfl (r_move hS rfl) ?_; clear hS; intro a hS
  refine s_fresh hS hM (by decide) rfl (numbers_ok _ _ _ _ (hM.block (j := 1) rfl)) ?_; clear hS hM; intro a w v9 L9 ho9 hS hM
  have hr9 := ho9.rdFront hM; replace hM := hM.forget ho9.ge
  refine s_copy hS hM (by decide) rfl rfl Try.underlying22 sz5 (j := 0) rfl hr9 (fun _ _ => rfl) (by simp only [cells_len]; omega) ?_; clear hS hM; intro a w hS hM
  replace hM : Mem w0 w (⟨b7, 5, splice (cB 200 (fun _ => 0)) 0 (cells (min 64 200) (fun i => B (flatB HS.zero.s i)))⟩ :: _) := hM
  rw [mid_s1] at hM
  refine s_nil ?_
  refine k_seq ?_
  refine c_seq ?_
  refine c_gplan 6 (fun _ => [⟨b7, 5, cB 200 (mid1 HS.zero)⟩, ⟨b3, 56, hH true HS.zero⟩]) [(4, .slice (some ⟨b7, 0, none⟩) 200 200), (3, ptr b3 0), (2, .slice none 0 0)] (fun i V Bl => match i with | 0 => V 0 = .slice (some ⟨b7, 0, none⟩) 200 200 ∧ Bl 0 = [] | 1 => V 1 = .slice (some ⟨b7, 0 + 64, none⟩) (200 - 64) (200 - 64) ∧ Bl 1 = [] | 2 => V 2 = ptr b3 9 ∧ Bl 2 = [] | 3 => V 3 = N HS.zero.n ∧ Bl 3 = [] | 4 => V 4 = U (BitVec.ofNat 64 HS.zero.n) ∧ Bl 4 = [] | 5 => Own w0.heap.size 5 (V 5) (cB 8 (be (BitVec.ofNat 64 HS.zero.n))) (Bl 5) | _ => True) (by kernel_rfl) (by kernel_rfl) hS ⟨rfl, rfl, rfl, trivial⟩ hM ?_ ?_
  · clear hS hM
    refine ⟨?_, ?_, ?_, ?_, ?_, ?_, trivial⟩
    · intro S V Bl X a w hp hs hR hX hS hM hn
      replace hS := hS.to [(4, .slice (some ⟨b7, 0, none⟩) 200 200)] ⟨rfl, trivial⟩
      have hM0 := hM; replace hM := hM0.dropApp hn
      exact gy_val rfl (r_move hS rfl) ⟨⟨rfl, rfl⟩, (fun _ h => by cases h), hM0⟩
    · intro S V Bl X a w hp hs hR hX hS hM hn
      have h0 : V 0 = .slice (some ⟨b7, 0, none⟩) 200 200 := (hR 0 rfl).1
      replace hS := hS.to [(11, .slice (some ⟨b7, 0, none⟩) 200 200)] ⟨congrArg some h0, trivial⟩
      have hM0 := hM; replace hM := hM0.dropApp hn
      exact gy_val rfl (r_sliceO hS rfl Try.underlying22 sz5 ⟨_, (show ev _ _ = some (.int .i64 ((64 : Nat) : Int)) from rfl)⟩ rfl (by decide) (by decide) (by decide)) ⟨⟨rfl, rfl⟩, (fun _ h => by cases h), hM0⟩
    · intro S V Bl X a w hp hs hR hX hS hM hn
      replace hS := hS.to [(3, ptr b3 0)] ⟨rfl, trivial⟩
      have hM0 := hM; replace hM := hM0.dropApp hn
      exact gy_val rfl (r_field0 hS rfl Try.underlying56 rfl (s := 0) sz3 (k := 9) rfl) ⟨⟨rfl, rfl⟩, (fun _ h => by cases h), hM0⟩
    · intro S V Bl X a w hp hs hR hX hS hM hn
      have h2 : V 2 = ptr b3 9 := (hR 2 rfl).1
      replace hS := hS.to [(13, ptr b3 9)] ⟨congrArg some h2, trivial⟩
      have hM0 := hM; replace hM := hM0.dropApp hn
      exact gy_val rfl (r_load hS hM rfl (j := 1) rfl Try.underlying3 rfl (hH_n _ _)) ⟨⟨rfl, rfl⟩, (fun _ h => by cases h), hM0⟩
    · intro S V Bl X a w hp hs hR hX hS hM hn
      have h3 : V 3 = N HS.zero.n := (hR 3 rfl).1
      replace hS := hS.to [(14, N HS.zero.n)] ⟨congrArg some h3, trivial⟩
      have hM0 := hM; replace hM := hM0.dropApp hn
      exact gy_val rfl (r_conv hS rfl (by kernel_rfl) Try.underlying24 (cv_NU _)) ⟨⟨rfl, rfl⟩, (fun _ h => by cases h), hM0⟩
    · intro S V Bl X a w hp hs hR hX hS hM hn
      have h4 : V 4 = U (BitVec.ofNat 64 HS.zero.n) := (hR 4 rfl).1
      replace hS := hS.to [(15, U (BitVec.ofNat 64 HS.zero.n))] ⟨congrArg some h4, trivial⟩
      have hM0 := hM; replace hM := hM0.dropApp hn
      exact gy_fresh hS rfl (eight_ok _ _) hM0 fun v Lx w' ho hM' => ⟨ho, ho.ge, hM'⟩
  clear hS hM; intro V Bl a w hR hN hS hM
  have ho16 : Own w0.heap.size 5 (V 5) (cB 8 (be (BitVec.ofNat 64 HS.zero.n))) (Bl 5) := hR 5 (by decide)
  obtain ⟨v0, B0⟩ : V 0 = .slice (some ⟨b7, 0, none⟩) 200 200 ∧ Bl 0 = [] := hR 0 (by decide)
  obtain ⟨v1, B1⟩ : V 1 = .slice (some ⟨b7, 0 + 64, none⟩) (200 - 64) (200 - 64) ∧ Bl 1 = [] := hR 1 (by decide)
  obtain ⟨v2, B2⟩ : V 2 = ptr b3 9 ∧ Bl 2 = [] := hR 2 (by decide)
  obtain ⟨v3, B3⟩ : V 3 = N HS.zero.n ∧ Bl 3 = [] := hR 3 (by decide)
  obtain ⟨v4, B4⟩ : V 4 = U (BitVec.ofNat 64 HS.zero.n) ∧ Bl 4 = [] := hR 4 (by decide)
  replace hS := hS.to [(11, .slice (some ⟨b7, 0, none⟩) 200 200), (12, .slice (some ⟨b7, 0 + 64, none⟩) (200 - 64) (200 - 64)), (13, ptr b3 9), (14, N HS.zero.n), (15, U (BitVec.ofNat 64 HS.zero.n)), (16, V 5), (4, .slice (some ⟨b7, 0, none⟩) 200 200), (3, ptr b3 0), (2, .slice none 0 0)] ⟨congrArg some v0, congrArg some v1, congrArg some v2, congrArg some v3, congrArg some v4, rfl, rfl, rfl, rfl, trivial⟩
  replace hM := hM.congr (L' := Bl 5 ++ [⟨b7, 5, cB 200 (mid1 HS.zero)⟩, ⟨b3, 56, hH true HS.zero⟩]) (by show (Bl 0 ++ (Bl 1 ++ (Bl 2 ++ (Bl 3 ++ (Bl 4 ++ (Bl 5 ++ ([]))))))) ++ _ = _; rw [B0, B1, B2, B3, B4]; simp only [List.nil_append, List.append_nil])
  clear hR hN v0 B0 v1 B1 v2 B2 v3 B3 v4 B4; generalize V 5 = v16 at *; generalize Bl 5 = L16 at *; clear V Bl
  have hr16 := ho16.rdFront hM; replace hM := hM.forget ho16.ge
  refine s_copy hS hM (by decide) rfl rfl Try.underlying22 sz5 (j := 0) rfl hr16 (fun _ _ => rfl) (by simp only [cells_len]; decide) ?_; clear hS hM; intro a w hS hM
  replace hM : Mem w0 w (⟨b7, 5, splice (cB 200 (mid1 HS.zero)) 64 (cells (min 8 136) (fun i => B (be (BitVec.ofNat 64 HS.zero.n) i)))⟩ :: _) := hM
  rw [mid_s2] at hM
  refine s_nil ?_
  refine k_seq ?_
  refine c_seq ?_
  refine c_plan 7 (fun w => Mem w0 w _) [(4, _), (3, _), (2, _)] (by kernel_rfl) (by kernel_rfl) hS ⟨rfl, rfl, rfl, trivial⟩ (hM.drawn _) ?_; clear hS hM
  refine p_step rfl (fun a w hS hM => y_val rfl (r_move hS rfl)) ?_
  refine p_step rfl (fun a w hS hM => y_val rfl (r_sliceO hS rfl Try.underlying22 sz5 ⟨_, (show ev _ _ = some (.int .i64 ((72 : Nat) : Int)) from rfl)⟩ rfl (by decide) (by decide) (by decide))) ?_
  refine p_step rfl (fun a w hS hM => y_val rfl (r_field0 hS rfl Try.underlying56 rfl (s := 127) sz54 (k := 10) rfl)) ?_
  refine p_step rfl (fun a w hS hM => y_val rfl (r_field0 hS rfl Try.underlying56 rfl (s := 0) sz3 (k := 9) rfl)) ?_
  refine p_step rfl (fun a w hS hM => y_val rfl (r_load hS hM rfl (j := 1) rfl Try.underlying3 rfl (hH_n _ _))) ?_
  refine p_step rfl (fun a w hS hM => y_val rfl (r_bv hS rfl (show ev _ _ = some (N 128) from rfl) gN (b_remN _ _ _ (by omega)))) ?_
  refine p_step rfl (fun a w hS hM => y_val rfl (r_sliceP hS rfl Try.underlying54 sz5 rfl ⟨_, (show ev _ _ = some (.int .i64 ((HS.zero.n % 128 : Nat) : Int)) from rfl)⟩ (Nat.zero_le _) (Nat.le_of_lt (Nat.mod_lt _ (by decide))) (by decide))) ?_
  refine p_nil rfl ?_; intro a w hS hM
  refine s_copy hS hM (by decide) rfl rfl Try.underlying22 sz5 (j := 0) rfl (hC_rd hM (j := 1) (m := HS.zero.n % 128) rfl (Nat.le_of_lt (Nat.mod_lt _ (by decide)))) (fun _ _ => rfl) (by simp only [cells_len]; omega) ?_; clear hS hM; intro a w hS hM
  replace hM : Mem w0 w (⟨b7, 5, splice (cB 200 (mid2 HS.zero)) 72 (cells (min (HS.zero.n % 128) 128) (fun i => B (HS.zero.w i)))⟩ :: _) := hM
  rw [mid_s3] at hM
  refine s_nil ?_
  refine k_seq ?_
  refine c_seq ?_
  refine c_region ?_
  refine s_val hS (by decide) rfl rfl (r_move hS rfl) ?_; clear hS; intro a hS
  refine s_val hS (by decide) rfl rfl (r_assign hS rfl) ?_; clear hS; intro a hS
  refine s_nil ?_
  refine k_seq ?_
  refine c_ret ?_
  exact k_res1 hS rfl (RV.tmp rfl) (newrow_end hb7 ((Mem.swap (X := [_]) (Y := [_]) hM).drop hb3))
end Go.Proofs.Ytfojllcccncdbaa
