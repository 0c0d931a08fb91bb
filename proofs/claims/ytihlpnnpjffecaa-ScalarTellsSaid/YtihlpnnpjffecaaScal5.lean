/- The walks through the laws of chapter 11. Printed by a program of mine (walk.py). -/
import Derived.Test.YtihlpnnpjffecaaScal3
import Derived.Test.YtihlpnnpjffecaaScal4
namespace Go.Proofs.Ytihlpnnpjffecaa
open Go Go.Sym

theorem canon_red (n : Nat) (w0 : World) : Pure Try.prog 15 #[.agg (cB 32 (byt (n % ordL))).toArray] w0 (.bool true) := by
  have := canonical_ok (byt (n % ordL)) w0
  rwa [canon_red_lt] at this
theorem canon_not (w0 : World) : Pure Try.prog 15 #[.agg (cB 32 (byt ordL)).toArray] w0 (.bool false) := by
  have := canonical_ok (byt ordL) w0
  rwa [canon_ord] at this
theorem sz29 : (Try.prog.info? 29).map (·.size) = some 64 := by kernel_rfl
theorem zero29 : Zero Try.prog 29 (cB 64 (fun _ => 0)) := fun _ => by kernel_rfl
theorem bconst22_1 (w : World) : (Instr.build 22 ([(0, B 1#8)] : List (Nat × Value)).toArray).run Try.prog w = .ok (.agg (cB 32 (byt 1)).toArray) w := by kernel_rfl
theorem bconst22_2 (w : World) : (Instr.build 22 ([(0, B 2#8)] : List (Nat × Value)).toArray).run Try.prog w = .ok (.agg (cB 32 (byt 2)).toArray) w := by kernel_rfl
theorem bconst22_3 (w : World) : (Instr.build 22 ([(0, B 3#8)] : List (Nat × Value)).toArray).run Try.prog w = .ok (.agg (cB 32 (byt 3)).toArray) w := by kernel_rfl

set_option maxRecDepth 100000 in
theorem risScalar_ok (f : Nat → BitVec 8) (w0 : World) : Pure Try.prog 18 #[.agg (cB 32 f).toArray] w0 (.bool (decide (natB f 32 < ordL))) := by
  refine ⟨by kernel_rfl, ?_⟩
  refine calls_sym Try.func18 rfl (by kernel_rfl) ?_
  intro a hS
  have hM : Mem w0 w0 [] := Mem.refl w0
  refine c_seq ?_
  refine c_region ?_
  refine s_box hS hM (by decide) rfl rfl ?_; clear hS hM; intro a b1 w hb1 hS hM
  refine s_val hS (by decide) rfl rfl (r_assign hS rfl) ?_; clear hS; intro a hS
  refine s_nil ?_
  refine k_seq ?_
  refine c_seq ?_
  refine c_gplan 5 (fun _ => [⟨b1, 22, cB 32 f⟩]) [(1, ptr b1 0)] (fun i V Bl => match i with | 0 => V 0 = .slice (some ⟨b1, 0, none⟩) 32 32 ∧ Bl 0 = [] | 1 => ∃ b, V 1 = .slice (some ⟨b, 0, none⟩) 34 34 ∧ Bl 1 = [⟨b, 2, cI 34 (dig (natB f 32))⟩] | 2 => V 2 = .agg (cB 32 (byt (natB f 32 % ordL))).toArray ∧ Bl 2 = [] | 3 => V 3 = .agg (cB 32 f).toArray ∧ Bl 3 = [] | 4 => V 4 = .bool (eqR 32 (byt (natB f 32 % ordL)) f) ∧ Bl 4 = [] | _ => True) (by kernel_rfl) (by kernel_rfl) hS ⟨rfl, trivial⟩ hM ?_ ?_
  · clear hS hM
    refine ⟨?_, ?_, ?_, ?_, ?_, trivial⟩
    · intro S V Bl X a w hp hs hR hX hS hM hn
      exact gy_val rfl (r_sliceA0 hS rfl Try.underlying22 sz5) ⟨⟨rfl, rfl⟩, (fun _ h => by cases h), hM⟩
    · intro S V Bl X a w hp hs hR hX hS hM hn
      have h0 : V 0 = .slice (some ⟨b1, 0, none⟩) 32 32 := (hR 0 rfl).1
      replace hS := hS.to [(3, .slice (some ⟨b1, 0, none⟩) 32 32)] ⟨congrArg some h0, trivial⟩
      exact gy_newrow hS rfl (digits_ok _ (rd_row (hM.dropApp hn) (j := 0) rfl) (by decide)) hM fun b w' hb hM' => ⟨⟨b, rfl, rfl⟩, (fun e he => by simp only [List.mem_singleton] at he; subst he; exact hb), hM'⟩
    · intro S V Bl X a w hp hs hR hX hS hM hn
      obtain ⟨b, h1, h1b⟩ : ∃ b, V 1 = .slice (some ⟨b, 0, none⟩) 34 34 ∧ Bl 1 = [⟨b, 2, cI 34 (dig (natB f 32))⟩] := hR 1 rfl
      replace hS := hS.to [(4, .slice (some ⟨b, 0, none⟩) 34 34)] ⟨congrArg some h1, trivial⟩
      have hm := hX 1 rfl ⟨b, 2, cI 34 (dig (natB f 32))⟩ (by rw [h1b]; exact List.mem_singleton.2 rfl)
      exact gy_pure hS rfl (modulo_ok _ (rd_of hM (List.mem_append_left _ hm)) (natB_pd f (by decide))) hM fun w' hM' => ⟨⟨rfl, rfl⟩, (fun _ h => by cases h), hM'⟩
    · intro S V Bl X a w hp hs hR hX hS hM hn
      exact gy_val rfl (r_loadAll hS (hM.dropApp hn) rfl (j := 0) rfl Try.underlying22 rfl sz22 cells_len) ⟨⟨rfl, rfl⟩, (fun _ h => by cases h), hM⟩
    · intro S V Bl X a w hp hs hR hX hS hM hn
      have h2 : V 2 = .agg (cB 32 (byt (natB f 32 % ordL))).toArray := (hR 2 rfl).1
      have h3 : V 3 = .agg (cB 32 f).toArray := (hR 3 rfl).1
      replace hS := hS.to [(5, .agg (cB 32 (byt (natB f 32 % ordL))).toArray), (6, .agg (cB 32 f).toArray)] ⟨congrArg some h2, congrArg some h3, trivial⟩
      exact gy_val rfl (r_eqlB hS rfl rfl (by kernel_rfl) Try.underlying22 Try.underlying5 sz5) ⟨⟨rfl, rfl⟩, (fun _ h => by cases h), hM⟩
  clear hS hM; intro V Bl a w hR hN hS hM
  have v4 : V 4 = .bool (eqR 32 (byt (natB f 32 % ordL)) f) := (hR 4 (by decide)).1
  replace hS := hS.to [(7, .bool (decide (natB f 32 < ordL)))] ⟨congrArg some (by rw [v4, isScalar_eq]), trivial⟩
  replace hM : Mem w0 w [⟨b1, 22, cB 32 f⟩] := hM.dropApp (fun e he => by obtain ⟨i, hi, he⟩ := List.mem_flatMap.1 he; exact hN i (List.mem_range.1 hi) e he)
  clear hR hN v4
  refine s_val hS (by decide) rfl rfl (r_assign hS rfl) ?_; clear hS; intro a hS
  refine s_nil ?_
  refine k_seq ?_
  refine c_ret ?_
  exact k_res1 hS rfl (RV.tmp rfl) ⟨rfl, hM.done ⟨hb1, trivial⟩⟩

set_option maxRecDepth 100000 in
theorem wide_ok (f g : Nat → BitVec 8) (w0 : World) : Pure Try.prog 13 #[.agg (cB 32 f).toArray, .agg (cB 32 g).toArray] w0 (.agg (cB 64 (wTo f g 32)).toArray) := by
  refine ⟨by kernel_rfl, ?_⟩
  refine calls_sym Try.func13 rfl (by kernel_rfl) ?_
  intro a hS
  have hM : Mem w0 w0 [] := Mem.refl w0
  refine c_seq ?_
  refine c_region ?_
  refine s_box hS hM (by decide) rfl rfl ?_; clear hS hM; intro a b2 w hb2 hS hM
  refine s_box hS hM (by decide) rfl rfl ?_; clear hS hM; intro a b3 w hb3 hS hM
  refine s_alloc hS hM (by decide) zero29 ?_; clear hS hM; intro a b4 w hb4 hS hM
  refine s_nil ?_
  refine k_seq ?_
  refine c_seq ?_
  refine c_region ?_
  refine s_val hS (by decide) rfl rfl (r_build hS rfl (cs := cB 64 (fun _ => 0)) (fun _ => by kernel_rfl)) ?_; clear hS; intro a hS
  refine s_alloc hS hM (by decide) zero29 ?_; clear hS hM; intro a b5 w hb5 hS hM
  refine s_storeAll hS hM rfl rfl (j := 0) rfl sz29 cells_len cells_len cB_one ?_; clear hS hM; intro a w hS hM
  refine s_nil ?_
  refine k_seq ?_
  refine c_seq ?_
  refine c_seq ?_
  refine c_region ?_
  refine s_val hS (by decide) rfl rfl (r_assign hS (show ev _ _ = some (N 0) from rfl)) ?_; clear hS; intro a hS
  refine s_nil ?_
  refine k_seq ?_
  refine c_block ?_
  refine c_loop (σ := Nat) (fun k a w => (k ≤ 32) ∧ Slots a 24 (env [(2, ptr b2 0), (3, ptr b3 0), (4, ptr b4 0), (5, ptr b5 0), (6, N k)]) ∧ Mem w0 w ([⟨b5, 29, cB 64 (wTo f g k)⟩, ⟨b4, 29, cB 64 (fun _ => 0)⟩, ⟨b3, 22, cB 32 g⟩, ⟨b2, 22, cB 32 f⟩])) (fun k => 32 - k) (0) ⟨by omega, hS.to _ ⟨rfl, rfl, rfl, rfl, rfl, trivial⟩, (by rw [wTo_zero]; exact hM)⟩ ?_
  clear hS hM; rintro k a w ⟨hk, hS, hM⟩
  refine c_seq ?_
  refine c_seq ?_
  refine c_region ?_
  refine s_val hS (by decide) rfl rfl (r_move hS rfl) ?_; clear hS; intro a hS
  refine s_val hS (by decide) rfl rfl (r_bv hS rfl (show ev _ _ = some (N 32) from rfl) gN (b_lssN _ _ _)) ?_; clear hS; intro a hS
  refine s_nil ?_
  refine k_seq ?_
  refine c_cond hS rfl (fun hc => ?_) (fun hc => ?_)
  · have hk1 := of_decide_eq_true hc
    refine c_skip ?_
    refine k_seq ?_
    refine c_seq ?_
    refine c_block ?_
    refine c_seq ?_
    refine c_region ?_
    refine s_val hS (by decide) rfl rfl (r_move hS rfl) ?_; clear hS; intro a hS
    refine s_val hS (by decide) rfl rfl (r_move hS rfl) ?_; clear hS; intro a hS
    refine s_val hS (by decide) rfl rfl (r_index0 hS rfl rfl Try.underlying22 sz5 (by omega)) ?_; clear hS; intro a hS
    refine s_val hS (by decide) rfl rfl (r_load hS hM rfl (j := 3) rfl Try.underlying5 rfl (cells_get (by omega))) ?_; clear hS; intro a hS
    refine s_val hS (by decide) rfl rfl (r_index0 hS rfl rfl Try.underlying29 sz5 (by omega)) ?_; clear hS; intro a hS
    refine s_storeB hS hM rfl rfl (j := 0) rfl sz5 (by omega) ?_; clear hS hM; intro a w hS hM
    refine s_nil ?_
    refine k_seq ?_
    refine c_region ?_
    refine s_val hS (by decide) rfl rfl (r_move hS rfl) ?_; clear hS; intro a hS
    refine s_val hS (by decide) rfl rfl (r_bv hS (show ev _ _ = some (N 32) from rfl) rfl gN (b_addN _ _ _ (by omega))) ?_; clear hS; intro a hS
    refine s_val hS (by decide) rfl rfl (r_move hS rfl) ?_; clear hS; intro a hS
    refine s_val hS (by decide) rfl rfl (r_index0 hS rfl rfl Try.underlying22 sz5 (by omega)) ?_; clear hS; intro a hS
    refine s_val hS (by decide) rfl rfl (r_load hS hM rfl (j := 2) rfl Try.underlying5 rfl (cells_get (by omega))) ?_; clear hS; intro a hS
    refine s_val hS (by decide) rfl rfl (r_index0 hS rfl rfl Try.underlying29 sz5 (by omega)) ?_; clear hS; intro a hS
    refine s_storeB hS hM rfl rfl (j := 0) rfl sz5 (by omega) ?_; clear hS hM; intro a w hS hM
    refine s_nil ?_
    refine k_in ?_
    refine k_seq ?_
    refine c_region ?_
    refine s_val hS (by decide) rfl rfl (r_move hS rfl) ?_; clear hS; intro a hS
    refine s_val hS (by decide) rfl rfl (r_bv hS rfl (show ev _ _ = some (N 1) from rfl) gN (b_addN _ _ _ (by omega))) ?_; clear hS; intro a hS
    refine s_val hS (by decide) rfl rfl (r_assign hS rfl) ?_; clear hS; intro a hS
    refine s_nil ?_
    refine k_then ?_
    refine ⟨k + 1, by omega, by omega, hS.to _ ⟨rfl, rfl, rfl, rfl, rfl, trivial⟩, (hM.congr (by rw [← wTo_step f g k hk1]; rfl))⟩
  · obtain rfl : k = 32 := (by have := of_decide_eq_false hc; omega)
    refine c_exit ?_
    refine k_thenx ?_
    refine k_thenx ?_
    refine k_inx ?_
    refine k_seq ?_
    refine c_seq ?_
    refine c_region ?_
    refine s_val hS (by decide) rfl rfl (r_loadAll hS hM rfl (j := 0) rfl Try.underlying29 rfl sz29 cells_len) ?_; clear hS; intro a hS
    refine s_storeAll hS hM rfl rfl (j := 1) rfl sz29 cells_len cells_len cB_one ?_; clear hS hM; intro a w hS hM
    refine s_nil ?_
    refine k_seq ?_
    refine c_ret ?_
    exact k_res1 hS rfl (RV.row rfl (hM.have_ _ (mem_of_get (j := 1) rfl)) Try.underlying29 rfl (by rw [sz29]; exact congrArg some cells_len.symm)) ⟨rfl, hM.done ⟨hb5, hb4, hb3, hb2, trivial⟩⟩

set_option maxRecDepth 100000 in
theorem alive11_ok  (w0 : World) : Pure Try.prog 8 #[] w0 (.bool true) := by
  refine ⟨by kernel_rfl, ?_⟩
  refine calls_sym Try.func8 rfl (by kernel_rfl) ?_
  intro a hS
  have hM : Mem w0 w0 [] := Mem.refl w0
  refine c_seq ?_
  refine c_region ?_
  refine s_val hS (by decide) rfl rfl (r_assign hS rfl) ?_; clear hS; intro a hS
  refine s_nil ?_
  refine k_seq ?_
  refine c_seq ?_
  refine c_region ?_
  refine s_val hS (by decide) rfl rfl (r_build hS rfl (cs := cB 64 (fun _ => 0)) (fun _ => by kernel_rfl)) ?_; clear hS; intro a hS
  refine s_alloc hS hM (by decide) zero29 ?_; clear hS hM; intro a b1 w hb1 hS hM
  refine s_storeAll hS hM rfl rfl (j := 0) rfl sz29 cells_len cells_len cB_one ?_; clear hS hM; intro a w hS hM
  refine s_nil ?_
  refine k_seq ?_
  refine c_seq ?_
  refine c_region ?_
  refine s_pure hS hM (by decide) rfl (Order_ok _) ?_; clear hS hM; intro a w hS hM
  refine s_alloc hS hM (by decide) zero22 ?_; clear hS hM; intro a b2 w hb2 hS hM
  refine s_storeAll hS hM rfl rfl (j := 0) rfl sz22 cells_len cells_len cB_one ?_; clear hS hM; intro a w hS hM
  refine s_nil ?_
  refine k_seq ?_
  refine c_seq ?_
  refine c_seq ?_
  refine c_region ?_
  refine s_val hS (by decide) rfl rfl (r_assign hS (show ev _ _ = some (N 0) from rfl)) ?_; clear hS; intro a hS
  refine s_nil ?_
  refine k_seq ?_
  refine c_block ?_
  refine c_loop (σ := Nat) (fun k a w => (k ≤ 32) ∧ Slots a 31 (env [(1, ptr b1 0), (2, ptr b2 0), (3, N k)]) ∧ Mem w0 w ([⟨b2, 22, cB 32 (byt ordL)⟩, ⟨b1, 29, cB 64 (fil 0 (byt ordL) k)⟩])) (fun k => 32 - k) (0) ⟨by omega, hS.to _ ⟨rfl, rfl, rfl, trivial⟩, hM⟩ ?_
  clear hS hM; rintro k a w ⟨hk, hS, hM⟩
  refine c_seq ?_
  refine c_seq ?_
  refine c_region ?_
  refine s_val hS (by decide) rfl rfl (r_move hS rfl) ?_; clear hS; intro a hS
  refine s_val hS (by decide) rfl rfl (r_bv hS rfl (show ev _ _ = some (N 32) from rfl) gN (b_lssN _ _ _)) ?_; clear hS; intro a hS
  refine s_nil ?_
  refine k_seq ?_
  refine c_cond hS rfl (fun hc => ?_) (fun hc => ?_)
  · have hk1 := of_decide_eq_true hc
    refine c_skip ?_
    refine k_seq ?_
    refine c_seq ?_
    refine c_block ?_
    refine c_region ?_
    refine s_val hS (by decide) rfl rfl (r_move hS rfl) ?_; clear hS; intro a hS
    refine s_val hS (by decide) rfl rfl (r_move hS rfl) ?_; clear hS; intro a hS
    refine s_val hS (by decide) rfl rfl (r_index0 hS rfl rfl Try.underlying22 sz5 (by omega)) ?_; clear hS; intro a hS
    refine s_val hS (by decide) rfl rfl (r_load hS hM rfl (j := 0) rfl Try.underlying5 rfl (cells_get (by omega))) ?_; clear hS; intro a hS
    refine s_val hS (by decide) rfl rfl (r_index0 hS rfl rfl Try.underlying29 sz5 (by omega)) ?_; clear hS; intro a hS
    refine s_storeB hS hM rfl rfl (j := 1) rfl sz5 (by omega) ?_; clear hS hM; intro a w hS hM
    refine s_nil ?_
    refine k_in ?_
    refine k_seq ?_
    refine c_region ?_
    refine s_val hS (by decide) rfl rfl (r_move hS rfl) ?_; clear hS; intro a hS
    refine s_val hS (by decide) rfl rfl (r_bv hS rfl (show ev _ _ = some (N 1) from rfl) gN (b_addN _ _ _ (by omega))) ?_; clear hS; intro a hS
    refine s_val hS (by decide) rfl rfl (r_assign hS rfl) ?_; clear hS; intro a hS
    refine s_nil ?_
    refine k_then ?_
    refine ⟨k + 1, by omega, by omega, hS.to _ ⟨rfl, rfl, rfl, trivial⟩, hM⟩
  · obtain rfl : k = 32 := (by have := of_decide_eq_false hc; omega)
    refine c_exit ?_
    refine k_thenx ?_
    refine k_thenx ?_
    refine k_inx ?_
    refine k_seq ?_
    refine c_seq ?_
    refine c_region ?_
    refine s_val hS (by decide) rfl rfl (r_loadAll hS hM rfl (j := 1) rfl Try.underlying29 rfl sz29 cells_len) ?_; clear hS; intro a hS
    refine s_pure hS hM (by decide) rfl (reduce_ok _ _) ?_; clear hS hM; intro a w hS hM
    refine s_val hS (by decide) rfl rfl (r_build hS rfl (cs := cB 32 (fun _ => 0)) (fun _ => by kernel_rfl)) ?_; clear hS; intro a hS
    refine s_val hS (by decide) rfl rfl (r_eqlBt hS rfl rfl (by kernel_rfl) Try.underlying22 Try.underlying5 sz5 alive_red) ?_; clear hS; intro a hS
    refine s_val hS (by decide) rfl rfl (r_move hS rfl) ?_; clear hS; intro a hS
    refine s_valg hS (by decide) rfl rfl rfl rfl rfl (r_index0 hS rfl (show ev _ _ = some (.int .i64 ((0 : Nat) : Int)) from rfl) Try.underlying22 sz5 (by decide)) ?_; clear hS; intro a hS
    refine s_valg hS (by decide) rfl rfl rfl rfl rfl (r_load hS hM rfl (j := 0) rfl Try.underlying5 rfl (cells_get (by omega))) ?_; clear hS; intro a hS
    refine s_valg hS (by decide) rfl rfl rfl rfl rfl (r_bv hS rfl (show ev _ _ = some (B 237#8) from rfl) gB (b_eqlBt (by decide))) ?_; clear hS; intro a hS
    refine s_val hS (by decide) rfl rfl (r_pick hS rfl rfl) ?_; clear hS; intro a hS
    refine s_val hS (by decide) rfl rfl (r_move hS rfl) ?_; clear hS; intro a hS
    refine s_valg hS (by decide) rfl rfl rfl rfl rfl (r_build hS (vs := [(0, B 1#8)]) rfl bconst22_1) ?_; clear hS; intro a hS
    refine s_valg hS (by decide) rfl rfl rfl rfl rfl (r_build hS (vs := [(0, B 2#8)]) rfl bconst22_2) ?_; clear hS; intro a hS
    refine s_pureg hS hM (by decide) rfl rfl rfl rfl (add_ok _ _ _) ?_; clear hS hM; intro a w hS hM
    refine s_valg hS (by decide) rfl rfl rfl rfl rfl (r_build hS (vs := [(0, B 3#8)]) rfl bconst22_3) ?_; clear hS; intro a hS
    refine s_valg hS (by decide) rfl rfl rfl rfl rfl (r_eqlBt hS rfl rfl (by kernel_rfl) Try.underlying22 Try.underlying5 sz5 alive_sum) ?_; clear hS; intro a hS
    refine s_val hS (by decide) rfl rfl (r_pick hS rfl rfl) ?_; clear hS; intro a hS
    refine s_val hS (by decide) rfl rfl (r_assign hS rfl) ?_; clear hS; intro a hS
    refine s_nil ?_
    refine k_seq ?_
    refine c_ret ?_
    exact k_res1 hS rfl (RV.tmp rfl) ⟨rfl, hM.done ⟨hb2, hb1, trivial⟩⟩

set_option maxRecDepth 100000 in
theorem scalarBits_ok (w0 : World) (f : Nat → BitVec 8) : Pure Try.prog 3 #[.agg (cB 32 f).toArray] w0 (.bool true) := by
  refine ⟨by kernel_rfl, ?_⟩
  refine calls_sym Try.func3 rfl (by kernel_rfl) ?_
  intro a hS
  have hM : Mem w0 w0 [] := Mem.refl w0
  refine c_seq ?_
  refine c_region ?_
  refine s_box hS hM (by decide) rfl rfl ?_; clear hS hM; intro a b1 w hb1 hS hM
  refine s_val hS (by decide) rfl rfl (r_assign hS rfl) ?_; clear hS; intro a hS
  refine s_nil ?_
  refine k_seq ?_
  refine c_seq ?_
  refine c_region ?_
  refine s_pure hS hM (by decide) rfl (alive11_ok _) ?_; clear hS hM; intro a w hS hM
  refine s_val hS (by decide) rfl rfl (r_assign hS rfl) ?_; clear hS; intro a hS
  refine s_nil ?_
  refine k_seq ?_
  refine c_seq ?_
  refine c_region ?_
  refine s_val hS (by decide) rfl rfl (r_build hS rfl (cs := cB 32 (fun _ => 0)) (fun _ => by kernel_rfl)) ?_; clear hS; intro a hS
  refine s_alloc hS hM (by decide) zero22 ?_; clear hS hM; intro a b4 w hb4 hS hM
  refine s_storeAll hS hM rfl rfl (j := 0) rfl sz22 cells_len cells_len cB_one ?_; clear hS hM; intro a w hS hM
  refine s_nil ?_
  refine k_seq ?_
  refine c_seq ?_
  refine c_seq ?_
  refine c_region ?_
  refine s_val hS (by decide) rfl rfl (r_assign hS (show ev _ _ = some (N 255) from rfl)) ?_; clear hS; intro a hS
  refine s_nil ?_
  refine k_seq ?_
  refine c_block ?_
  refine c_loop (σ := Nat) (fun k a w => (k ≤ 256) ∧ Slots a 40 (env [(1, ptr b1 0), (3, .bool true), (4, ptr b4 0), (5, .int .i64 ((k : Int) - 1))]) ∧ Mem w0 w ([⟨b4, 22, cB 32 (byt (red (natB f 32) k))⟩, ⟨b1, 22, cB 32 f⟩])) (fun k => k) (256) ⟨by omega, hS.to _ ⟨rfl, rfl, rfl, rfl, trivial⟩, (by rw [bits_start, byt_zero]; exact hM)⟩ ?_
  clear hS hM; rintro k a w ⟨hk, hS, hM⟩
  refine c_seq ?_
  refine c_seq ?_
  refine c_region ?_
  refine s_val hS (by decide) rfl rfl (r_move hS rfl) ?_; clear hS; intro a hS
  refine s_val hS (by decide) rfl rfl (r_bv hS rfl (show ev _ _ = some (.int .i64 (0)) from rfl) gZ (b_geqZ _ _ _)) ?_; clear hS; intro a hS
  refine s_nil ?_
  refine k_seq ?_
  refine c_cond hS rfl (fun hc => ?_) (fun hc => ?_)
  · obtain ⟨i, rfl⟩ : ∃ i, k = i + 1 := (by have := of_decide_eq_true hc; exact ⟨k - 1, by omega⟩); replace hS := hS.to [(1, ptr b1 0), (3, .bool true), (4, ptr b4 0), (5, N i)] ⟨rfl, rfl, rfl, congrArg (fun z => some (Value.int .i64 z)) (by omega), trivial⟩
    refine c_skip ?_
    refine k_seq ?_
    refine c_seq ?_
    refine c_block ?_
    refine c_seq ?_
    refine c_region ?_
    refine s_val hS (by decide) rfl rfl (r_loadAll hS hM rfl (j := 0) rfl Try.underlying22 rfl sz22 cells_len) ?_; clear hS; intro a hS
    refine s_val hS (by decide) rfl rfl (r_loadAll hS hM rfl (j := 0) rfl Try.underlying22 rfl sz22 cells_len) ?_; clear hS; intro a hS
    refine s_pure hS hM (by decide) rfl (add_ok _ _ _) ?_; clear hS hM; intro a w hS hM
    refine s_storeAll hS hM rfl rfl (j := 0) rfl sz22 cells_len cells_len cB_one ?_; clear hS hM; intro a w hS hM
    refine s_nil ?_
    refine k_seq ?_
    refine c_seq ?_
    refine c_region ?_
    refine s_val hS (by decide) rfl rfl (r_loadAll hS hM rfl (j := 1) rfl Try.underlying22 rfl sz22 cells_len) ?_; clear hS; intro a hS
    refine s_val hS (by decide) rfl rfl (r_move hS rfl) ?_; clear hS; intro a hS
    refine s_pure hS hM (by decide) rfl (Bit_ok _ _ _) ?_; clear hS hM; intro a w hS hM
    refine s_val hS (by decide) rfl rfl (r_bv hS rfl (show ev _ _ = some (N 1) from rfl) gN (b_eqlN _ _ _)) ?_; clear hS; intro a hS
    refine s_nil ?_
    refine k_seq ?_
    refine c_cond hS rfl (fun hc => ?_) (fun hc => ?_)
    · have hc' := of_decide_eq_true hc
      refine c_region ?_
      refine s_val hS (by decide) rfl rfl (r_loadAll hS hM rfl (j := 0) rfl Try.underlying22 rfl sz22 cells_len) ?_; clear hS; intro a hS
      refine s_val hS (by decide) rfl rfl (r_build hS (vs := [(0, B 1#8)]) rfl bconst22_1) ?_; clear hS; intro a hS
      refine s_pure hS hM (by decide) rfl (add_ok _ _ _) ?_; clear hS hM; intro a w hS hM
      refine s_storeAll hS hM rfl rfl (j := 0) rfl sz22 cells_len cells_len cB_one ?_; clear hS hM; intro a w hS hM
      refine s_nil ?_
      refine k_in ?_
      refine k_seq ?_
      refine c_region ?_
      refine s_val hS (by decide) rfl rfl (r_move hS rfl) ?_; clear hS; intro a hS
      refine s_val hS (by decide) rfl rfl (r_bv hS rfl (show ev _ _ = some (.int .i64 (1)) from rfl) gZ (b_subZ _ _ _ (by omega))) ?_; clear hS; intro a hS
      refine s_val hS (by decide) rfl rfl (r_assign hS rfl) ?_; clear hS; intro a hS
      refine s_nil ?_
      refine k_then ?_
      refine ⟨i, by omega, by omega, hS.to _ ⟨rfl, rfl, rfl, rfl, trivial⟩, (hM.congr (by first | (rw [← bits_yes f (by omega) hc']; rfl) | (rw [← bits_no f (by omega) hc']; rfl)))⟩
    · have hc' := of_decide_eq_false hc
      refine c_skip ?_
      refine k_in ?_
      refine k_seq ?_
      refine c_region ?_
      refine s_val hS (by decide) rfl rfl (r_move hS rfl) ?_; clear hS; intro a hS
      refine s_val hS (by decide) rfl rfl (r_bv hS rfl (show ev _ _ = some (.int .i64 (1)) from rfl) gZ (b_subZ _ _ _ (by omega))) ?_; clear hS; intro a hS
      refine s_val hS (by decide) rfl rfl (r_assign hS rfl) ?_; clear hS; intro a hS
      refine s_nil ?_
      refine k_then ?_
      refine ⟨i, by omega, by omega, hS.to _ ⟨rfl, rfl, rfl, rfl, trivial⟩, (hM.congr (by first | (rw [← bits_yes f (by omega) hc']; rfl) | (rw [← bits_no f (by omega) hc']; rfl)))⟩
  · obtain rfl : k = 0 := (by have := of_decide_eq_false hc; omega); rw [bits_end] at hM
    refine c_exit ?_
    refine k_thenx ?_
    refine k_thenx ?_
    refine k_inx ?_
    refine k_seq ?_
    refine c_seq ?_
    refine c_plan 19 (fun w => Mem w0 w _) [(3, _), (4, _), (1, _)] (by kernel_rfl) (by kernel_rfl) hS ⟨rfl, rfl, rfl, trivial⟩ (hM.drawn _) ?_; clear hS hM
    refine p_step rfl (fun a w hS hM => y_val rfl (r_move hS rfl)) ?_
    refine p_step rfl (fun a w hS hM => y_val rfl (r_move hS rfl)) ?_
    refine p_step rfl (fun a w hS hM => y_valg hS rfl rfl rfl rfl (r_loadAll hS hM rfl (j := 0) rfl Try.underlying22 rfl sz22 cells_len)) ?_
    refine p_step rfl (fun a w hS hM => y_valg hS rfl rfl rfl rfl (r_loadAll hS hM rfl (j := 1) rfl Try.underlying22 rfl sz22 cells_len)) ?_
    refine p_step rfl (fun a w hS hM => y_valg hS rfl rfl rfl rfl (r_build hS rfl (cs := cB 32 (fun _ => 0)) (fun _ => by kernel_rfl))) ?_
    refine p_step rfl (fun a w hS hM => y_callg (by kernel_rfl) hS rfl rfl rfl rfl ((add_ok _ _ _).mem hM)) ?_
    refine p_step rfl (fun a w hS hM => y_valg hS rfl rfl rfl rfl (r_eqlBt hS rfl rfl (by kernel_rfl) Try.underlying22 Try.underlying5 sz5 (fun _ _ => rfl))) ?_
    refine p_step rfl (fun a w hS hM => y_val rfl (r_pick hS rfl rfl)) ?_
    refine p_step rfl (fun a w hS hM => y_val rfl (r_move hS rfl)) ?_
    refine p_step rfl (fun a w hS hM => y_valg hS rfl rfl rfl rfl (r_loadAll hS hM rfl (j := 1) rfl Try.underlying22 rfl sz22 cells_len)) ?_
    refine p_step rfl (fun a w hS hM => y_callg (by kernel_rfl) hS (vs := [_, .int .i64 (-1)]) rfl rfl rfl rfl ((Bit_ok _ _ _).mem hM)) ?_
    refine p_step rfl (fun a w hS hM => y_valg hS rfl rfl rfl rfl (r_bv hS rfl (show ev _ _ = some (N 0) from rfl) gN (b_eqlNt (bitZ_out (by omega))))) ?_
    refine p_step rfl (fun a w hS hM => y_val rfl (r_pick hS rfl rfl)) ?_
    refine p_step rfl (fun a w hS hM => y_val rfl (r_move hS rfl)) ?_
    refine p_step rfl (fun a w hS hM => y_valg hS rfl rfl rfl rfl (r_loadAll hS hM rfl (j := 1) rfl Try.underlying22 rfl sz22 cells_len)) ?_
    refine p_step rfl (fun a w hS hM => y_callg (by kernel_rfl) hS (vs := [_, N 256]) rfl rfl rfl rfl ((Bit_ok _ _ _).mem hM)) ?_
    refine p_step rfl (fun a w hS hM => y_valg hS rfl rfl rfl rfl (r_bv hS rfl (show ev _ _ = some (N 0) from rfl) gN (b_eqlNt (bitZ_out (by omega))))) ?_
    refine p_step rfl (fun a w hS hM => y_val rfl (r_pick hS rfl rfl)) ?_
    refine p_step rfl (fun a w hS hM => y_val rfl (r_assign hS rfl)) ?_
    refine p_nil rfl ?_; intro a w hS hM
    refine s_nil ?_
    refine k_seq ?_
    refine c_ret ?_
    exact k_res1 hS rfl (RV.tmp rfl) ⟨rfl, hM.done ⟨hb4, hb1, trivial⟩⟩

set_option maxRecDepth 100000 in
theorem scalarRing_ok (w0 : World) (f g h : Nat → BitVec 8) : Pure Try.prog 4 #[.agg (cB 32 f).toArray, .agg (cB 32 g).toArray, .agg (cB 32 h).toArray] w0 (.bool true) := by
  refine ⟨by kernel_rfl, ?_⟩
  refine calls_sym Try.func4 rfl (by kernel_rfl) ?_
  intro a hS
  have hM : Mem w0 w0 [] := Mem.refl w0
  refine c_seq ?_
  refine c_region ?_
  refine s_box hS hM (by decide) rfl rfl ?_; clear hS hM; intro a b3 w hb3 hS hM
  refine s_box hS hM (by decide) rfl rfl ?_; clear hS hM; intro a b4 w hb4 hS hM
  refine s_box hS hM (by decide) rfl rfl ?_; clear hS hM; intro a b5 w hb5 hS hM
  refine s_val hS (by decide) rfl rfl (r_assign hS rfl) ?_; clear hS; intro a hS
  refine s_nil ?_
  refine k_seq ?_
  refine c_seq ?_
  refine c_region ?_
  refine s_pure hS hM (by decide) rfl (alive11_ok _) ?_; clear hS hM; intro a w hS hM
  refine s_val hS (by decide) rfl rfl (r_assign hS rfl) ?_; clear hS; intro a hS
  refine s_nil ?_
  refine k_seq ?_
  refine c_seq ?_
  refine c_region ?_
  refine s_val hS (by decide) rfl rfl (r_build hS rfl (cs := cB 32 (fun _ => 0)) (fun _ => by kernel_rfl)) ?_; clear hS; intro a hS
  refine s_alloc hS hM (by decide) zero22 ?_; clear hS hM; intro a b8 w hb8 hS hM
  refine s_storeAll hS hM rfl rfl (j := 0) rfl sz22 cells_len cells_len cB_one ?_; clear hS hM; intro a w hS hM
  refine s_nil ?_
  refine k_seq ?_
  refine c_seq ?_
  refine c_region ?_
  refine s_val hS (by decide) rfl rfl (r_build hS (vs := [(0, B 1#8)]) rfl bconst22_1) ?_; clear hS; intro a hS
  refine s_alloc hS hM (by decide) zero22 ?_; clear hS hM; intro a b9 w hb9 hS hM
  refine s_storeAll hS hM rfl rfl (j := 0) rfl sz22 cells_len cells_len cB_one ?_; clear hS hM; intro a w hS hM
  refine s_nil ?_
  refine k_seq ?_
  refine c_seq ?_
  refine c_region ?_
  refine s_val hS (by decide) rfl rfl (r_loadAll hS hM rfl (j := 4) rfl Try.underlying22 rfl sz22 cells_len) ?_; clear hS; intro a hS
  refine s_val hS (by decide) rfl rfl (r_loadAll hS hM rfl (j := 3) rfl Try.underlying22 rfl sz22 cells_len) ?_; clear hS; intro a hS
  refine s_val hS (by decide) rfl rfl (r_loadAll hS hM rfl (j := 1) rfl Try.underlying22 rfl sz22 cells_len) ?_; clear hS; intro a hS
  refine s_pure hS hM (by decide) rfl (mulAdd_ok _ _ _ _) ?_; clear hS hM; intro a w hS hM
  refine s_alloc hS hM (by decide) zero22 ?_; clear hS hM; intro a b10 w hb10 hS hM
  refine s_storeAll hS hM rfl rfl (j := 0) rfl sz22 cells_len cells_len cB_one ?_; clear hS hM; intro a w hS hM
  refine s_nil ?_
  refine k_seq ?_
  refine c_seq ?_
  refine c_region ?_
  refine s_val hS (by decide) rfl rfl (r_loadAll hS hM rfl (j := 4) rfl Try.underlying22 rfl sz22 cells_len) ?_; clear hS; intro a hS
  refine s_val hS (by decide) rfl rfl (r_loadAll hS hM rfl (j := 3) rfl Try.underlying22 rfl sz22 cells_len) ?_; clear hS; intro a hS
  refine s_val hS (by decide) rfl rfl (r_loadAll hS hM rfl (j := 2) rfl Try.underlying22 rfl sz22 cells_len) ?_; clear hS; intro a hS
  refine s_pure hS hM (by decide) rfl (mulAdd_ok _ _ _ _) ?_; clear hS hM; intro a w hS hM
  refine s_alloc hS hM (by decide) zero22 ?_; clear hS hM; intro a b11 w hb11 hS hM
  refine s_storeAll hS hM rfl rfl (j := 0) rfl sz22 cells_len cells_len cB_one ?_; clear hS hM; intro a w hS hM
  refine s_nil ?_
  refine k_seq ?_
  refine c_seq ?_
  refine c_plan 66 (fun w => Mem w0 w _) [(7, _), (10, _), (4, _), (3, _), (8, _), (5, _), (11, _), (9, _)] (by kernel_rfl) (by kernel_rfl) hS ⟨rfl, rfl, rfl, rfl, rfl, rfl, rfl, rfl, trivial⟩ (hM.drawn _) ?_; clear hS hM
  refine p_step rfl (fun a w hS hM => y_val rfl (r_move hS rfl)) ?_
  refine p_step rfl (fun a w hS hM => y_val rfl (r_move hS rfl)) ?_
  refine p_step rfl (fun a w hS hM => y_valg hS rfl rfl rfl rfl (r_loadAll hS hM rfl (j := 1) rfl Try.underlying22 rfl sz22 cells_len)) ?_
  refine p_step rfl (fun a w hS hM => y_valg hS rfl rfl rfl rfl (r_loadAll hS hM rfl (j := 5) rfl Try.underlying22 rfl sz22 cells_len)) ?_
  refine p_step rfl (fun a w hS hM => y_valg hS rfl rfl rfl rfl (r_loadAll hS hM rfl (j := 6) rfl Try.underlying22 rfl sz22 cells_len)) ?_
  refine p_step rfl (fun a w hS hM => y_valg hS rfl rfl rfl rfl (r_loadAll hS hM rfl (j := 3) rfl Try.underlying22 rfl sz22 cells_len)) ?_
  refine p_step rfl (fun a w hS hM => y_callg (by kernel_rfl) hS rfl rfl rfl rfl ((mulAdd_ok _ _ _ _).mem hM)) ?_
  refine p_step rfl (fun a w hS hM => y_valg hS rfl rfl rfl rfl (r_eqlBt hS rfl rfl (by kernel_rfl) Try.underlying22 Try.underlying5 sz5 (fun i _ => congrFun (congrArg byt (ring1 f g)) i))) ?_
  refine p_step rfl (fun a w hS hM => y_val rfl (r_pick hS rfl rfl)) ?_
  refine p_step rfl (fun a w hS hM => y_val rfl (r_move hS rfl)) ?_
  refine p_step rfl (fun a w hS hM => y_valg hS rfl rfl rfl rfl (r_loadAll hS hM rfl (j := 1) rfl Try.underlying22 rfl sz22 cells_len)) ?_
  refine p_step rfl (fun a w hS hM => y_valg hS rfl rfl rfl rfl (r_loadAll hS hM rfl (j := 4) rfl Try.underlying22 rfl sz22 cells_len)) ?_
  refine p_step rfl (fun a w hS hM => y_valg hS rfl rfl rfl rfl (r_loadAll hS hM rfl (j := 3) rfl Try.underlying22 rfl sz22 cells_len)) ?_
  refine p_step rfl (fun a w hS hM => y_callg (by kernel_rfl) hS rfl rfl rfl rfl ((mulAdd_ok _ _ _ _).mem hM)) ?_
  refine p_step rfl (fun a w hS hM => y_valg hS rfl rfl rfl rfl (r_loadAll hS hM rfl (j := 6) rfl Try.underlying22 rfl sz22 cells_len)) ?_
  refine p_step rfl (fun a w hS hM => y_valg hS rfl rfl rfl rfl (r_loadAll hS hM rfl (j := 0) rfl Try.underlying22 rfl sz22 cells_len)) ?_
  refine p_step rfl (fun a w hS hM => y_valg hS rfl rfl rfl rfl (r_loadAll hS hM rfl (j := 3) rfl Try.underlying22 rfl sz22 cells_len)) ?_
  refine p_step rfl (fun a w hS hM => y_callg (by kernel_rfl) hS rfl rfl rfl rfl ((mulAdd_ok _ _ _ _).mem hM)) ?_
  refine p_step rfl (fun a w hS hM => y_valg hS rfl rfl rfl rfl (r_eqlBt hS rfl rfl (by kernel_rfl) Try.underlying22 Try.underlying5 sz5 (fun i _ => congrFun (congrArg byt (ring2 f g h)) i))) ?_
  refine p_step rfl (fun a w hS hM => y_val rfl (r_pick hS rfl rfl)) ?_
  refine p_step rfl (fun a w hS hM => y_val rfl (r_move hS rfl)) ?_
  refine p_step rfl (fun a w hS hM => y_valg hS rfl rfl rfl rfl (r_loadAll hS hM rfl (j := 6) rfl Try.underlying22 rfl sz22 cells_len)) ?_
  refine p_step rfl (fun a w hS hM => y_valg hS rfl rfl rfl rfl (r_loadAll hS hM rfl (j := 5) rfl Try.underlying22 rfl sz22 cells_len)) ?_
  refine p_step rfl (fun a w hS hM => y_valg hS rfl rfl rfl rfl (r_loadAll hS hM rfl (j := 4) rfl Try.underlying22 rfl sz22 cells_len)) ?_
  refine p_step rfl (fun a w hS hM => y_callg (by kernel_rfl) hS rfl rfl rfl rfl ((add_ok _ _ _).mem hM)) ?_
  refine p_step rfl (fun a w hS hM => y_valg hS rfl rfl rfl rfl (r_loadAll hS hM rfl (j := 3) rfl Try.underlying22 rfl sz22 cells_len)) ?_
  refine p_step rfl (fun a w hS hM => y_callg (by kernel_rfl) hS rfl rfl rfl rfl ((mulAdd_ok _ _ _ _).mem hM)) ?_
  refine p_step rfl (fun a w hS hM => y_valg hS rfl rfl rfl rfl (r_loadAll hS hM rfl (j := 1) rfl Try.underlying22 rfl sz22 cells_len)) ?_
  refine p_step rfl (fun a w hS hM => y_valg hS rfl rfl rfl rfl (r_loadAll hS hM rfl (j := 6) rfl Try.underlying22 rfl sz22 cells_len)) ?_
  refine p_step rfl (fun a w hS hM => y_valg hS rfl rfl rfl rfl (r_loadAll hS hM rfl (j := 4) rfl Try.underlying22 rfl sz22 cells_len)) ?_
  refine p_step rfl (fun a w hS hM => y_valg hS rfl rfl rfl rfl (r_loadAll hS hM rfl (j := 3) rfl Try.underlying22 rfl sz22 cells_len)) ?_
  refine p_step rfl (fun a w hS hM => y_callg (by kernel_rfl) hS rfl rfl rfl rfl ((mulAdd_ok _ _ _ _).mem hM)) ?_
  refine p_step rfl (fun a w hS hM => y_callg (by kernel_rfl) hS rfl rfl rfl rfl ((add_ok _ _ _).mem hM)) ?_
  refine p_step rfl (fun a w hS hM => y_valg hS rfl rfl rfl rfl (r_eqlBt hS rfl rfl (by kernel_rfl) Try.underlying22 Try.underlying5 sz5 (fun i _ => congrFun (congrArg byt (ring3 f g h)) i))) ?_
  refine p_step rfl (fun a w hS hM => y_val rfl (r_pick hS rfl rfl)) ?_
  refine p_step rfl (fun a w hS hM => y_val rfl (r_move hS rfl)) ?_
  refine p_step rfl (fun a w hS hM => y_valg hS rfl rfl rfl rfl (r_loadAll hS hM rfl (j := 6) rfl Try.underlying22 rfl sz22 cells_len)) ?_
  refine p_step rfl (fun a w hS hM => y_valg hS rfl rfl rfl rfl (r_loadAll hS hM rfl (j := 2) rfl Try.underlying22 rfl sz22 cells_len)) ?_
  refine p_step rfl (fun a w hS hM => y_valg hS rfl rfl rfl rfl (r_loadAll hS hM rfl (j := 5) rfl Try.underlying22 rfl sz22 cells_len)) ?_
  refine p_step rfl (fun a w hS hM => y_callg (by kernel_rfl) hS rfl rfl rfl rfl ((mulAdd_ok _ _ _ _).mem hM)) ?_
  refine p_step rfl (fun a w hS hM => y_valg hS rfl rfl rfl rfl (r_loadAll hS hM rfl (j := 6) rfl Try.underlying22 rfl sz22 cells_len)) ?_
  refine p_step rfl (fun a w hS hM => y_valg hS rfl rfl rfl rfl (r_loadAll hS hM rfl (j := 5) rfl Try.underlying22 rfl sz22 cells_len)) ?_
  refine p_step rfl (fun a w hS hM => y_callg (by kernel_rfl) hS rfl rfl rfl rfl ((add_ok _ _ _).mem hM)) ?_
  refine p_step rfl (fun a w hS hM => y_valg hS rfl rfl rfl rfl (r_eqlBt hS rfl rfl (by kernel_rfl) Try.underlying22 Try.underlying5 sz5 (fun i _ => congrFun (congrArg byt (ring4 f g)) i))) ?_
  refine p_step rfl (fun a w hS hM => y_val rfl (r_pick hS rfl rfl)) ?_
  refine p_step rfl (fun a w hS hM => y_val rfl (r_move hS rfl)) ?_
  refine p_step rfl (fun a w hS hM => y_valg hS rfl rfl rfl rfl (r_loadAll hS hM rfl (j := 6) rfl Try.underlying22 rfl sz22 cells_len)) ?_
  refine p_step rfl (fun a w hS hM => y_valg hS rfl rfl rfl rfl (r_loadAll hS hM rfl (j := 5) rfl Try.underlying22 rfl sz22 cells_len)) ?_
  refine p_step rfl (fun a w hS hM => y_valg hS rfl rfl rfl rfl (r_loadAll hS hM rfl (j := 4) rfl Try.underlying22 rfl sz22 cells_len)) ?_
  refine p_step rfl (fun a w hS hM => y_callg (by kernel_rfl) hS rfl rfl rfl rfl ((mulAdd_ok _ _ _ _).mem hM)) ?_
  refine p_step rfl (fun a w hS hM => y_valg hS rfl rfl rfl rfl (r_loadAll hS hM rfl (j := 1) rfl Try.underlying22 rfl sz22 cells_len)) ?_
  refine p_step rfl (fun a w hS hM => y_valg hS rfl rfl rfl rfl (r_loadAll hS hM rfl (j := 4) rfl Try.underlying22 rfl sz22 cells_len)) ?_
  refine p_step rfl (fun a w hS hM => y_callg (by kernel_rfl) hS rfl rfl rfl rfl ((add_ok _ _ _).mem hM)) ?_
  refine p_step rfl (fun a w hS hM => y_valg hS rfl rfl rfl rfl (r_eqlBt hS rfl rfl (by kernel_rfl) Try.underlying22 Try.underlying5 sz5 (fun i _ => congrFun (congrArg byt (ring5 f g h)) i))) ?_
  refine p_step rfl (fun a w hS hM => y_val rfl (r_pick hS rfl rfl)) ?_
  refine p_step rfl (fun a w hS hM => y_val rfl (r_move hS rfl)) ?_
  refine p_step rfl (fun a w hS hM => y_valg hS rfl rfl rfl rfl (r_loadAll hS hM rfl (j := 6) rfl Try.underlying22 rfl sz22 cells_len)) ?_
  refine p_step rfl (fun a w hS hM => y_valg hS rfl rfl rfl rfl (r_loadAll hS hM rfl (j := 3) rfl Try.underlying22 rfl sz22 cells_len)) ?_
  refine p_step rfl (fun a w hS hM => y_callg (by kernel_rfl) hS rfl rfl rfl rfl ((add_ok _ _ _).mem hM)) ?_
  refine p_step rfl (fun a w hS hM => y_valg hS rfl rfl rfl rfl (r_loadAll hS hM rfl (j := 6) rfl Try.underlying22 rfl sz22 cells_len)) ?_
  refine p_step rfl (fun a w hS hM => y_valg hS rfl rfl rfl rfl (r_loadAll hS hM rfl (j := 3) rfl Try.underlying22 rfl sz22 cells_len)) ?_
  refine p_step rfl (fun a w hS hM => y_callg (by kernel_rfl) hS rfl rfl rfl rfl ((wide_ok _ _ _).mem hM)) ?_
  refine p_step rfl (fun a w hS hM => y_callg (by kernel_rfl) hS rfl rfl rfl rfl ((reduce_ok _ _).mem hM)) ?_
  refine p_step rfl (fun a w hS hM => y_valg hS rfl rfl rfl rfl (r_eqlBt hS rfl rfl (by kernel_rfl) Try.underlying22 Try.underlying5 sz5 (fun i _ => congrFun (congrArg byt (ring6 f)) i))) ?_
  refine p_step rfl (fun a w hS hM => y_val rfl (r_pick hS rfl rfl)) ?_
  refine p_step rfl (fun a w hS hM => y_val rfl (r_assign hS rfl)) ?_
  refine p_nil rfl ?_; intro a w hS hM
  refine s_nil ?_
  refine k_seq ?_
  refine c_ret ?_
  exact k_res1 hS rfl (RV.tmp rfl) ⟨rfl, hM.done ⟨hb11, hb10, hb9, hb8, hb5, hb4, hb3, trivial⟩⟩

set_option maxRecDepth 100000 in
theorem scalarWide_ok (w0 : World) (f g : Nat → BitVec 8) : Pure Try.prog 5 #[.agg (cB 32 f).toArray, .agg (cB 32 g).toArray] w0 (.bool true) := by
  refine ⟨by kernel_rfl, ?_⟩
  refine calls_sym Try.func5 rfl (by kernel_rfl) ?_
  intro a hS
  have hM : Mem w0 w0 [] := Mem.refl w0
  refine c_seq ?_
  refine c_region ?_
  refine s_box hS hM (by decide) rfl rfl ?_; clear hS hM; intro a b2 w hb2 hS hM
  refine s_box hS hM (by decide) rfl rfl ?_; clear hS hM; intro a b3 w hb3 hS hM
  refine s_val hS (by decide) rfl rfl (r_assign hS rfl) ?_; clear hS; intro a hS
  refine s_nil ?_
  refine k_seq ?_
  refine c_seq ?_
  refine c_region ?_
  refine s_pure hS hM (by decide) rfl (alive11_ok _) ?_; clear hS hM; intro a w hS hM
  refine s_val hS (by decide) rfl rfl (r_assign hS rfl) ?_; clear hS; intro a hS
  refine s_nil ?_
  refine k_seq ?_
  refine c_seq ?_
  refine c_region ?_
  refine s_val hS (by decide) rfl rfl (r_build hS rfl (cs := cB 32 (fun _ => 0)) (fun _ => by kernel_rfl)) ?_; clear hS; intro a hS
  refine s_val hS (by decide) rfl rfl (r_build hS (vs := [(0, B 1#8)]) rfl bconst22_1) ?_; clear hS; intro a hS
  refine s_pure hS hM (by decide) rfl (wide_ok _ _ _) ?_; clear hS hM; intro a w hS hM
  refine s_pure hS hM (by decide) rfl (reduce_ok _ _) ?_; clear hS hM; intro a w hS hM
  refine s_alloc hS hM (by decide) zero22 ?_; clear hS hM; intro a b6 w hb6 hS hM
  refine s_storeAll hS hM rfl rfl (j := 0) rfl sz22 cells_len cells_len cB_one ?_; clear hS hM; intro a w hS hM
  refine s_nil ?_
  refine k_seq ?_
  refine c_seq ?_
  refine c_plan 13 (fun w => Mem w0 w _) [(5, _), (2, _), (3, _), (6, _)] (by kernel_rfl) (by kernel_rfl) hS ⟨rfl, rfl, rfl, rfl, trivial⟩ (hM.drawn _) ?_; clear hS hM
  refine p_step rfl (fun a w hS hM => y_val rfl (r_move hS rfl)) ?_
  refine p_step rfl (fun a w hS hM => y_val rfl (r_move hS rfl)) ?_
  refine p_step rfl (fun a w hS hM => y_valg hS rfl rfl rfl rfl (r_loadAll hS hM rfl (j := 2) rfl Try.underlying22 rfl sz22 cells_len)) ?_
  refine p_step rfl (fun a w hS hM => y_valg hS rfl rfl rfl rfl (r_loadAll hS hM rfl (j := 1) rfl Try.underlying22 rfl sz22 cells_len)) ?_
  refine p_step rfl (fun a w hS hM => y_callg (by kernel_rfl) hS rfl rfl rfl rfl ((wide_ok _ _ _).mem hM)) ?_
  refine p_step rfl (fun a w hS hM => y_callg (by kernel_rfl) hS rfl rfl rfl rfl ((reduce_ok _ _).mem hM)) ?_
  refine p_step rfl (fun a w hS hM => y_valg hS rfl rfl rfl rfl (r_loadAll hS hM rfl (j := 1) rfl Try.underlying22 rfl sz22 cells_len)) ?_
  refine p_step rfl (fun a w hS hM => y_valg hS rfl rfl rfl rfl (r_loadAll hS hM rfl (j := 0) rfl Try.underlying22 rfl sz22 cells_len)) ?_
  refine p_step rfl (fun a w hS hM => y_valg hS rfl rfl rfl rfl (r_loadAll hS hM rfl (j := 2) rfl Try.underlying22 rfl sz22 cells_len)) ?_
  refine p_step rfl (fun a w hS hM => y_callg (by kernel_rfl) hS rfl rfl rfl rfl ((mulAdd_ok _ _ _ _).mem hM)) ?_
  refine p_step rfl (fun a w hS hM => y_valg hS rfl rfl rfl rfl (r_eqlBt hS rfl rfl (by kernel_rfl) Try.underlying22 Try.underlying5 sz5 (fun i _ => congrFun (congrArg byt (wide1 f g)) i))) ?_
  refine p_step rfl (fun a w hS hM => y_val rfl (r_pick hS rfl rfl)) ?_
  refine p_step rfl (fun a w hS hM => y_val rfl (r_assign hS rfl)) ?_
  refine p_nil rfl ?_; intro a w hS hM
  refine s_nil ?_
  refine k_seq ?_
  refine c_ret ?_
  exact k_res1 hS rfl (RV.tmp rfl) ⟨rfl, hM.done ⟨hb6, hb3, hb2, trivial⟩⟩

set_option maxRecDepth 100000 in
theorem scalarNeg_ok (w0 : World) (f g : Nat → BitVec 8) : Pure Try.prog 6 #[.agg (cB 32 f).toArray, .agg (cB 32 g).toArray] w0 (.bool true) := by
  refine ⟨by kernel_rfl, ?_⟩
  refine calls_sym Try.func6 rfl (by kernel_rfl) ?_
  intro a hS
  have hM : Mem w0 w0 [] := Mem.refl w0
  refine c_seq ?_
  refine c_region ?_
  refine s_box hS hM (by decide) rfl rfl ?_; clear hS hM; intro a b2 w hb2 hS hM
  refine s_box hS hM (by decide) rfl rfl ?_; clear hS hM; intro a b3 w hb3 hS hM
  refine s_val hS (by decide) rfl rfl (r_assign hS rfl) ?_; clear hS; intro a hS
  refine s_nil ?_
  refine k_seq ?_
  refine c_seq ?_
  refine c_region ?_
  refine s_pure hS hM (by decide) rfl (alive11_ok _) ?_; clear hS hM; intro a w hS hM
  refine s_val hS (by decide) rfl rfl (r_assign hS rfl) ?_; clear hS; intro a hS
  refine s_nil ?_
  refine k_seq ?_
  refine c_seq ?_
  refine c_region ?_
  refine s_val hS (by decide) rfl rfl (r_loadAll hS hM rfl (j := 1) rfl Try.underlying22 rfl sz22 cells_len) ?_; clear hS; intro a hS
  refine s_pure hS hM (by decide) rfl (neg_ok _ _) ?_; clear hS hM; intro a w hS hM
  refine s_alloc hS hM (by decide) zero22 ?_; clear hS hM; intro a b6 w hb6 hS hM
  refine s_storeAll hS hM rfl rfl (j := 0) rfl sz22 cells_len cells_len cB_one ?_; clear hS hM; intro a w hS hM
  refine s_nil ?_
  refine k_seq ?_
  refine c_seq ?_
  refine c_plan 55 (fun w => Mem w0 w _) [(5, _), (2, _), (6, _), (3, _)] (by kernel_rfl) (by kernel_rfl) hS ⟨rfl, rfl, rfl, rfl, trivial⟩ (hM.drawn _) ?_; clear hS hM
  refine p_step rfl (fun a w hS hM => y_val rfl (r_move hS rfl)) ?_
  refine p_step rfl (fun a w hS hM => y_val rfl (r_move hS rfl)) ?_
  refine p_step rfl (fun a w hS hM => y_valg hS rfl rfl rfl rfl (r_loadAll hS hM rfl (j := 2) rfl Try.underlying22 rfl sz22 cells_len)) ?_
  refine p_step rfl (fun a w hS hM => y_valg hS rfl rfl rfl rfl (r_loadAll hS hM rfl (j := 0) rfl Try.underlying22 rfl sz22 cells_len)) ?_
  refine p_step rfl (fun a w hS hM => y_callg (by kernel_rfl) hS rfl rfl rfl rfl ((add_ok _ _ _).mem hM)) ?_
  refine p_step rfl (fun a w hS hM => y_valg hS rfl rfl rfl rfl (r_build hS rfl (cs := cB 32 (fun _ => 0)) (fun _ => by kernel_rfl))) ?_
  refine p_step rfl (fun a w hS hM => y_valg hS rfl rfl rfl rfl (r_eqlBt hS rfl rfl (by kernel_rfl) Try.underlying22 Try.underlying5 sz5 (neg1 f))) ?_
  refine p_step rfl (fun a w hS hM => y_val rfl (r_pick hS rfl rfl)) ?_
  refine p_step rfl (fun a w hS hM => y_val rfl (r_move hS rfl)) ?_
  refine p_step rfl (fun a w hS hM => y_valg hS rfl rfl rfl rfl (r_loadAll hS hM rfl (j := 0) rfl Try.underlying22 rfl sz22 cells_len)) ?_
  refine p_step rfl (fun a w hS hM => y_callg (by kernel_rfl) hS rfl rfl rfl rfl ((canon_red _ _).mem hM)) ?_
  refine p_step rfl (fun a w hS hM => y_val rfl (r_pick hS rfl rfl)) ?_
  refine p_step rfl (fun a w hS hM => y_val rfl (r_move hS rfl)) ?_
  refine p_step rfl (fun a w hS hM => y_valg hS rfl rfl rfl rfl (r_loadAll hS hM rfl (j := 2) rfl Try.underlying22 rfl sz22 cells_len)) ?_
  refine p_step rfl (fun a w hS hM => y_valg hS rfl rfl rfl rfl (r_loadAll hS hM rfl (j := 1) rfl Try.underlying22 rfl sz22 cells_len)) ?_
  refine p_step rfl (fun a w hS hM => y_callg (by kernel_rfl) hS rfl rfl rfl rfl ((add_ok _ _ _).mem hM)) ?_
  refine p_step rfl (fun a w hS hM => y_callg (by kernel_rfl) hS rfl rfl rfl rfl ((canon_red _ _).mem hM)) ?_
  refine p_step rfl (fun a w hS hM => y_val rfl (r_pick hS rfl rfl)) ?_
  refine p_step rfl (fun a w hS hM => y_val rfl (r_move hS rfl)) ?_
  refine p_step rfl (fun a w hS hM => y_valg hS rfl rfl rfl rfl (r_loadAll hS hM rfl (j := 2) rfl Try.underlying22 rfl sz22 cells_len)) ?_
  refine p_step rfl (fun a w hS hM => y_valg hS rfl rfl rfl rfl (r_loadAll hS hM rfl (j := 1) rfl Try.underlying22 rfl sz22 cells_len)) ?_
  refine p_step rfl (fun a w hS hM => y_valg hS rfl rfl rfl rfl (r_loadAll hS hM rfl (j := 2) rfl Try.underlying22 rfl sz22 cells_len)) ?_
  refine p_step rfl (fun a w hS hM => y_callg (by kernel_rfl) hS rfl rfl rfl rfl ((mulAdd_ok _ _ _ _).mem hM)) ?_
  refine p_step rfl (fun a w hS hM => y_callg (by kernel_rfl) hS rfl rfl rfl rfl ((canon_red _ _).mem hM)) ?_
  refine p_step rfl (fun a w hS hM => y_val rfl (r_pick hS rfl rfl)) ?_
  refine p_step rfl (fun a w hS hM => y_val rfl (r_move hS rfl)) ?_
  refine p_step rfl (fun a w hS hM => y_valg hS rfl rfl rfl rfl (r_loadAll hS hM rfl (j := 2) rfl Try.underlying22 rfl sz22 cells_len)) ?_
  refine p_step rfl (fun a w hS hM => y_valg hS rfl rfl rfl rfl (r_loadAll hS hM rfl (j := 1) rfl Try.underlying22 rfl sz22 cells_len)) ?_
  refine p_step rfl (fun a w hS hM => y_callg (by kernel_rfl) hS rfl rfl rfl rfl ((wide_ok _ _ _).mem hM)) ?_
  refine p_step rfl (fun a w hS hM => y_callg (by kernel_rfl) hS rfl rfl rfl rfl ((reduce_ok _ _).mem hM)) ?_
  refine p_step rfl (fun a w hS hM => y_callg (by kernel_rfl) hS rfl rfl rfl rfl ((canon_red _ _).mem hM)) ?_
  refine p_step rfl (fun a w hS hM => y_val rfl (r_pick hS rfl rfl)) ?_
  refine p_step rfl (fun a w hS hM => y_val rfl (r_move hS rfl)) ?_
  refine p_step rfl (fun a w hS hM => y_valg hS rfl rfl rfl rfl (r_loadAll hS hM rfl (j := 0) rfl Try.underlying22 rfl sz22 cells_len)) ?_
  refine p_step rfl (fun a w hS hM => y_callg (by kernel_rfl) hS rfl rfl rfl rfl ((neg_ok _ _).mem hM)) ?_
  refine p_step rfl (fun a w hS hM => y_valg hS rfl rfl rfl rfl (r_loadAll hS hM rfl (j := 2) rfl Try.underlying22 rfl sz22 cells_len)) ?_
  refine p_step rfl (fun a w hS hM => y_valg hS rfl rfl rfl rfl (r_build hS rfl (cs := cB 32 (fun _ => 0)) (fun _ => by kernel_rfl))) ?_
  refine p_step rfl (fun a w hS hM => y_callg (by kernel_rfl) hS rfl rfl rfl rfl ((add_ok _ _ _).mem hM)) ?_
  refine p_step rfl (fun a w hS hM => y_valg hS rfl rfl rfl rfl (r_eqlBt hS rfl rfl (by kernel_rfl) Try.underlying22 Try.underlying5 sz5 (fun i _ => congrFun (congrArg byt (neg2 f)) i))) ?_
  refine p_step rfl (fun a w hS hM => y_val rfl (r_pick hS rfl rfl)) ?_
  refine p_step rfl (fun a w hS hM => y_val rfl (r_move hS rfl)) ?_
  refine p_step rfl (fun a w hS hM => y_callg (by kernel_rfl) hS rfl rfl rfl rfl ((Order_ok _).mem hM)) ?_
  refine p_step rfl (fun a w hS hM => y_callg (by kernel_rfl) hS rfl rfl rfl rfl ((canon_not _).mem hM)) ?_
  refine p_step rfl (fun a w hS hM => y_valg hS rfl rfl rfl rfl (r_not hS rfl)) ?_
  refine p_step rfl (fun a w hS hM => y_val rfl (r_pick hS rfl rfl)) ?_
  refine p_step rfl (fun a w hS hM => y_val rfl (r_move hS rfl)) ?_
  refine p_step rfl (fun a w hS hM => y_valg hS rfl rfl rfl rfl (r_loadAll hS hM rfl (j := 2) rfl Try.underlying22 rfl sz22 cells_len)) ?_
  refine p_step rfl (fun a w hS hM => y_callg (by kernel_rfl) hS rfl rfl rfl rfl ((Order_ok _).mem hM)) ?_
  refine p_step rfl (fun a w hS hM => y_callg (by kernel_rfl) hS rfl rfl rfl rfl ((add_ok _ _ _).mem hM)) ?_
  refine p_step rfl (fun a w hS hM => y_valg hS rfl rfl rfl rfl (r_loadAll hS hM rfl (j := 2) rfl Try.underlying22 rfl sz22 cells_len)) ?_
  refine p_step rfl (fun a w hS hM => y_valg hS rfl rfl rfl rfl (r_build hS rfl (cs := cB 32 (fun _ => 0)) (fun _ => by kernel_rfl))) ?_
  refine p_step rfl (fun a w hS hM => y_callg (by kernel_rfl) hS rfl rfl rfl rfl ((add_ok _ _ _).mem hM)) ?_
  refine p_step rfl (fun a w hS hM => y_valg hS rfl rfl rfl rfl (r_eqlBt hS rfl rfl (by kernel_rfl) Try.underlying22 Try.underlying5 sz5 (fun i _ => congrFun (congrArg byt (neg3 f)) i))) ?_
  refine p_step rfl (fun a w hS hM => y_val rfl (r_pick hS rfl rfl)) ?_
  refine p_step rfl (fun a w hS hM => y_val rfl (r_assign hS rfl)) ?_
  refine p_nil rfl ?_; intro a w hS hM
  refine s_nil ?_
  refine k_seq ?_
  refine c_ret ?_
  exact k_res1 hS rfl (RV.tmp rfl) ⟨rfl, hM.done ⟨hb6, hb3, hb2, trivial⟩⟩

set_option maxRecDepth 100000 in
theorem scalarTells_ok (w0 : World) (f g h : Nat → BitVec 8) (i : Int) : Pure Try.prog 7 #[.agg (cB 32 f).toArray, .agg (cB 32 g).toArray, .agg (cB 32 h).toArray, .int .i64 i] w0 (.bool true) := by
  refine ⟨by kernel_rfl, ?_⟩
  refine calls_sym Try.func7 rfl (by kernel_rfl) ?_
  intro a hS
  have hM : Mem w0 w0 [] := Mem.refl w0
  refine c_seq ?_
  refine c_region ?_
  refine s_box hS hM (by decide) rfl rfl ?_; clear hS hM; intro a b4 w hb4 hS hM
  refine s_box hS hM (by decide) rfl rfl ?_; clear hS hM; intro a b5 w hb5 hS hM
  refine s_box hS hM (by decide) rfl rfl ?_; clear hS hM; intro a b6 w hb6 hS hM
  refine s_val hS (by decide) rfl rfl (r_assign hS rfl) ?_; clear hS; intro a hS
  refine s_nil ?_
  refine k_seq ?_
  refine c_seq ?_
  refine c_region ?_
  refine s_pure hS hM (by decide) rfl (alive11_ok _) ?_; clear hS hM; intro a w hS hM
  refine s_val hS (by decide) rfl rfl (r_assign hS rfl) ?_; clear hS; intro a hS
  refine s_nil ?_
  refine k_seq ?_
  refine c_seq ?_
  refine c_plan 61 (fun w => Mem w0 w _) [(9, _), (4, _), (5, _), (6, _), (3, _)] (by kernel_rfl) (by kernel_rfl) hS ⟨rfl, rfl, rfl, rfl, rfl, trivial⟩ (hM.drawn _) ?_; clear hS hM
  refine p_step rfl (fun a w hS hM => y_val rfl (r_move hS rfl)) ?_
  refine p_step rfl (fun a w hS hM => y_val rfl (r_move hS rfl)) ?_
  refine p_step rfl (fun a w hS hM => y_callg (by kernel_rfl) hS rfl rfl rfl rfl ((Order_ok _).mem hM)) ?_
  refine p_step rfl (fun a w hS hM => y_callg (by kernel_rfl) hS rfl rfl rfl rfl ((rorder_ok _).mem hM)) ?_
  refine p_step rfl (fun a w hS hM => y_valg hS rfl rfl rfl rfl (r_eqlBt hS rfl rfl (by kernel_rfl) Try.underlying22 Try.underlying5 sz5 (fun _ _ => rfl))) ?_
  refine p_step rfl (fun a w hS hM => y_val rfl (r_pick hS rfl rfl)) ?_
  refine p_step rfl (fun a w hS hM => y_val rfl (r_move hS rfl)) ?_
  refine p_step rfl (fun a w hS hM => y_valg hS rfl rfl rfl rfl (r_loadAll hS hM rfl (j := 2) rfl Try.underlying22 rfl sz22 cells_len)) ?_
  refine p_step rfl (fun a w hS hM => y_callg (by kernel_rfl) hS rfl rfl rfl rfl ((canonical_ok _ _).mem hM)) ?_
  refine p_step rfl (fun a w hS hM => y_valg hS rfl rfl rfl rfl (r_loadAll hS hM rfl (j := 2) rfl Try.underlying22 rfl sz22 cells_len)) ?_
  refine p_step rfl (fun a w hS hM => y_callg (by kernel_rfl) hS rfl rfl rfl rfl ((risScalar_ok _ _).mem hM)) ?_
  refine p_step rfl (fun a w hS hM => y_valg hS rfl rfl rfl rfl (r_eqbt hS rfl rfl Try.underlying4 rfl)) ?_
  refine p_step rfl (fun a w hS hM => y_val rfl (r_pick hS rfl rfl)) ?_
  refine p_step rfl (fun a w hS hM => y_val rfl (r_move hS rfl)) ?_
  refine p_step rfl (fun a w hS hM => y_valg hS rfl rfl rfl rfl (r_loadAll hS hM rfl (j := 2) rfl Try.underlying22 rfl sz22 cells_len)) ?_
  refine p_step rfl (fun a w hS hM => y_valg hS rfl rfl rfl rfl (r_loadAll hS hM rfl (j := 1) rfl Try.underlying22 rfl sz22 cells_len)) ?_
  refine p_step rfl (fun a w hS hM => y_callg (by kernel_rfl) hS rfl rfl rfl rfl ((wide_ok _ _ _).mem hM)) ?_
  refine p_step rfl (fun a w hS hM => y_callg (by kernel_rfl) hS rfl rfl rfl rfl ((reduce_ok _ _).mem hM)) ?_
  refine p_step rfl (fun a w hS hM => y_valg hS rfl rfl rfl rfl (r_loadAll hS hM rfl (j := 2) rfl Try.underlying22 rfl sz22 cells_len)) ?_
  refine p_step rfl (fun a w hS hM => y_valg hS rfl rfl rfl rfl (r_loadAll hS hM rfl (j := 1) rfl Try.underlying22 rfl sz22 cells_len)) ?_
  refine p_step rfl (fun a w hS hM => y_callg (by kernel_rfl) hS rfl rfl rfl rfl ((wide_ok _ _ _).mem hM)) ?_
  refine p_step rfl (fun a w hS hM => y_callg (by kernel_rfl) hS rfl rfl rfl rfl ((rreduce_ok _ _).mem hM)) ?_
  refine p_step rfl (fun a w hS hM => y_valg hS rfl rfl rfl rfl (r_eqlBt hS rfl rfl (by kernel_rfl) Try.underlying22 Try.underlying5 sz5 (fun _ _ => rfl))) ?_
  refine p_step rfl (fun a w hS hM => y_val rfl (r_pick hS rfl rfl)) ?_
  refine p_step rfl (fun a w hS hM => y_val rfl (r_move hS rfl)) ?_
  refine p_step rfl (fun a w hS hM => y_valg hS rfl rfl rfl rfl (r_loadAll hS hM rfl (j := 2) rfl Try.underlying22 rfl sz22 cells_len)) ?_
  refine p_step rfl (fun a w hS hM => y_valg hS rfl rfl rfl rfl (r_loadAll hS hM rfl (j := 1) rfl Try.underlying22 rfl sz22 cells_len)) ?_
  refine p_step rfl (fun a w hS hM => y_callg (by kernel_rfl) hS rfl rfl rfl rfl ((add_ok _ _ _).mem hM)) ?_
  refine p_step rfl (fun a w hS hM => y_valg hS rfl rfl rfl rfl (r_loadAll hS hM rfl (j := 2) rfl Try.underlying22 rfl sz22 cells_len)) ?_
  refine p_step rfl (fun a w hS hM => y_valg hS rfl rfl rfl rfl (r_loadAll hS hM rfl (j := 1) rfl Try.underlying22 rfl sz22 cells_len)) ?_
  refine p_step rfl (fun a w hS hM => y_callg (by kernel_rfl) hS rfl rfl rfl rfl ((rsum_ok _ _ _).mem hM)) ?_
  refine p_step rfl (fun a w hS hM => y_valg hS rfl rfl rfl rfl (r_eqlBt hS rfl rfl (by kernel_rfl) Try.underlying22 Try.underlying5 sz5 (fun _ _ => rfl))) ?_
  refine p_step rfl (fun a w hS hM => y_val rfl (r_pick hS rfl rfl)) ?_
  refine p_step rfl (fun a w hS hM => y_val rfl (r_move hS rfl)) ?_
  refine p_step rfl (fun a w hS hM => y_valg hS rfl rfl rfl rfl (r_loadAll hS hM rfl (j := 2) rfl Try.underlying22 rfl sz22 cells_len)) ?_
  refine p_step rfl (fun a w hS hM => y_callg (by kernel_rfl) hS rfl rfl rfl rfl ((neg_ok _ _).mem hM)) ?_
  refine p_step rfl (fun a w hS hM => y_valg hS rfl rfl rfl rfl (r_loadAll hS hM rfl (j := 2) rfl Try.underlying22 rfl sz22 cells_len)) ?_
  refine p_step rfl (fun a w hS hM => y_callg (by kernel_rfl) hS rfl rfl rfl rfl ((rminus_ok _ _).mem hM)) ?_
  refine p_step rfl (fun a w hS hM => y_valg hS rfl rfl rfl rfl (r_eqlBt hS rfl rfl (by kernel_rfl) Try.underlying22 Try.underlying5 sz5 (fun _ _ => rfl))) ?_
  refine p_step rfl (fun a w hS hM => y_val rfl (r_pick hS rfl rfl)) ?_
  refine p_step rfl (fun a w hS hM => y_val rfl (r_move hS rfl)) ?_
  refine p_step rfl (fun a w hS hM => y_valg hS rfl rfl rfl rfl (r_loadAll hS hM rfl (j := 2) rfl Try.underlying22 rfl sz22 cells_len)) ?_
  refine p_step rfl (fun a w hS hM => y_valg hS rfl rfl rfl rfl (r_loadAll hS hM rfl (j := 1) rfl Try.underlying22 rfl sz22 cells_len)) ?_
  refine p_step rfl (fun a w hS hM => y_valg hS rfl rfl rfl rfl (r_loadAll hS hM rfl (j := 0) rfl Try.underlying22 rfl sz22 cells_len)) ?_
  refine p_step rfl (fun a w hS hM => y_callg (by kernel_rfl) hS rfl rfl rfl rfl ((mulAdd_ok _ _ _ _).mem hM)) ?_
  refine p_step rfl (fun a w hS hM => y_valg hS rfl rfl rfl rfl (r_loadAll hS hM rfl (j := 2) rfl Try.underlying22 rfl sz22 cells_len)) ?_
  refine p_step rfl (fun a w hS hM => y_valg hS rfl rfl rfl rfl (r_loadAll hS hM rfl (j := 1) rfl Try.underlying22 rfl sz22 cells_len)) ?_
  refine p_step rfl (fun a w hS hM => y_valg hS rfl rfl rfl rfl (r_loadAll hS hM rfl (j := 0) rfl Try.underlying22 rfl sz22 cells_len)) ?_
  refine p_step rfl (fun a w hS hM => y_callg (by kernel_rfl) hS rfl rfl rfl rfl ((rmulAdd_ok _ _ _ _).mem hM)) ?_
  refine p_step rfl (fun a w hS hM => y_valg hS rfl rfl rfl rfl (r_eqlBt hS rfl rfl (by kernel_rfl) Try.underlying22 Try.underlying5 sz5 (fun _ _ => rfl))) ?_
  refine p_step rfl (fun a w hS hM => y_val rfl (r_pick hS rfl rfl)) ?_
  refine p_step rfl (fun a w hS hM => y_val rfl (r_move hS rfl)) ?_
  refine p_step rfl (fun a w hS hM => y_valg hS rfl rfl rfl rfl (r_loadAll hS hM rfl (j := 2) rfl Try.underlying22 rfl sz22 cells_len)) ?_
  refine p_step rfl (fun a w hS hM => y_valg hS rfl rfl rfl rfl (r_move hS rfl)) ?_
  refine p_step rfl (fun a w hS hM => y_callg (by kernel_rfl) hS rfl rfl rfl rfl ((Bit_ok _ _ _).mem hM)) ?_
  refine p_step rfl (fun a w hS hM => y_valg hS rfl rfl rfl rfl (r_loadAll hS hM rfl (j := 2) rfl Try.underlying22 rfl sz22 cells_len)) ?_
  refine p_step rfl (fun a w hS hM => y_valg hS rfl rfl rfl rfl (r_move hS rfl)) ?_
  refine p_step rfl (fun a w hS hM => y_callg (by kernel_rfl) hS rfl rfl rfl rfl ((rBit_ok _ _ _).mem hM)) ?_
  refine p_step rfl (fun a w hS hM => y_valg hS rfl rfl rfl rfl (r_bv hS rfl rfl gN (b_eqlNt rfl))) ?_
  refine p_step rfl (fun a w hS hM => y_val rfl (r_pick hS rfl rfl)) ?_
  refine p_step rfl (fun a w hS hM => y_val rfl (r_assign hS rfl)) ?_
  refine p_nil rfl ?_; intro a w hS hM
  refine s_nil ?_
  refine k_seq ?_
  refine c_ret ?_
  exact k_res1 hS rfl (RV.tmp rfl) ⟨rfl, hM.done ⟨hb6, hb5, hb4, trivial⟩⟩
end Go.Proofs.Ytihlpnnpjffecaa
