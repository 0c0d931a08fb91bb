/- The walks through package scalar, its rest, and through the definition of chapter 11. Printed by a program of mine (walk.py). -/
import Derived.Test.YtihlpnnpjffecaaScal1
import Derived.Test.YtihlpnnpjffecaaScal2
import Derived.Test.YtihlpnnpjffecaaSymCall
namespace Go.Proofs.Ytihlpnnpjffecaa
open Go Go.Sym

theorem ordBytes : cB 32 (lst 0 [0xed#8, 0xd3#8, 0xf5#8, 0x5c#8, 0x1a#8, 0x63#8, 0x12#8, 0x58#8, 0xd6#8, 0x9c#8, 0xf7#8, 0xa2#8, 0xde#8, 0xf9#8, 0xde#8, 0x14#8, 0#8, 0#8, 0#8, 0#8, 0#8, 0#8, 0#8, 0#8, 0#8, 0#8, 0#8, 0#8, 0#8, 0#8, 0#8, 16#8]) = cB 32 (byt ordL) := by kernel_rfl
theorem of_byt (w0 : World) {v : Value} {r : Nat} (hr : Rd w0 v 32 (fun i => B (byt r i))) (h : r < 2 ^ 256) : Pure Try.prog 24 #[v] w0 (.agg (cU 8 (limb r)).toArray) := by
  have := of_ok w0 hr (by decide)
  rwa [natB_bytL h] at this
theorem sz2 : (Try.prog.info? 2).map (·.size) = some 1 := by kernel_rfl
theorem sz55 : (Try.prog.info? 55).map (·.size) = some 17 := by kernel_rfl
theorem zero55 : Zero Try.prog 55 (cI 17 (fun _ => 0)) := fun _ => by kernel_rfl
theorem build22 (x0 x1 x2 x3 x4 x5 x6 x7 x8 x9 x10 x11 x12 x13 x14 x15 x16 x17 x18 x19 x20 x21 x22 x23 x24 x25 x26 x27 x28 x29 x30 x31 : BitVec 8) (w : World) : (Instr.build 22 ([(0, B x0), (1, B x1), (2, B x2), (3, B x3), (4, B x4), (5, B x5), (6, B x6), (7, B x7), (8, B x8), (9, B x9), (10, B x10), (11, B x11), (12, B x12), (13, B x13), (14, B x14), (15, B x15), (16, B x16), (17, B x17), (18, B x18), (19, B x19), (20, B x20), (21, B x21), (22, B x22), (23, B x23), (24, B x24), (25, B x25), (26, B x26), (27, B x27), (28, B x28), (29, B x29), (30, B x30), (31, B x31)] : List (Nat × Value)).toArray).run Try.prog w = .ok (.agg (cB 32 (lst 0 [x0, x1, x2, x3, x4, x5, x6, x7, x8, x9, x10, x11, x12, x13, x14, x15, x16, x17, x18, x19, x20, x21, x22, x23, x24, x25, x26, x27, x28, x29, x30, x31])).toArray) w := by kernel_rfl
theorem made47_34 : Made Try.prog 47 2 34 (cI 34 (fun _ => 0)) := fun _ => by kernel_rfl

set_option maxRecDepth 100000 in
theorem neg_ok (f : Nat → BitVec 8) (w0 : World) : Pure Try.prog 14 #[.agg (cB 32 f).toArray] w0 (.agg (cB 32 (byt ((ordL - natB f 32 % ordL) % ordL))).toArray) := by
  refine ⟨by kernel_rfl, ?_⟩
  refine calls_sym Try.func14 rfl (by kernel_rfl) ?_
  intro a hS
  have hM : Mem w0 w0 [] := Mem.refl w0
  refine c_seq ?_
  refine c_region ?_
  refine s_box hS hM (by decide) rfl rfl ?_; clear hS hM; intro a b1 w hb1 hS hM
  refine s_alloc hS hM (by decide) zero22 ?_; clear hS hM; intro a b2 w hb2 hS hM
  refine s_nil ?_
  refine k_seq ?_
  refine c_seq ?_
  refine c_region ?_
  refine s_val hS (by decide) rfl rfl (r_sliceA0 hS rfl Try.underlying22 sz5) ?_; clear hS; intro a hS
  refine s_pure hS hM (by decide) rfl (of_ok _ (rd_row hM (j := 1) rfl) (by decide)) ?_; clear hS hM; intro a w hS hM
  refine s_pure hS hM (by decide) rfl (reduced_ok _ (lt_pw (natB_lt f 32) (by decide)) _) ?_; clear hS hM; intro a w hS hM
  refine s_alloc hS hM (by decide) zero22 ?_; clear hS hM; intro a b3 w hb3 hS hM
  refine s_storeAll hS hM rfl rfl (j := 0) rfl sz22 cells_len cells_len cB_one ?_; clear hS hM; intro a w hS hM
  refine s_nil ?_
  refine k_seq ?_
  refine c_seq ?_
  refine c_vplan 9 (AL w0 7 8 38 (cU 8 (fun _ => 0)) (cU 8 (limb (ordL + (M512 - natB f 32 % ordL)))) [⟨b3, 22, cB 32 (byt (natB f 32 % ordL))⟩, ⟨b2, 22, cB 32 (fun _ => 0)⟩, ⟨b1, 22, cB 32 f⟩]) [(3, ptr b3 0), (2, ptr b2 0)] (fun i V => match i with | 0 => V 0 = .agg (cU 8 (limb ordL)).toArray | 1 => V 1 = .slice (some ⟨b3, 0, none⟩) 32 32 | 2 => V 2 = .agg (cU 8 (limb (natB f 32 % ordL))).toArray | 3 => V 3 = .tuple #[.agg (cU 8 (limb (ordL + (M512 - natB f 32 % ordL)))).toArray, U (BitVec.ofNat 64 (borrowOf ordL (natB f 32 % ordL) 8))] | 4 => V 4 = .tuple #[.agg (cU 8 (limb (ordL + (M512 - natB f 32 % ordL)))).toArray, U (BitVec.ofNat 64 (borrowOf ordL (natB f 32 % ordL) 8))] | 5 => V 5 = .agg (cU 8 (limb (ordL + (M512 - natB f 32 % ordL)))).toArray | 6 => V 6 = U (BitVec.ofNat 64 (borrowOf ordL (natB f 32 % ordL) 8)) | 7 => ∃ b, w0.heap.size ≤ b ∧ V 7 = ptr b 0 | _ => True) (by kernel_rfl) (by kernel_rfl) hS ⟨rfl, rfl, trivial⟩ (AL.start (hM.drawn _)) ?_ ?_
  · clear hS hM
    refine ⟨?_, ?_, ?_, ?_, ?_, ?_, ?_, ?_, ?_, trivial⟩
    · intro S V a w hp hs hi hR hS hM
      replace hS := hS.to [] trivial
      have hM0 := hM; replace hM := hM0.low
      exact vy_pureA hS rfl (order_ok _) fun w' hm => ⟨rfl, (hM0.after hm).keep rfl rfl⟩
    · intro S V a w hp hs hi hR hS hM
      replace hS := hS.to [(3, ptr b3 0)] ⟨rfl, trivial⟩
      have hM0 := hM; replace hM := hM0.low
      exact vy_val rfl (r_sliceA0 hS rfl Try.underlying22 sz5) ⟨rfl, hM0.keep rfl rfl⟩
    · intro S V a w hp hs hi hR hS hM
      have h1 : V 1 = .slice (some ⟨b3, 0, none⟩) 32 32 := hR 1 rfl
      replace hS := hS.to [(11, .slice (some ⟨b3, 0, none⟩) 32 32)] ⟨congrArg some h1, trivial⟩
      have hM0 := hM; replace hM := hM0.low
      exact vy_pureA hS rfl (of_byt _ (rd_row hM (j := 0) rfl) (mod_lt256 _)) fun w' hm => ⟨rfl, (hM0.after hm).keep rfl rfl⟩
    · intro S V a w hp hs hi hR hS hM
      have h0 : V 0 = .agg (cU 8 (limb ordL)).toArray := hR 0 rfl
      have h2 : V 2 = .agg (cU 8 (limb (natB f 32 % ordL))).toArray := hR 2 rfl
      replace hS := hS.to [(10, .agg (cU 8 (limb ordL)).toArray), (12, .agg (cU 8 (limb (natB f 32 % ordL))).toArray)] ⟨congrArg some h0, congrArg some h2, trivial⟩
      have hM0 := hM; replace hM := hM0.low
      exact vy_pureA hS rfl (less_ok _ _ (lt_pw (mod_lt256 _) (by decide)) _) fun w' hm => ⟨rfl, (hM0.after hm).keep rfl rfl⟩
    · intro S V a w hp hs hi hR hS hM
      have h3 : V 3 = .tuple #[.agg (cU 8 (limb (ordL + (M512 - natB f 32 % ordL)))).toArray, U (BitVec.ofNat 64 (borrowOf ordL (natB f 32 % ordL) 8))] := hR 3 rfl
      replace hS := hS.to [(13, .tuple #[.agg (cU 8 (limb (ordL + (M512 - natB f 32 % ordL)))).toArray, U (BitVec.ofNat 64 (borrowOf ordL (natB f 32 % ordL) 8))])] ⟨congrArg some h3, trivial⟩
      have hM0 := hM; replace hM := hM0.low
      exact vy_val rfl (r_move hS rfl) ⟨rfl, hM0.keep rfl rfl⟩
    · intro S V a w hp hs hi hR hS hM
      have h4 : V 4 = .tuple #[.agg (cU 8 (limb (ordL + (M512 - natB f 32 % ordL)))).toArray, U (BitVec.ofNat 64 (borrowOf ordL (natB f 32 % ordL) 8))] := hR 4 rfl
      replace hS := hS.to [(9, .tuple #[.agg (cU 8 (limb (ordL + (M512 - natB f 32 % ordL)))).toArray, U (BitVec.ofNat 64 (borrowOf ordL (natB f 32 % ordL) 8))])] ⟨congrArg some h4, trivial⟩
      have hM0 := hM; replace hM := hM0.low
      exact vy_val rfl (r_extract hS rfl rfl) ⟨rfl, hM0.keep rfl rfl⟩
    · intro S V a w hp hs hi hR hS hM
      have h4 : V 4 = .tuple #[.agg (cU 8 (limb (ordL + (M512 - natB f 32 % ordL)))).toArray, U (BitVec.ofNat 64 (borrowOf ordL (natB f 32 % ordL) 8))] := hR 4 rfl
      replace hS := hS.to [(9, .tuple #[.agg (cU 8 (limb (ordL + (M512 - natB f 32 % ordL)))).toArray, U (BitVec.ofNat 64 (borrowOf ordL (natB f 32 % ordL) 8))])] ⟨congrArg some h4, trivial⟩
      have hM0 := hM; replace hM := hM0.low
      exact vy_val rfl (r_extract hS rfl rfl) ⟨rfl, hM0.keep rfl rfl⟩
    · intro S V a w hp hs hi hR hS hM
      exact vy_alloc zero38 hM.low fun b w' hb hM' => ⟨⟨b, hb, rfl⟩, AL.made (hs 8 rfl) rfl hb hM'⟩
    · intro S V a w hp hs hi hR hS hM
      have h5 : V 5 = .agg (cU 8 (limb (ordL + (M512 - natB f 32 % ordL)))).toArray := hR 5 rfl
      obtain ⟨b, hb, h7⟩ : ∃ b, w0.heap.size ≤ b ∧ V 7 = ptr b 0 := hR 7 rfl
      replace hS := hS.to [(14, .agg (cU 8 (limb (ordL + (M512 - natB f 32 % ordL)))).toArray), (4, ptr b 0)] ⟨congrArg some h5, congrArg some h7, trivial⟩
      have hM1 := hM.ahead (hp 7 rfl) hi; rw [h7] at hM1
      exact vy_storeAll hS hM1 rfl rfl (j := 0) rfl sz38 cells_len cells_len cU_one fun w' hM' => ⟨trivial, hM.wrote (hp 7 rfl) rfl (by rw [h7]; exact hM')⟩
  clear hS hM; intro V a w hR hS hM
  obtain ⟨b4, hb4, v7⟩ : ∃ b, w0.heap.size ≤ b ∧ V 7 = ptr b 0 := hR 7 (by decide)
  have v0 : V 0 = .agg (cU 8 (limb ordL)).toArray := hR 0 (by decide)
  have v1 : V 1 = .slice (some ⟨b3, 0, none⟩) 32 32 := hR 1 (by decide)
  have v2 : V 2 = .agg (cU 8 (limb (natB f 32 % ordL))).toArray := hR 2 (by decide)
  have v3 : V 3 = .tuple #[.agg (cU 8 (limb (ordL + (M512 - natB f 32 % ordL)))).toArray, U (BitVec.ofNat 64 (borrowOf ordL (natB f 32 % ordL) 8))] := hR 3 (by decide)
  have v4 : V 4 = .tuple #[.agg (cU 8 (limb (ordL + (M512 - natB f 32 % ordL)))).toArray, U (BitVec.ofNat 64 (borrowOf ordL (natB f 32 % ordL) 8))] := hR 4 (by decide)
  have v5 : V 5 = .agg (cU 8 (limb (ordL + (M512 - natB f 32 % ordL)))).toArray := hR 5 (by decide)
  have v6 : V 6 = U (BitVec.ofNat 64 (borrowOf ordL (natB f 32 % ordL) 8)) := hR 6 (by decide)
  replace hS := hS.to [(4, ptr b4 0), (10, .agg (cU 8 (limb ordL)).toArray), (11, .slice (some ⟨b3, 0, none⟩) 32 32), (12, .agg (cU 8 (limb (natB f 32 % ordL))).toArray), (13, .tuple #[.agg (cU 8 (limb (ordL + (M512 - natB f 32 % ordL)))).toArray, U (BitVec.ofNat 64 (borrowOf ordL (natB f 32 % ordL) 8))]), (9, .tuple #[.agg (cU 8 (limb (ordL + (M512 - natB f 32 % ordL)))).toArray, U (BitVec.ofNat 64 (borrowOf ordL (natB f 32 % ordL) 8))]), (14, .agg (cU 8 (limb (ordL + (M512 - natB f 32 % ordL)))).toArray), (15, U (BitVec.ofNat 64 (borrowOf ordL (natB f 32 % ordL) 8))), (3, ptr b3 0), (2, ptr b2 0)] ⟨congrArg some v7, congrArg some v0, congrArg some v1, congrArg some v2, congrArg some v3, congrArg some v4, congrArg some v5, congrArg some v6, rfl, rfl, trivial⟩
  replace hM := (hM.stop rfl rfl).2; rw [v7] at hM; replace hM : Mem w0 w (⟨b4, 38, cU 8 (limb (ordL + (M512 - natB f 32 % ordL)))⟩ :: [⟨b3, 22, cB 32 (byt (natB f 32 % ordL))⟩, ⟨b2, 22, cB 32 (fun _ => 0)⟩, ⟨b1, 22, cB 32 f⟩]) := hM
  clear hR v0 v1 v2 v3 v4 v5 v6 v7
  refine s_val hS (by decide) rfl rfl (r_assign hS rfl) ?_; clear hS; intro a hS
  rw [lack_cells (Nat.le_of_lt (Nat.mod_lt _ ordL_pos))] at hM
  refine s_nil ?_
  refine k_seq ?_
  refine c_seq ?_
  refine c_region ?_
  refine s_val hS (by decide) rfl rfl (r_loadAll hS hM rfl (j := 0) rfl Try.underlying38 rfl sz38 cells_len) ?_; clear hS; intro a hS
  refine s_pure hS hM (by decide) rfl (reduced_ok _ (lt_pw (Nat.lt_of_le_of_lt (Nat.sub_le _ _) ordL_lt) (by decide)) _) ?_; clear hS hM; intro a w hS hM
  refine s_storeAll hS hM rfl rfl (j := 2) rfl sz22 cells_len cells_len cB_one ?_; clear hS hM; intro a w hS hM
  refine s_nil ?_
  refine k_seq ?_
  refine c_ret ?_
  exact k_res1 hS rfl (RV.row rfl (hM.have_ _ (mem_of_get (j := 2) rfl)) Try.underlying22 rfl (by rw [sz22]; exact congrArg some cells_len.symm)) ⟨rfl, hM.done ⟨hb4, hb3, hb2, hb1, trivial⟩⟩

set_option maxRecDepth 100000 in
theorem Bit_ok (f : Nat → BitVec 8) (i : Int) (w0 : World) : Pure Try.prog 10 #[.agg (cB 32 f).toArray, .int .i64 i] w0 (N (bitZ f i)) := by
  refine ⟨by kernel_rfl, ?_⟩
  refine calls_sym Try.func10 rfl (by kernel_rfl) ?_
  intro a hS
  have hM : Mem w0 w0 [] := Mem.refl w0
  refine c_seq ?_
  refine c_region ?_
  refine s_box hS hM (by decide) rfl rfl ?_; clear hS hM; intro a b2 w hb2 hS hM
  refine s_val hS (by decide) rfl rfl (r_assign hS (show ev _ _ = some (N 0) from rfl)) ?_; clear hS; intro a hS
  refine s_nil ?_
  refine k_seq ?_
  refine c_seq ?_
  refine c_seq ?_
  refine c_region ?_
  refine s_val hS (by decide) rfl rfl (r_move hS rfl) ?_; clear hS; intro a hS
  refine s_valb hS (by decide) rfl rfl (r_bv hS rfl (show ev _ _ = some (.int .i64 (0)) from rfl) gZ (b_lssZ _ _ _)) (fun hc => ?_) (fun hc => ?_)
  · clear hS; intro a hS; have h1 := of_decide_eq_true hc
    refine s_val hS (by decide) rfl rfl (r_move hS rfl) ?_; clear hS; intro a hS
    refine s_skip hS (by decide) rfl rfl rfl rfl rfl ?_; clear hS; intro a hS
    refine s_skip hS (by decide) rfl rfl rfl rfl rfl ?_; clear hS; intro a hS
    refine s_val hS (by decide) rfl rfl (r_pick hS rfl rfl) ?_; clear hS; intro a hS
    refine s_nil ?_
    refine k_seq ?_
    refine c_true hS rfl rfl ?_
    refine c_seq ?_
    refine c_region ?_
    refine s_val hS (by decide) rfl rfl (r_assign hS (show ev _ _ = some (N 0) from rfl)) ?_; clear hS; intro a hS
    refine s_nil ?_
    refine k_seq ?_
    refine c_ret ?_
    refine k_thenr ?_
    exact k_res1 hS rfl (RV.tmp rfl) ⟨(congrArg (fun q => Ending.returned (N q)) (by first | exact (bitZ_out (by omega)).symm | exact bitZ_in f p (by omega))), hM.done ⟨hb2, trivial⟩⟩
  · clear hS; intro a hS; have h1 := of_decide_eq_false hc
    refine s_val hS (by decide) rfl rfl (r_move hS rfl) ?_; clear hS; intro a hS
    refine s_valg hS (by decide) rfl rfl rfl rfl rfl (r_move hS rfl) ?_; clear hS; intro a hS
    refine s_valgb hS (by decide) rfl rfl rfl rfl rfl (r_bv hS rfl (show ev _ _ = some (.int .i64 (256)) from rfl) gZ (b_geqZ _ _ _)) (fun hc => ?_) (fun hc => ?_)
    · clear hS; intro a hS; have h2 := of_decide_eq_true hc
      refine s_val hS (by decide) rfl rfl (r_pick hS rfl rfl) ?_; clear hS; intro a hS
      refine s_nil ?_
      refine k_seq ?_
      refine c_true hS rfl rfl ?_
      refine c_seq ?_
      refine c_region ?_
      refine s_val hS (by decide) rfl rfl (r_assign hS (show ev _ _ = some (N 0) from rfl)) ?_; clear hS; intro a hS
      refine s_nil ?_
      refine k_seq ?_
      refine c_ret ?_
      refine k_thenr ?_
      exact k_res1 hS rfl (RV.tmp rfl) ⟨(congrArg (fun q => Ending.returned (N q)) (by first | exact (bitZ_out (by omega)).symm | exact bitZ_in f p (by omega))), hM.done ⟨hb2, trivial⟩⟩
    · clear hS; intro a hS; have h2 := of_decide_eq_false hc; obtain ⟨p, rfl⟩ : ∃ j : Nat, i = (j : Int) := ⟨i.toNat, by omega⟩
      refine s_val hS (by decide) rfl rfl (r_pick hS rfl rfl) ?_; clear hS; intro a hS
      refine s_nil ?_
      refine k_seq ?_
      refine c_false hS rfl rfl ?_
      refine c_skip ?_
      refine k_seq ?_
      refine c_seq ?_
      refine c_region ?_
      refine s_val hS (by decide) rfl rfl (r_move hS rfl) ?_; clear hS; intro a hS
      refine s_val hS (by decide) rfl rfl (r_bv hS rfl (show ev _ _ = some (N 8) from rfl) gN (b_quoN _ _ _ (by omega) (by omega))) ?_; clear hS; intro a hS
      refine s_val hS (by decide) rfl rfl (r_index0 hS rfl rfl Try.underlying22 sz5 (by omega)) ?_; clear hS; intro a hS
      refine s_val hS (by decide) rfl rfl (r_load hS hM rfl (j := 0) rfl Try.underlying5 rfl (cells_get (by omega))) ?_; clear hS; intro a hS
      refine s_val hS (by decide) rfl rfl (r_move hS rfl) ?_; clear hS; intro a hS
      refine s_val hS (by decide) rfl rfl (r_bv hS rfl (show ev _ _ = some (N 8) from rfl) gN (b_remN _ _ _ (by omega))) ?_; clear hS; intro a hS
      refine s_val hS (by decide) rfl rfl (r_bv hS rfl rfl gB (b_shrB _ _ _ _)) ?_; clear hS; intro a hS
      refine s_val hS (by decide) rfl rfl (r_bv hS rfl (show ev _ _ = some (B 1#8) from rfl) gB (b_andB _ _ _)) ?_; clear hS; intro a hS
      refine s_val hS (by decide) rfl rfl (r_conv hS rfl (by kernel_rfl) Try.underlying3 (cv_BN _)) ?_; clear hS; intro a hS
      refine s_val hS (by decide) rfl rfl (r_assign hS rfl) ?_; clear hS; intro a hS
      refine s_nil ?_
      refine k_seq ?_
      refine c_ret ?_
      exact k_res1 hS rfl (RV.tmp rfl) ⟨(congrArg (fun q => Ending.returned (N q)) (by first | exact (bitZ_out (by omega)).symm | exact bitZ_in f p (by omega))), hM.done ⟨hb2, trivial⟩⟩

set_option maxRecDepth 100000 in
theorem rorder_ok  (w0 : World) : Pure Try.prog 17 #[] w0 (.agg (cB 32 (byt ordL)).toArray) := by
  refine ⟨by kernel_rfl, ?_⟩
  refine calls_sym Try.func17 rfl (by kernel_rfl) ?_
  intro a hS
  have hM : Mem w0 w0 [] := Mem.refl w0
  refine c_seq ?_
  refine c_region ?_
  refine s_alloc hS hM (by decide) zero22 ?_; clear hS hM; intro a b0 w hb0 hS hM
  refine s_nil ?_
  refine k_seq ?_
  refine c_seq ?_
  refine c_region ?_
  refine s_val hS (by decide) rfl rfl (r_build hS (vs := [(0, B 237#8), (1, B 211#8), (2, B 245#8), (3, B 92#8), (4, B 26#8), (5, B 99#8), (6, B 18#8), (7, B 88#8), (8, B 214#8), (9, B 156#8), (10, B 247#8), (11, B 162#8), (12, B 222#8), (13, B 249#8), (14, B 222#8), (15, B 20#8), (16, B 0#8), (17, B 0#8), (18, B 0#8), (19, B 0#8), (20, B 0#8), (21, B 0#8), (22, B 0#8), (23, B 0#8), (24, B 0#8), (25, B 0#8), (26, B 0#8), (27, B 0#8), (28, B 0#8), (29, B 0#8), (30, B 0#8), (31, B 16#8)]) rfl (build22 _ _ _ _ _ _ _ _ _ _ _ _ _ _ _ _ _ _ _ _ _ _ _ _ _ _ _ _ _ _ _ _)) ?_; clear hS; intro a hS
  refine s_storeAll hS hM rfl rfl (j := 0) rfl sz22 cells_len cells_len cB_one ?_; clear hS hM; intro a w hS hM
  refine s_nil ?_
  refine k_seq ?_
  refine c_ret ?_
  exact k_res1 hS rfl (RV.row rfl (hM.have_ _ (mem_of_get (j := 0) rfl)) Try.underlying22 rfl (by rw [sz22]; exact congrArg some cells_len.symm)) ⟨(by rw [← ordBytes]), hM.done ⟨hb0, trivial⟩⟩

set_option maxRecDepth 100000 in
theorem digits_ok (w0 : World) {v : Value} {m : Nat} {f : Nat → BitVec 8} (hr : Rd w0 v m (fun i => B (f i))) (hm : m ≤ 64) : NewRow Try.prog 32 #[v] w0 2 34 (fun i => I (dig (natB f m) i)) := by
  refine ⟨by kernel_rfl, ?_⟩
  refine calls_sym Try.func32 rfl (by kernel_rfl) ?_
  intro a hS
  have hM : Mem w0 w0 [] := Mem.refl w0
  refine c_seq ?_
  refine c_region ?_
  refine s_val hS (by decide) rfl rfl (r_assign hS rfl) ?_; clear hS; intro a hS
  refine s_nil ?_
  refine k_seq ?_
  refine c_seq ?_
  refine c_region ?_
  refine s_make hS hM (by decide) (show ev _ _ = some (N 34) from rfl) (show ev _ _ = some (N 34) from rfl) made47_34 ?_; clear hS hM; intro a b5 w hb5 hS hM
  refine s_val hS (by decide) rfl rfl (r_assign hS rfl) ?_; clear hS; intro a hS
  refine s_nil ?_
  refine k_seq ?_
  refine c_seq ?_
  refine c_seq ?_
  refine c_region ?_
  refine s_val hS (by decide) rfl rfl (r_assign hS (show ev _ _ = some (N 0) from rfl)) ?_; clear hS; intro a hS
  refine s_nil ?_
  refine k_seq ?_
  refine c_block ?_
  refine c_loop (σ := Nat) (fun k a w => (k ≤ m) ∧ Slots a 33 (env [(0, v), (3, .slice (some ⟨b5, 0, none⟩) 34 34), (4, N k)]) ∧ Mem w0 w ([⟨b5, 2, cI 34 (dig (natB f k))⟩])) (fun k => m - k) (0) ⟨by omega, hS.to _ ⟨rfl, rfl, rfl, trivial⟩, (hM.congr (by show _ = [(⟨b5, 2, cI 34 (dig 0)⟩ : Blk)]; rw [dig_zero]))⟩ ?_
  clear hS hM; rintro k a w ⟨hk, hS, hM⟩
  refine c_seq ?_
  refine c_seq ?_
  refine c_region ?_
  refine s_val hS (by decide) rfl rfl (r_move hS rfl) ?_; clear hS; intro a hS
  refine s_val hS (by decide) rfl rfl (r_move hS rfl) ?_; clear hS; intro a hS
  refine s_val hS (by decide) rfl rfl (r_lenR hS rfl (hr.keepGe hM ⟨hb5, trivial⟩) Try.underlying40) ?_; clear hS; intro a hS
  refine s_val hS (by decide) rfl rfl (r_bv hS rfl rfl gN (b_lssN _ _ _)) ?_; clear hS; intro a hS
  refine s_nil ?_
  refine k_seq ?_
  refine c_cond hS rfl (fun hc => ?_) (fun hc => ?_)
  · have hk1 := of_decide_eq_true hc
    refine c_skip ?_
    refine k_seq ?_
    refine c_seq ?_
    refine c_block ?_
    refine c_plan 20 (fun w => Mem w0 w _) [(3, _), (4, _), (0, _), (6, _), (7, _), (8, _), (9, _)] (by kernel_rfl) (by kernel_rfl) hS ⟨rfl, rfl, rfl, rfl, rfl, rfl, rfl, trivial⟩ (hM.drawn _) ?_; clear hS hM
    refine p_step rfl (fun a w hS hM => y_val rfl (r_move hS rfl)) ?_
    refine p_step rfl (fun a w hS hM => y_val rfl (r_move hS rfl)) ?_
    refine p_step rfl (fun a w hS hM => y_val rfl (r_bv hS rfl (show ev _ _ = some (N 2) from rfl) gN (b_quoN _ _ _ (by omega) (by omega)))) ?_
    refine p_step rfl (fun a w hS hM => y_val rfl (r_move hS rfl)) ?_
    refine p_step rfl (fun a w hS hM => y_val rfl (r_move hS rfl)) ?_
    refine p_step rfl (fun a w hS hM => y_val rfl (r_bv hS rfl (show ev _ _ = some (N 2) from rfl) gN (b_quoN _ _ _ (by omega) (by omega)))) ?_
    refine p_step rfl (fun a w hS hM => y_val rfl (r_indexS0 hS rfl rfl Try.underlying47 sz2 (by omega))) ?_
    refine p_step rfl (fun a w hS hM => y_val rfl (r_load hS hM rfl (j := 0) rfl Try.underlying2 rfl (cells_get (by omega)))) ?_
    refine p_step rfl (fun a w hS hM => y_val rfl (r_move hS rfl)) ?_
    refine p_step rfl (fun a w hS hM => y_val rfl (r_move hS rfl)) ?_
    refine p_step rfl (fun a w hS hM => y_val rfl (r_indexR hS rfl (hr.keepGe hM ⟨hb5, trivial⟩) rfl Try.underlying40 sz5 (by omega))) ?_
    refine p_step rfl (fun a w hS hM => y_val rfl (r_loadR hS rfl (hr.keepGe hM ⟨hb5, trivial⟩) (by omega) Try.underlying5 rfl)) ?_
    refine p_step rfl (fun a w hS hM => y_val rfl (r_conv hS rfl (by kernel_rfl) Try.underlying2 (cv_BI _))) ?_
    refine p_step rfl (fun a w hS hM => y_val rfl (r_move hS rfl)) ?_
    refine p_step rfl (fun a w hS hM => y_val rfl (r_bv hS rfl (show ev _ _ = some (N 2) from rfl) gN (b_remN _ _ _ (by omega)))) ?_
    refine p_step rfl (fun a w hS hM => y_val rfl (r_bv hS (show ev _ _ = some (N 8) from rfl) rfl gN (b_mulN _ _ _ (by omega)))) ?_
    refine p_step rfl (fun a w hS hM => y_val rfl (r_conv hS rfl (by kernel_rfl) Try.underlying50 (cv_NU _))) ?_
    refine p_step rfl (fun a w hS hM => y_val rfl (r_bv hS rfl rfl gI (b_shlI _ _ _ (BitVec.toNat _)))) ?_
    refine p_step rfl (fun a w hS hM => y_val rfl (r_bv hS rfl rfl gI (b_addI _ _ _))) ?_
    refine p_step rfl (fun a w hS hM => y_val rfl (r_indexS0 hS rfl rfl Try.underlying47 sz2 (by omega))) ?_
    refine p_nil rfl ?_; intro a w hS hM
    refine s_storeI hS hM rfl rfl (j := 0) rfl sz2 (by omega) ?_; clear hS hM; intro a w hS hM
    refine s_nil ?_
    refine k_in ?_
    refine k_seq ?_
    refine c_region ?_
    refine s_val hS (by decide) rfl rfl (r_move hS rfl) ?_; clear hS; intro a hS
    refine s_val hS (by decide) rfl rfl (r_bv hS rfl (show ev _ _ = some (N 1) from rfl) gN (b_addN _ _ _ (by omega))) ?_; clear hS; intro a hS
    refine s_val hS (by decide) rfl rfl (r_assign hS rfl) ?_; clear hS; intro a hS
    refine s_nil ?_
    refine k_then ?_
    refine ⟨k + 1, by omega, by omega, hS.to _ ⟨rfl, rfl, rfl, trivial⟩, (hM.congr (congrArg (fun c => [(⟨b5, 2, c⟩ : Blk)]) (cI_congr (dig_lay f k 34 (by omega) _ (ofNat_toNat_lt (by omega))))))⟩
  · obtain rfl : k = m := by have := of_decide_eq_false hc; omega
    refine c_exit ?_
    refine k_thenx ?_
    refine k_thenx ?_
    refine k_inx ?_
    refine k_seq ?_
    refine c_seq ?_
    refine c_region ?_
    refine s_val hS (by decide) rfl rfl (r_move hS rfl) ?_; clear hS; intro a hS
    refine s_val hS (by decide) rfl rfl (r_assign hS rfl) ?_; clear hS; intro a hS
    refine s_nil ?_
    refine k_seq ?_
    refine c_ret ?_
    exact k_res1 hS rfl (RV.tmp rfl) (newrow_end hb5 hM)

set_option maxRecDepth 100000 in
theorem carried_ok (w0 : World) (b : Nat) (f : Nat → BitVec 64) (hb : w0.heap[b]? = some (.cells (cI 34 f).toArray 2 (0, 0))) : Wrote Try.prog 33 #[.slice (some ⟨b, 0, none⟩) 34 34] w0 b 2 (cI 34 (nrmTo f 33)) (.slice (some ⟨b, 0, none⟩) 34 34) := by
  refine ⟨by kernel_rfl, ?_⟩
  refine calls_sym Try.func33 rfl (by kernel_rfl) ?_
  intro a hS
  have hM : Mem w0 w0 [⟨b, 2, cI 34 f⟩] := Mem.start hb
  refine c_seq ?_
  refine c_region ?_
  refine s_val hS (by decide) rfl rfl (r_assign hS rfl) ?_; clear hS; intro a hS
  refine s_nil ?_
  refine k_seq ?_
  refine c_seq ?_
  refine c_seq ?_
  refine c_region ?_
  refine s_val hS (by decide) rfl rfl (r_assign hS (show ev _ _ = some (N 0) from rfl)) ?_; clear hS; intro a hS
  refine s_nil ?_
  refine k_seq ?_
  refine c_block ?_
  refine c_loop (σ := Nat) (fun k a w => (k ≤ 33) ∧ Slots a 35 (env [(0, .slice (some ⟨b, 0, none⟩) 34 34), (3, N k)]) ∧ Mem w0 w ([⟨b, 2, cI 34 (nrmTo f k)⟩])) (fun k => 33 - k) (0) ⟨by omega, hS.to _ ⟨rfl, rfl, trivial⟩, hM⟩ ?_
  clear hS hM; rintro k a w ⟨hk, hS, hM⟩
  refine c_seq ?_
  refine c_seq ?_
  refine c_region ?_
  refine s_val hS (by decide) rfl rfl (r_move hS rfl) ?_; clear hS; intro a hS
  refine s_val hS (by decide) rfl rfl (r_bv hS rfl (show ev _ _ = some (N 1) from rfl) gN (b_addN _ _ _ (by omega))) ?_; clear hS; intro a hS
  refine s_val hS (by decide) rfl rfl (r_move hS rfl) ?_; clear hS; intro a hS
  refine s_val hS (by decide) rfl rfl (r_len hS rfl Try.underlying47) ?_; clear hS; intro a hS
  refine s_val hS (by decide) rfl rfl (r_bv hS rfl rfl gN (b_lssN _ _ _)) ?_; clear hS; intro a hS
  refine s_nil ?_
  refine k_seq ?_
  refine c_cond hS rfl (fun hc => ?_) (fun hc => ?_)
  · have hk1 := of_decide_eq_true hc
    refine c_skip ?_
    refine k_seq ?_
    refine c_seq ?_
    refine c_block ?_
    refine c_seq ?_
    refine c_plan 15 (fun w => Mem w0 w _) [(0, _), (3, _), (4, _), (5, _), (6, _), (7, _), (8, _)] (by kernel_rfl) (by kernel_rfl) hS ⟨rfl, rfl, rfl, rfl, rfl, rfl, rfl, trivial⟩ (hM.drawn _) ?_; clear hS hM
    refine p_step rfl (fun a w hS hM => y_val rfl (r_move hS rfl)) ?_
    refine p_step rfl (fun a w hS hM => y_val rfl (r_move hS rfl)) ?_
    refine p_step rfl (fun a w hS hM => y_val rfl (r_bv hS rfl (show ev _ _ = some (N 1) from rfl) gN (b_addN _ _ _ (by omega)))) ?_
    refine p_step rfl (fun a w hS hM => y_val rfl (r_move hS rfl)) ?_
    refine p_step rfl (fun a w hS hM => y_val rfl (r_move hS rfl)) ?_
    refine p_step rfl (fun a w hS hM => y_val rfl (r_bv hS rfl (show ev _ _ = some (N 1) from rfl) gN (b_addN _ _ _ (by omega)))) ?_
    refine p_step rfl (fun a w hS hM => y_val rfl (r_indexS0 hS rfl rfl Try.underlying47 sz2 (by omega))) ?_
    refine p_step rfl (fun a w hS hM => y_val rfl (r_load hS hM rfl (j := 0) rfl Try.underlying2 rfl (cells_get (by omega)))) ?_
    refine p_step rfl (fun a w hS hM => y_val rfl (r_move hS rfl)) ?_
    refine p_step rfl (fun a w hS hM => y_val rfl (r_move hS rfl)) ?_
    refine p_step rfl (fun a w hS hM => y_val rfl (r_indexS0 hS rfl rfl Try.underlying47 sz2 (by omega))) ?_
    refine p_step rfl (fun a w hS hM => y_val rfl (r_load hS hM rfl (j := 0) rfl Try.underlying2 rfl (cells_get (by omega)))) ?_
    refine p_step rfl (fun a w hS hM => y_val rfl (r_bv hS rfl (show ev _ _ = some (.int .u64 ((16 : Nat) : Int)) from rfl) gI (b_shrI _ _ _ 16))) ?_
    refine p_step rfl (fun a w hS hM => y_val rfl (r_bv hS rfl rfl gI (b_addI _ _ _))) ?_
    refine p_step rfl (fun a w hS hM => y_val rfl (r_indexS0 hS rfl rfl Try.underlying47 sz2 (by omega))) ?_
    refine p_nil rfl ?_; intro a w hS hM
    refine s_storeI hS hM rfl rfl (j := 0) rfl sz2 (by omega) ?_; clear hS hM; intro a w hS hM
    refine s_nil ?_
    refine k_seq ?_
    refine c_region ?_
    refine s_val hS (by decide) rfl rfl (r_move hS rfl) ?_; clear hS; intro a hS
    refine s_val hS (by decide) rfl rfl (r_move hS rfl) ?_; clear hS; intro a hS
    refine s_val hS (by decide) rfl rfl (r_move hS rfl) ?_; clear hS; intro a hS
    refine s_val hS (by decide) rfl rfl (r_move hS rfl) ?_; clear hS; intro a hS
    refine s_val hS (by decide) rfl rfl (r_indexS0 hS rfl rfl Try.underlying47 sz2 (by omega)) ?_; clear hS; intro a hS
    refine s_val hS (by decide) rfl rfl (r_load hS hM rfl (j := 0) rfl Try.underlying2 rfl (cells_get (by omega))) ?_; clear hS; intro a hS
    refine s_val hS (by decide) rfl rfl (r_bv hS rfl (show ev _ _ = some (I 65535#64) from rfl) gI (b_andI _ _ _)) ?_; clear hS; intro a hS
    refine s_val hS (by decide) rfl rfl (r_indexS0 hS rfl rfl Try.underlying47 sz2 (by omega)) ?_; clear hS; intro a hS
    refine s_storeI hS hM rfl rfl (j := 0) rfl sz2 (by omega) ?_; clear hS hM; intro a w hS hM
    refine s_nil ?_
    refine k_in ?_
    refine k_seq ?_
    refine c_region ?_
    refine s_val hS (by decide) rfl rfl (r_move hS rfl) ?_; clear hS; intro a hS
    refine s_val hS (by decide) rfl rfl (r_bv hS rfl (show ev _ _ = some (N 1) from rfl) gN (b_addN _ _ _ (by omega))) ?_; clear hS; intro a hS
    refine s_val hS (by decide) rfl rfl (r_assign hS rfl) ?_; clear hS; intro a hS
    refine s_nil ?_
    refine k_then ?_
    refine ⟨k + 1, by omega, by omega, hS.to _ ⟨rfl, rfl, trivial⟩, (hM.congr (by rw [upd_ne _ _ (show k ≠ k + 1 by omega)]; rfl))⟩
  · obtain rfl : k = 33 := by have := of_decide_eq_false hc; omega
    refine c_exit ?_
    refine k_thenx ?_
    refine k_thenx ?_
    refine k_inx ?_
    refine k_seq ?_
    refine c_seq ?_
    refine c_region ?_
    refine s_val hS (by decide) rfl rfl (r_move hS rfl) ?_; clear hS; intro a hS
    refine s_val hS (by decide) rfl rfl (r_assign hS rfl) ?_; clear hS; intro a hS
    refine s_nil ?_
    refine k_seq ?_
    refine c_ret ?_
    exact k_res1 hS rfl (RV.tmp rfl) ⟨rfl, hM⟩

set_option maxRecDepth 100000 in
theorem modulo_ok (w0 : World) {v : Value} {n : Nat} (hr : Rd w0 v 34 (fun i => I (dig n i))) (hn : n < pd 34) : Pure Try.prog 31 #[v] w0 (.agg (cB 32 (byt (n % ordL))).toArray) := by
  refine ⟨by kernel_rfl, ?_⟩
  refine calls_sym Try.func31 rfl (by kernel_rfl) ?_
  intro a hS
  have hM : Mem w0 w0 [] := Mem.refl w0
  refine c_seq ?_
  refine c_region ?_
  refine s_alloc hS hM (by decide) zero22 ?_; clear hS hM; intro a b2 w hb2 hS hM
  refine s_nil ?_
  refine k_seq ?_
  refine c_seq ?_
  refine c_region ?_
  refine s_pure hS hM (by decide) rfl (rorder_ok _) ?_; clear hS hM; intro a w hS hM
  refine s_alloc hS hM (by decide) zero22 ?_; clear hS hM; intro a b3 w hb3 hS hM
  refine s_storeAll hS hM rfl rfl (j := 0) rfl sz22 cells_len cells_len cB_one ?_; clear hS hM; intro a w hS hM
  refine s_nil ?_
  refine k_seq ?_
  refine c_seq ?_
  refine c_region ?_
  refine s_val hS (by decide) rfl rfl (r_sliceA0 hS rfl Try.underlying22 sz5) ?_; clear hS; intro a hS
  refine s_newrow hS hM (by decide) rfl (digits_ok _ (rd_row hM (j := 0) rfl) (by decide)) ?_; clear hS hM; intro a w b16 hb16 hS hM
  rw [natB_bytL ord_lt256] at hM
  refine s_val hS (by decide) rfl rfl (r_assign hS rfl) ?_; clear hS; intro a hS
  refine s_nil ?_
  refine k_seq ?_
  refine c_seq ?_
  refine c_region ?_
  refine s_val hS (by decide) rfl rfl (r_build hS rfl (cs := cI 17 (fun _ => 0)) (fun _ => by kernel_rfl)) ?_; clear hS; intro a hS
  refine s_alloc hS hM (by decide) zero55 ?_; clear hS hM; intro a b5 w hb5 hS hM
  refine s_storeAll hS hM rfl rfl (j := 0) rfl sz55 cells_len cells_len cI_one ?_; clear hS hM; intro a w hS hM
  refine s_nil ?_
  refine k_seq ?_
  refine c_seq ?_
  refine c_seq ?_
  refine c_region ?_
  refine s_val hS (by decide) rfl rfl (r_move hS rfl) ?_; clear hS; intro a hS
  refine s_val hS (by decide) rfl rfl (r_lenR hS rfl (hr.keepGe hM ⟨hb5, hb16, hb3, hb2, trivial⟩) Try.underlying47) ?_; clear hS; intro a hS
  refine s_val hS (by decide) rfl rfl (r_bv hS (show ev _ _ = some (N 16) from rfl) rfl gN (b_mulN _ _ _ (by omega))) ?_; clear hS; intro a hS
  refine s_val hS (by decide) rfl rfl (r_bv hS rfl (show ev _ _ = some (N 1) from rfl) gN (b_subN _ _ _ (by omega) (by omega))) ?_; clear hS; intro a hS
  refine s_val hS (by decide) rfl rfl (r_assign hS rfl) ?_; clear hS; intro a hS
  refine s_nil ?_
  refine k_seq ?_
  refine c_block ?_
  refine c_loop (σ := Nat) (fun k a w => (k ≤ 544) ∧ Slots a 112 (env [(0, v), (2, ptr b2 0), (4, .slice (some ⟨b16, 0, none⟩) 34 34), (5, ptr b5 0), (6, .int .i64 ((k : Int) - 1))]) ∧ Mem w0 w ([⟨b5, 55, cI 17 (dig (red n k))⟩, ⟨b16, 2, cI 34 (dig ordL)⟩, ⟨b3, 22, cB 32 (byt ordL)⟩, ⟨b2, 22, cB 32 (fun _ => 0)⟩])) (fun k => k) (544) ⟨by omega, hS.to _ ⟨rfl, rfl, rfl, rfl, rfl, trivial⟩, (hM.congr (by show _ = [(⟨b5, 55, cI 17 (dig (red n 544))⟩ : Blk), _, _, _]; rw [show red n 544 = 0 from red_pd (k := 34) hn, dig_zero]; rfl))⟩ ?_
  clear hS hM; rintro k a w ⟨hk, hS, hM⟩
  refine c_seq ?_
  refine c_seq ?_
  refine c_region ?_
  refine s_val hS (by decide) rfl rfl (r_move hS rfl) ?_; clear hS; intro a hS
  refine s_val hS (by decide) rfl rfl (r_bv hS rfl (show ev _ _ = some (.int .i64 (0)) from rfl) gZ (b_geqZ _ _ _)) ?_; clear hS; intro a hS
  refine s_nil ?_
  refine k_seq ?_
  refine c_cond hS rfl (fun hc => ?_) (fun hc => ?_)
  · obtain ⟨i, rfl⟩ : ∃ i, k = i + 1 := (by have := of_decide_eq_true hc; exact ⟨k - 1, by omega⟩); replace hS := hS.to [(0, v), (2, ptr b2 0), (4, .slice (some ⟨b16, 0, none⟩) 34 34), (5, ptr b5 0), (6, N i)] ⟨rfl, rfl, rfl, rfl, congrArg (fun z => some (Value.int .i64 z)) (by omega), trivial⟩; have hb1 : n / 2 ^ i % 2 ≤ 1 := (by omega)
    refine c_skip ?_
    refine k_seq ?_
    refine c_seq ?_
    refine c_block ?_
    refine c_seq ?_
    refine c_region ?_
    refine s_val hS (by decide) rfl rfl (r_move hS rfl) ?_; clear hS; intro a hS
    refine s_val hS (by decide) rfl rfl (r_move hS rfl) ?_; clear hS; intro a hS
    refine s_val hS (by decide) rfl rfl (r_bv hS rfl (show ev _ _ = some (N 16) from rfl) gN (b_quoN _ _ _ (by omega) (by omega))) ?_; clear hS; intro a hS
    refine s_val hS (by decide) rfl rfl (r_indexR hS rfl (hr.keepGe hM ⟨hb5, hb16, hb3, hb2, trivial⟩) rfl Try.underlying47 sz2 (by omega)) ?_; clear hS; intro a hS
    refine s_val hS (by decide) rfl rfl (r_loadR hS rfl (hr.keepGe hM ⟨hb5, hb16, hb3, hb2, trivial⟩) (by omega) Try.underlying2 rfl) ?_; clear hS; intro a hS
    refine s_val hS (by decide) rfl rfl (r_move hS rfl) ?_; clear hS; intro a hS
    refine s_val hS (by decide) rfl rfl (r_bv hS rfl (show ev _ _ = some (N 16) from rfl) gN (b_remN _ _ _ (by omega))) ?_; clear hS; intro a hS
    refine s_val hS (by decide) rfl rfl (r_conv hS rfl (by kernel_rfl) Try.underlying50 (cv_NU _)) ?_; clear hS; intro a hS
    refine s_val hS (by decide) rfl rfl (r_bv hS rfl rfl gI (b_shrI _ _ _ (BitVec.toNat _))) ?_; clear hS; intro a hS
    refine s_val hS (by decide) rfl rfl (r_bv hS rfl (show ev _ _ = some (I 1#64) from rfl) gI (b_andI _ _ _)) ?_; clear hS; intro a hS
    refine s_val hS (by decide) rfl rfl (r_assign hS rfl) ?_; clear hS; intro a hS
    refine s_nil ?_
    refine k_seq ?_
    refine c_seq ?_
    refine c_seq ?_
    refine c_region ?_
    refine s_val hS (by decide) rfl rfl (r_assign hS (show ev _ _ = some (N 0) from rfl)) ?_; clear hS; intro a hS
    refine s_nil ?_
    refine k_seq ?_
    refine c_block ?_
    refine c_loop (σ := Nat) (fun j a w => (j ≤ 17) ∧ Slots a 112 (env [(0, v), (2, ptr b2 0), (4, .slice (some ⟨b16, 0, none⟩) 34 34), (5, ptr b5 0), (6, N i), (7, I (BitVec.ofNat 64 (dblC (red n (i + 1)) (n / 2 ^ i % 2) j))), (8, N j)]) ∧ Mem w0 w ([⟨b5, 55, cI 17 (mixD (2 * red n (i + 1) + n / 2 ^ i % 2) (red n (i + 1)) j)⟩, ⟨b16, 2, cI 34 (dig ordL)⟩, ⟨b3, 22, cB 32 (byt ordL)⟩, ⟨b2, 22, cB 32 (fun _ => 0)⟩])) (fun j => 17 - j) (0) ⟨by omega, hS.to _ ⟨rfl, rfl, rfl, rfl, rfl, congrArg (fun v => some (I v)) (by rw [dblC_zero]; exact dig_bit n i _ (ofNat_toNat_lt (by omega))), rfl, trivial⟩, (by rw [mixD_zero]; exact hM)⟩ ?_
    clear hS hM; rintro j a w ⟨hk, hS, hM⟩
    refine c_seq ?_
    refine c_seq ?_
    refine c_region ?_
    refine s_val hS (by decide) rfl rfl (r_move hS rfl) ?_; clear hS; intro a hS
    refine s_val hS (by decide) rfl rfl (r_bv hS rfl (show ev _ _ = some (N 17) from rfl) gN (b_lssN _ _ _)) ?_; clear hS; intro a hS
    refine s_nil ?_
    refine k_seq ?_
    refine c_cond hS rfl (fun hc => ?_) (fun hc => ?_)
    · have hj1 := of_decide_eq_true hc
      refine c_skip ?_
      refine k_seq ?_
      refine c_seq ?_
      refine c_block ?_
      refine c_seq ?_
      refine c_region ?_
      refine s_val hS (by decide) rfl rfl (r_move hS rfl) ?_; clear hS; intro a hS
      refine s_val hS (by decide) rfl rfl (r_move hS rfl) ?_; clear hS; intro a hS
      refine s_val hS (by decide) rfl rfl (r_index0 hS rfl rfl Try.underlying55 sz2 (by omega)) ?_; clear hS; intro a hS
      refine s_val hS (by decide) rfl rfl (r_load hS hM rfl (j := 0) rfl Try.underlying2 rfl (cells_get (by omega))) ?_; clear hS; intro a hS
      refine s_val hS (by decide) rfl rfl (r_bv hS (show ev _ _ = some (I 2#64) from rfl) rfl gI (b_mulI _ _ _)) ?_; clear hS; intro a hS
      refine s_val hS (by decide) rfl rfl (r_bv hS rfl rfl gI (b_addI _ _ _)) ?_; clear hS; intro a hS
      refine s_val hS (by decide) rfl rfl (r_assign hS rfl) ?_; clear hS; intro a hS
      refine s_nil ?_
      refine k_seq ?_
      refine c_seq ?_
      refine c_region ?_
      refine s_val hS (by decide) rfl rfl (r_move hS rfl) ?_; clear hS; intro a hS
      refine s_val hS (by decide) rfl rfl (r_move hS rfl) ?_; clear hS; intro a hS
      refine s_val hS (by decide) rfl rfl (r_bv hS rfl (show ev _ _ = some (I 65535#64) from rfl) gI (b_andI _ _ _)) ?_; clear hS; intro a hS
      refine s_val hS (by decide) rfl rfl (r_index0 hS rfl rfl Try.underlying55 sz2 (by omega)) ?_; clear hS; intro a hS
      refine s_storeI hS hM rfl rfl (j := 0) rfl sz2 (by omega) ?_; clear hS hM; intro a w hS hM
      refine s_nil ?_
      refine k_seq ?_
      refine c_region ?_
      refine s_val hS (by decide) rfl rfl (r_move hS rfl) ?_; clear hS; intro a hS
      refine s_val hS (by decide) rfl rfl (r_bv hS rfl (show ev _ _ = some (.int .u64 ((16 : Nat) : Int)) from rfl) gI (b_shrI _ _ _ 16)) ?_; clear hS; intro a hS
      refine s_val hS (by decide) rfl rfl (r_assign hS rfl) ?_; clear hS; intro a hS
      refine s_nil ?_
      refine k_in ?_
      refine k_seq ?_
      refine c_region ?_
      refine s_val hS (by decide) rfl rfl (r_move hS rfl) ?_; clear hS; intro a hS
      refine s_val hS (by decide) rfl rfl (r_bv hS rfl (show ev _ _ = some (N 1) from rfl) gN (b_addN _ _ _ (by omega))) ?_; clear hS; intro a hS
      refine s_val hS (by decide) rfl rfl (r_assign hS rfl) ?_; clear hS; intro a hS
      refine s_nil ?_
      refine k_then ?_
      refine ⟨j + 1, by omega, by omega, hS.to _ ⟨rfl, rfl, rfl, rfl, rfl, congrArg (fun v => some (I v)) (by rw [mixD_self]; exact dbl_carry _ _ _ hb1), rfl, trivial⟩, (hM.congr (by rw [mixD_self, dbl_digit _ _ _ hb1, ← mixD_upd]; rfl))⟩
    · obtain rfl : j = 17 := (by have := of_decide_eq_false hc; omega); rw [cI_mixD] at hM; obtain ⟨q, hq⟩ : ∃ q, q = 2 * red n (i + 1) + n / 2 ^ i % 2 := ⟨_, rfl⟩; rw [← hq] at hM
      refine c_exit ?_
      refine k_thenx ?_
      refine k_thenx ?_
      refine k_inx ?_
      refine k_seq ?_
      refine c_seq ?_
      refine c_region ?_
      refine s_val hS (by decide) rfl rfl (r_loadAll hS hM rfl (j := 0) rfl Try.underlying55 rfl sz55 cells_len) ?_; clear hS; intro a hS
      refine s_alloc hS hM (by decide) zero55 ?_; clear hS hM; intro a b9 w hb9 hS hM
      refine s_storeAll hS hM rfl rfl (j := 0) rfl sz55 cells_len cells_len cI_one ?_; clear hS hM; intro a w hS hM
      refine s_nil ?_
      refine k_seq ?_
      refine c_seq ?_
      refine c_seq ?_
      refine c_region ?_
      refine s_val hS (by decide) rfl rfl (r_assign hS (show ev _ _ = some (N 0) from rfl)) ?_; clear hS; intro a hS
      refine s_nil ?_
      refine k_seq ?_
      refine c_block ?_
      refine c_loop (σ := Nat) (fun j a w => (j ≤ 17) ∧ Slots a 112 (env [(0, v), (2, ptr b2 0), (4, .slice (some ⟨b16, 0, none⟩) 34 34), (5, ptr b5 0), (6, N i), (9, ptr b9 0), (10, N j)]) ∧ Mem w0 w ([⟨b9, 55, cI 17 (mixS q ordL j)⟩, ⟨b5, 55, cI 17 (dig q)⟩, ⟨b16, 2, cI 34 (dig ordL)⟩, ⟨b3, 22, cB 32 (byt ordL)⟩, ⟨b2, 22, cB 32 (fun _ => 0)⟩])) (fun j => 17 - j) (0) ⟨by omega, hS.to _ ⟨rfl, rfl, rfl, rfl, rfl, rfl, rfl, trivial⟩, (by rw [mixS_zero]; exact hM)⟩ ?_
      clear hS hM; rintro j a w ⟨hk, hS, hM⟩
      refine c_seq ?_
      refine c_seq ?_
      refine c_region ?_
      refine s_val hS (by decide) rfl rfl (r_move hS rfl) ?_; clear hS; intro a hS
      refine s_val hS (by decide) rfl rfl (r_bv hS rfl (show ev _ _ = some (N 17) from rfl) gN (b_lssN _ _ _)) ?_; clear hS; intro a hS
      refine s_nil ?_
      refine k_seq ?_
      refine c_cond hS rfl (fun hc => ?_) (fun hc => ?_)
      · have hj1 := of_decide_eq_true hc
        refine c_skip ?_
        refine k_seq ?_
        refine c_seq ?_
        refine c_block ?_
        refine c_plan 10 (fun w => Mem w0 w _) [(10, _), (9, _), (4, _), (0, _), (2, _), (5, _), (6, _), (53, _), (54, _)] (by kernel_rfl) (by kernel_rfl) hS ⟨rfl, rfl, rfl, rfl, rfl, rfl, rfl, rfl, rfl, trivial⟩ (hM.drawn _) ?_; clear hS hM
        refine p_step rfl (fun a w hS hM => y_val rfl (r_move hS rfl)) ?_
        refine p_step rfl (fun a w hS hM => y_val rfl (r_move hS rfl)) ?_
        refine p_step rfl (fun a w hS hM => y_val rfl (r_index0 hS rfl rfl Try.underlying55 sz2 (by omega))) ?_
        refine p_step rfl (fun a w hS hM => y_val rfl (r_load hS hM rfl (j := 0) rfl Try.underlying2 rfl (cells_get (by omega)))) ?_
        refine p_step rfl (fun a w hS hM => y_val rfl (r_move hS rfl)) ?_
        refine p_step rfl (fun a w hS hM => y_val rfl (r_move hS rfl)) ?_
        refine p_step rfl (fun a w hS hM => y_val rfl (r_indexS0 hS rfl rfl Try.underlying47 sz2 (by omega))) ?_
        refine p_step rfl (fun a w hS hM => y_val rfl (r_load hS hM rfl (j := 2) rfl Try.underlying2 rfl (cells_get (by omega)))) ?_
        refine p_step rfl (fun a w hS hM => y_val rfl (r_bv hS rfl rfl gI (b_subI _ _ _))) ?_
        refine p_step rfl (fun a w hS hM => y_val rfl (r_index0 hS rfl rfl Try.underlying55 sz2 (by omega))) ?_
        refine p_nil rfl ?_; intro a w hS hM
        refine s_storeI hS hM rfl rfl (j := 0) rfl sz2 (by omega) ?_; clear hS hM; intro a w hS hM
        refine s_nil ?_
        refine k_in ?_
        refine k_seq ?_
        refine c_region ?_
        refine s_val hS (by decide) rfl rfl (r_move hS rfl) ?_; clear hS; intro a hS
        refine s_val hS (by decide) rfl rfl (r_bv hS rfl (show ev _ _ = some (N 1) from rfl) gN (b_addN _ _ _ (by omega))) ?_; clear hS; intro a hS
        refine s_val hS (by decide) rfl rfl (r_assign hS rfl) ?_; clear hS; intro a hS
        refine s_nil ?_
        refine k_then ?_
        refine ⟨j + 1, by omega, by omega, hS.to _ ⟨rfl, rfl, rfl, rfl, rfl, rfl, rfl, trivial⟩, (hM.congr (by rw [← mixS_step]; rfl))⟩
      · obtain rfl : j = 17 := (by have := of_decide_eq_false hc; omega); rw [cI_mixS] at hM
        refine c_exit ?_
        refine k_thenx ?_
        refine k_thenx ?_
        refine k_inx ?_
        refine k_seq ?_
        refine c_seq ?_
        refine c_seq ?_
        refine c_region ?_
        refine s_val hS (by decide) rfl rfl (r_assign hS (show ev _ _ = some (N 0) from rfl)) ?_; clear hS; intro a hS
        refine s_nil ?_
        refine k_seq ?_
        refine c_block ?_
        refine c_loop (σ := Nat) (fun j a w => (j ≤ 16) ∧ Slots a 112 (env [(0, v), (2, ptr b2 0), (4, .slice (some ⟨b16, 0, none⟩) 34 34), (5, ptr b5 0), (6, N i), (9, ptr b9 0), (11, N j)]) ∧ Mem w0 w ([⟨b9, 55, cI 17 (nrmTo (subD q ordL) j)⟩, ⟨b5, 55, cI 17 (dig q)⟩, ⟨b16, 2, cI 34 (dig ordL)⟩, ⟨b3, 22, cB 32 (byt ordL)⟩, ⟨b2, 22, cB 32 (fun _ => 0)⟩])) (fun j => 16 - j) (0) ⟨by omega, hS.to _ ⟨rfl, rfl, rfl, rfl, rfl, rfl, rfl, trivial⟩, hM⟩ ?_
        clear hS hM; rintro j a w ⟨hk, hS, hM⟩
        refine c_seq ?_
        refine c_seq ?_
        refine c_region ?_
        refine s_val hS (by decide) rfl rfl (r_move hS rfl) ?_; clear hS; intro a hS
        refine s_val hS (by decide) rfl rfl (r_bv hS rfl (show ev _ _ = some (N 16) from rfl) gN (b_lssN _ _ _)) ?_; clear hS; intro a hS
        refine s_nil ?_
        refine k_seq ?_
        refine c_cond hS rfl (fun hc => ?_) (fun hc => ?_)
        · have hj1 := of_decide_eq_true hc
          refine c_skip ?_
          refine k_seq ?_
          refine c_seq ?_
          refine c_block ?_
          refine c_seq ?_
          refine c_plan 12 (fun w => Mem w0 w _) [(11, _), (9, _), (0, _), (2, _), (4, _), (5, _), (6, _), (67, _), (68, _)] (by kernel_rfl) (by kernel_rfl) hS ⟨rfl, rfl, rfl, rfl, rfl, rfl, rfl, rfl, rfl, trivial⟩ (hM.drawn _) ?_; clear hS hM
          refine p_step rfl (fun a w hS hM => y_val rfl (r_move hS rfl)) ?_
          refine p_step rfl (fun a w hS hM => y_val rfl (r_bv hS rfl (show ev _ _ = some (N 1) from rfl) gN (b_addN _ _ _ (by omega)))) ?_
          refine p_step rfl (fun a w hS hM => y_val rfl (r_move hS rfl)) ?_
          refine p_step rfl (fun a w hS hM => y_val rfl (r_bv hS rfl (show ev _ _ = some (N 1) from rfl) gN (b_addN _ _ _ (by omega)))) ?_
          refine p_step rfl (fun a w hS hM => y_val rfl (r_index0 hS rfl rfl Try.underlying55 sz2 (by omega))) ?_
          refine p_step rfl (fun a w hS hM => y_val rfl (r_load hS hM rfl (j := 0) rfl Try.underlying2 rfl (cells_get (by omega)))) ?_
          refine p_step rfl (fun a w hS hM => y_val rfl (r_move hS rfl)) ?_
          refine p_step rfl (fun a w hS hM => y_val rfl (r_index0 hS rfl rfl Try.underlying55 sz2 (by omega))) ?_
          refine p_step rfl (fun a w hS hM => y_val rfl (r_load hS hM rfl (j := 0) rfl Try.underlying2 rfl (cells_get (by omega)))) ?_
          refine p_step rfl (fun a w hS hM => y_val rfl (r_bv hS rfl (show ev _ _ = some (.int .u64 ((16 : Nat) : Int)) from rfl) gI (b_shrI _ _ _ 16))) ?_
          refine p_step rfl (fun a w hS hM => y_val rfl (r_bv hS rfl rfl gI (b_addI _ _ _))) ?_
          refine p_step rfl (fun a w hS hM => y_val rfl (r_index0 hS rfl rfl Try.underlying55 sz2 (by omega))) ?_
          refine p_nil rfl ?_; intro a w hS hM
          refine s_storeI hS hM rfl rfl (j := 0) rfl sz2 (by omega) ?_; clear hS hM; intro a w hS hM
          refine s_nil ?_
          refine k_seq ?_
          refine c_region ?_
          refine s_val hS (by decide) rfl rfl (r_move hS rfl) ?_; clear hS; intro a hS
          refine s_val hS (by decide) rfl rfl (r_move hS rfl) ?_; clear hS; intro a hS
          refine s_val hS (by decide) rfl rfl (r_index0 hS rfl rfl Try.underlying55 sz2 (by omega)) ?_; clear hS; intro a hS
          refine s_val hS (by decide) rfl rfl (r_load hS hM rfl (j := 0) rfl Try.underlying2 rfl (cells_get (by omega))) ?_; clear hS; intro a hS
          refine s_val hS (by decide) rfl rfl (r_bv hS rfl (show ev _ _ = some (I 65535#64) from rfl) gI (b_andI _ _ _)) ?_; clear hS; intro a hS
          refine s_val hS (by decide) rfl rfl (r_index0 hS rfl rfl Try.underlying55 sz2 (by omega)) ?_; clear hS; intro a hS
          refine s_storeI hS hM rfl rfl (j := 0) rfl sz2 (by omega) ?_; clear hS hM; intro a w hS hM
          refine s_nil ?_
          refine k_in ?_
          refine k_seq ?_
          refine c_region ?_
          refine s_val hS (by decide) rfl rfl (r_move hS rfl) ?_; clear hS; intro a hS
          refine s_val hS (by decide) rfl rfl (r_bv hS rfl (show ev _ _ = some (N 1) from rfl) gN (b_addN _ _ _ (by omega))) ?_; clear hS; intro a hS
          refine s_val hS (by decide) rfl rfl (r_assign hS rfl) ?_; clear hS; intro a hS
          refine s_nil ?_
          refine k_then ?_
          refine ⟨j + 1, by omega, by omega, hS.to _ ⟨rfl, rfl, rfl, rfl, rfl, rfl, rfl, trivial⟩, (hM.congr (by rw [upd_ne _ _ (show j ≠ j + 1 by omega)]; rfl))⟩
        · obtain rfl : j = 16 := (by have := of_decide_eq_false hc; omega)
          refine c_exit ?_
          refine k_thenx ?_
          refine k_thenx ?_
          refine k_inx ?_
          refine k_seq ?_
          refine c_seq ?_
          refine c_region ?_
          refine s_val hS (by decide) rfl rfl (r_index0 hS rfl (show ev _ _ = some (.int .i64 ((16 : Nat) : Int)) from rfl) Try.underlying55 sz2 (by decide)) ?_; clear hS; intro a hS
          refine s_val hS (by decide) rfl rfl (r_load hS hM rfl (j := 0) rfl Try.underlying2 rfl (cells_get (by omega))) ?_; clear hS; intro a hS
          refine s_val hS (by decide) rfl rfl (r_bv hS rfl (show ev _ _ = some (I 0#64) from rfl) gI (b_geqI _ _ _)) ?_; clear hS; intro a hS
          refine s_nil ?_
          refine k_seq ?_
          refine c_cond hS rfl (fun hc => ?_) (fun hc => ?_)
          · have hc' := of_decide_eq_true hc
            refine c_region ?_
            refine s_val hS (by decide) rfl rfl (r_loadAll hS hM rfl (j := 0) rfl Try.underlying55 rfl sz55 cells_len) ?_; clear hS; intro a hS
            refine s_storeAll hS hM rfl rfl (j := 1) rfl sz55 cells_len cells_len cI_one ?_; clear hS hM; intro a w hS hM
            refine s_nil ?_
            refine k_in ?_
            refine k_seq ?_
            refine c_region ?_
            refine s_val hS (by decide) rfl rfl (r_move hS rfl) ?_; clear hS; intro a hS
            refine s_val hS (by decide) rfl rfl (r_bv hS rfl (show ev _ _ = some (.int .i64 (1)) from rfl) gZ (b_subZ _ _ _ (by omega))) ?_; clear hS; intro a hS
            refine s_val hS (by decide) rfl rfl (r_assign hS rfl) ?_; clear hS; intro a hS
            refine s_nil ?_
            refine k_then ?_
            refine ⟨i, by omega, by omega, hS.to _ ⟨rfl, rfl, rfl, rfl, rfl, trivial⟩, ((hM.drop hb9).congr (by first | (rw [← mod_yes hq hc']; rfl) | rw [← mod_no hq hc']))⟩
          · have hc' := of_decide_eq_false hc
            refine c_skip ?_
            refine k_in ?_
            refine k_seq ?_
            refine c_region ?_
            refine s_val hS (by decide) rfl rfl (r_move hS rfl) ?_; clear hS; intro a hS
            refine s_val hS (by decide) rfl rfl (r_bv hS rfl (show ev _ _ = some (.int .i64 (1)) from rfl) gZ (b_subZ _ _ _ (by omega))) ?_; clear hS; intro a hS
            refine s_val hS (by decide) rfl rfl (r_assign hS rfl) ?_; clear hS; intro a hS
            refine s_nil ?_
            refine k_then ?_
            refine ⟨i, by omega, by omega, hS.to _ ⟨rfl, rfl, rfl, rfl, rfl, trivial⟩, ((hM.drop hb9).congr (by first | (rw [← mod_yes hq hc']; rfl) | rw [← mod_no hq hc']))⟩
  · obtain rfl : k = 0 := (by have := of_decide_eq_false hc; omega); rw [red_zero] at hM
    refine c_exit ?_
    refine k_thenx ?_
    refine k_thenx ?_
    refine k_inx ?_
    refine k_seq ?_
    refine c_seq ?_
    refine c_region ?_
    refine s_val hS (by decide) rfl rfl (r_build hS rfl (cs := cB 32 (fun _ => 0)) (fun _ => by kernel_rfl)) ?_; clear hS; intro a hS
    refine s_alloc hS hM (by decide) zero22 ?_; clear hS hM; intro a b12 w hb12 hS hM
    refine s_storeAll hS hM rfl rfl (j := 0) rfl sz22 cells_len cells_len cB_one ?_; clear hS hM; intro a w hS hM
    refine s_nil ?_
    refine k_seq ?_
    refine c_seq ?_
    refine c_seq ?_
    refine c_region ?_
    refine s_val hS (by decide) rfl rfl (r_assign hS (show ev _ _ = some (N 0) from rfl)) ?_; clear hS; intro a hS
    refine s_nil ?_
    refine k_seq ?_
    refine c_block ?_
    refine c_loop (σ := Nat) (fun j a w => (j ≤ 32) ∧ Slots a 112 (env [(2, ptr b2 0), (5, ptr b5 0), (12, ptr b12 0), (13, N j)]) ∧ Mem w0 w ([⟨b12, 22, cB 32 (fil 0 (byt (n % ordL)) j)⟩, ⟨b5, 55, cI 17 (dig (n % ordL))⟩, ⟨b16, 2, cI 34 (dig ordL)⟩, ⟨b3, 22, cB 32 (byt ordL)⟩, ⟨b2, 22, cB 32 (fun _ => 0)⟩])) (fun j => 32 - j) (0) ⟨by omega, hS.to _ ⟨rfl, rfl, rfl, rfl, trivial⟩, hM⟩ ?_
    clear hS hM; rintro j a w ⟨hk, hS, hM⟩
    refine c_seq ?_
    refine c_seq ?_
    refine c_region ?_
    refine s_val hS (by decide) rfl rfl (r_move hS rfl) ?_; clear hS; intro a hS
    refine s_val hS (by decide) rfl rfl (r_bv hS rfl (show ev _ _ = some (N 32) from rfl) gN (b_lssN _ _ _)) ?_; clear hS; intro a hS
    refine s_nil ?_
    refine k_seq ?_
    refine c_cond hS rfl (fun hc => ?_) (fun hc => ?_)
    · have hj1 := of_decide_eq_true hc
      refine c_skip ?_
      refine k_seq ?_
      refine c_seq ?_
      refine c_block ?_
      refine c_region ?_
      refine s_val hS (by decide) rfl rfl (r_move hS rfl) ?_; clear hS; intro a hS
      refine s_val hS (by decide) rfl rfl (r_move hS rfl) ?_; clear hS; intro a hS
      refine s_val hS (by decide) rfl rfl (r_bv hS rfl (show ev _ _ = some (N 2) from rfl) gN (b_quoN _ _ _ (by omega) (by omega))) ?_; clear hS; intro a hS
      refine s_val hS (by decide) rfl rfl (r_index0 hS rfl rfl Try.underlying55 sz2 (by omega)) ?_; clear hS; intro a hS
      refine s_val hS (by decide) rfl rfl (r_load hS hM rfl (j := 1) rfl Try.underlying2 rfl (cells_get (by omega))) ?_; clear hS; intro a hS
      refine s_val hS (by decide) rfl rfl (r_move hS rfl) ?_; clear hS; intro a hS
      refine s_val hS (by decide) rfl rfl (r_bv hS rfl (show ev _ _ = some (N 2) from rfl) gN (b_remN _ _ _ (by omega))) ?_; clear hS; intro a hS
      refine s_val hS (by decide) rfl rfl (r_bv hS (show ev _ _ = some (N 8) from rfl) rfl gN (b_mulN _ _ _ (by omega))) ?_; clear hS; intro a hS
      refine s_val hS (by decide) rfl rfl (r_conv hS rfl (by kernel_rfl) Try.underlying50 (cv_NU _)) ?_; clear hS; intro a hS
      refine s_val hS (by decide) rfl rfl (r_bv hS rfl rfl gI (b_shrI _ _ _ (BitVec.toNat _))) ?_; clear hS; intro a hS
      refine s_val hS (by decide) rfl rfl (r_bv hS rfl (show ev _ _ = some (I 255#64) from rfl) gI (b_andI _ _ _)) ?_; clear hS; intro a hS
      refine s_val hS (by decide) rfl rfl (r_conv hS rfl (by kernel_rfl) Try.underlying5 (cv_IB _)) ?_; clear hS; intro a hS
      refine s_val hS (by decide) rfl rfl (r_index0 hS rfl rfl Try.underlying22 sz5 (by omega)) ?_; clear hS; intro a hS
      refine s_storeB hS hM rfl rfl (j := 0) rfl sz5 (by omega) ?_; clear hS hM; intro a w hS hM
      refine s_nil ?_
      refine k_in ?_
      refine k_seq ?_
      refine c_region ?_
      refine s_val hS (by decide) rfl rfl (r_move hS rfl) ?_; clear hS; intro a hS
      refine s_val hS (by decide) rfl rfl (r_bv hS rfl (show ev _ _ = some (N 1) from rfl) gN (b_addN _ _ _ (by omega))) ?_; clear hS; intro a hS
      refine s_val hS (by decide) rfl rfl (r_assign hS rfl) ?_; clear hS; intro a hS
      refine s_nil ?_
      refine k_then ?_
      refine ⟨j + 1, by omega, by omega, hS.to _ ⟨rfl, rfl, rfl, rfl, trivial⟩, (hM.congr (by rw [dig_byt _ _ _ (ofNat_toNat_lt (by omega))]; rfl))⟩
    · obtain rfl : j = 32 := (by have := of_decide_eq_false hc; omega); rw [cB_fil] at hM
      refine c_exit ?_
      refine k_thenx ?_
      refine k_thenx ?_
      refine k_inx ?_
      refine k_seq ?_
      refine c_seq ?_
      refine c_region ?_
      refine s_val hS (by decide) rfl rfl (r_loadAll hS hM rfl (j := 0) rfl Try.underlying22 rfl sz22 cells_len) ?_; clear hS; intro a hS
      refine s_storeAll hS hM rfl rfl (j := 4) rfl sz22 cells_len cells_len cB_one ?_; clear hS hM; intro a w hS hM
      refine s_nil ?_
      refine k_seq ?_
      refine c_ret ?_
      exact k_res1 hS rfl (RV.row rfl (hM.have_ _ (mem_of_get (j := 4) rfl)) Try.underlying22 rfl (by rw [sz22]; exact congrArg some cells_len.symm)) ⟨rfl, hM.done ⟨hb12, hb5, hb16, hb3, hb2, trivial⟩⟩

set_option maxRecDepth 100000 in
theorem rreduce_ok (f : Nat → BitVec 8) (w0 : World) : Pure Try.prog 19 #[.agg (cB 64 f).toArray] w0 (.agg (cB 32 (byt (natB f 64 % ordL))).toArray) := by
  refine ⟨by kernel_rfl, ?_⟩
  refine calls_sym Try.func19 rfl (by kernel_rfl) ?_
  intro a hS
  have hM : Mem w0 w0 [] := Mem.refl w0
  refine c_seq ?_
  refine c_region ?_
  refine s_box hS hM (by decide) rfl rfl ?_; clear hS hM; intro a b1 w hb1 hS hM
  refine s_alloc hS hM (by decide) zero22 ?_; clear hS hM; intro a b2 w hb2 hS hM
  refine s_nil ?_
  refine k_seq ?_
  refine c_seq ?_
  refine c_region ?_
  refine s_val hS (by decide) rfl rfl (r_sliceA0 hS rfl Try.underlying29 sz5) ?_; clear hS; intro a hS
  refine s_newrow hS hM (by decide) rfl (digits_ok _ (rd_row hM (j := 1) rfl) (by decide)) ?_; clear hS hM; intro a w b4 hb4 hS hM
  refine s_pure hS hM (by decide) rfl (modulo_ok _ (rd_row hM (j := 0) rfl) (natB_pd f (by decide))) ?_; clear hS hM; intro a w hS hM
  refine s_storeAll hS hM rfl rfl (j := 1) rfl sz22 cells_len cells_len cB_one ?_; clear hS hM; intro a w hS hM
  refine s_nil ?_
  refine k_seq ?_
  refine c_ret ?_
  exact k_res1 hS rfl (RV.row rfl (hM.have_ _ (mem_of_get (j := 1) rfl)) Try.underlying22 rfl (by rw [sz22]; exact congrArg some cells_len.symm)) ⟨rfl, hM.done ⟨hb4, hb2, hb1, trivial⟩⟩

set_option maxRecDepth 100000 in
theorem rsum_ok (f g : Nat → BitVec 8) (w0 : World) : Pure Try.prog 20 #[.agg (cB 32 f).toArray, .agg (cB 32 g).toArray] w0 (.agg (cB 32 (byt ((natB f 32 + natB g 32) % ordL))).toArray) := by
  refine ⟨by kernel_rfl, ?_⟩
  refine calls_sym Try.func20 rfl (by kernel_rfl) ?_
  intro a hS
  have hM : Mem w0 w0 [] := Mem.refl w0
  refine c_seq ?_
  refine c_region ?_
  refine s_box hS hM (by decide) rfl rfl ?_; clear hS hM; intro a b2 w hb2 hS hM
  refine s_box hS hM (by decide) rfl rfl ?_; clear hS hM; intro a b3 w hb3 hS hM
  refine s_alloc hS hM (by decide) zero22 ?_; clear hS hM; intro a b4 w hb4 hS hM
  refine s_nil ?_
  refine k_seq ?_
  refine c_seq ?_
  refine c_region ?_
  refine s_val hS (by decide) rfl rfl (r_sliceA0 hS rfl Try.underlying22 sz5) ?_; clear hS; intro a hS
  refine s_newrow hS hM (by decide) rfl (digits_ok _ (rd_row hM (j := 2) rfl) (by decide)) ?_; clear hS hM; intro a w b9 hb9 hS hM
  refine s_val hS (by decide) rfl rfl (r_assign hS rfl) ?_; clear hS; intro a hS
  refine s_nil ?_
  refine k_seq ?_
  refine c_seq ?_
  refine c_region ?_
  refine s_val hS (by decide) rfl rfl (r_sliceA0 hS rfl Try.underlying22 sz5) ?_; clear hS; intro a hS
  refine s_newrow hS hM (by decide) rfl (digits_ok _ (rd_row hM (j := 2) rfl) (by decide)) ?_; clear hS hM; intro a w b11 hb11 hS hM
  refine s_val hS (by decide) rfl rfl (r_assign hS rfl) ?_; clear hS; intro a hS
  refine s_nil ?_
  refine k_seq ?_
  refine c_seq ?_
  refine c_seq ?_
  refine c_region ?_
  refine s_val hS (by decide) rfl rfl (r_assign hS (show ev _ _ = some (N 0) from rfl)) ?_; clear hS; intro a hS
  refine s_nil ?_
  refine k_seq ?_
  refine c_block ?_
  refine c_loop (σ := Nat) (fun k a w => (k ≤ 34) ∧ Slots a 33 (env [(4, ptr b4 0), (5, .slice (some ⟨b9, 0, none⟩) 34 34), (6, .slice (some ⟨b11, 0, none⟩) 34 34), (7, N k)]) ∧ Mem w0 w ([⟨b11, 2, cI 34 (dig (natB g 32))⟩, ⟨b9, 2, cI 34 (mixA (natB f 32) (natB g 32) k)⟩, ⟨b4, 22, cB 32 (fun _ => 0)⟩, ⟨b3, 22, cB 32 g⟩, ⟨b2, 22, cB 32 f⟩])) (fun k => 34 - k) (0) ⟨by omega, hS.to _ ⟨rfl, rfl, rfl, rfl, trivial⟩, (by rw [mixA_zero]; exact hM)⟩ ?_
  clear hS hM; rintro k a w ⟨hk, hS, hM⟩
  refine c_seq ?_
  refine c_seq ?_
  refine c_region ?_
  refine s_val hS (by decide) rfl rfl (r_move hS rfl) ?_; clear hS; intro a hS
  refine s_val hS (by decide) rfl rfl (r_move hS rfl) ?_; clear hS; intro a hS
  refine s_val hS (by decide) rfl rfl (r_len hS rfl Try.underlying47) ?_; clear hS; intro a hS
  refine s_val hS (by decide) rfl rfl (r_bv hS rfl rfl gN (b_lssN _ _ _)) ?_; clear hS; intro a hS
  refine s_nil ?_
  refine k_seq ?_
  refine c_cond hS rfl (fun hc => ?_) (fun hc => ?_)
  · have hk1 := of_decide_eq_true hc
    refine c_skip ?_
    refine k_seq ?_
    refine c_seq ?_
    refine c_block ?_
    refine c_plan 12 (fun w => Mem w0 w _) [(5, _), (7, _), (6, _), (4, _), (12, _), (13, _), (14, _), (15, _)] (by kernel_rfl) (by kernel_rfl) hS ⟨rfl, rfl, rfl, rfl, rfl, rfl, rfl, rfl, trivial⟩ (hM.drawn _) ?_; clear hS hM
    refine p_step rfl (fun a w hS hM => y_val rfl (r_move hS rfl)) ?_
    refine p_step rfl (fun a w hS hM => y_val rfl (r_move hS rfl)) ?_
    refine p_step rfl (fun a w hS hM => y_val rfl (r_move hS rfl)) ?_
    refine p_step rfl (fun a w hS hM => y_val rfl (r_move hS rfl)) ?_
    refine p_step rfl (fun a w hS hM => y_val rfl (r_indexS0 hS rfl rfl Try.underlying47 sz2 (by omega))) ?_
    refine p_step rfl (fun a w hS hM => y_val rfl (r_load hS hM rfl (j := 1) rfl Try.underlying2 rfl (cells_get (by omega)))) ?_
    refine p_step rfl (fun a w hS hM => y_val rfl (r_move hS rfl)) ?_
    refine p_step rfl (fun a w hS hM => y_val rfl (r_move hS rfl)) ?_
    refine p_step rfl (fun a w hS hM => y_val rfl (r_indexS0 hS rfl rfl Try.underlying47 sz2 (by omega))) ?_
    refine p_step rfl (fun a w hS hM => y_val rfl (r_load hS hM rfl (j := 0) rfl Try.underlying2 rfl (cells_get (by omega)))) ?_
    refine p_step rfl (fun a w hS hM => y_val rfl (r_bv hS rfl rfl gI (b_addI _ _ _))) ?_
    refine p_step rfl (fun a w hS hM => y_val rfl (r_indexS0 hS rfl rfl Try.underlying47 sz2 (by omega))) ?_
    refine p_nil rfl ?_; intro a w hS hM
    refine s_storeI hS hM rfl rfl (j := 1) rfl sz2 (by omega) ?_; clear hS hM; intro a w hS hM
    refine s_nil ?_
    refine k_in ?_
    refine k_seq ?_
    refine c_region ?_
    refine s_val hS (by decide) rfl rfl (r_move hS rfl) ?_; clear hS; intro a hS
    refine s_val hS (by decide) rfl rfl (r_bv hS rfl (show ev _ _ = some (N 1) from rfl) gN (b_addN _ _ _ (by omega))) ?_; clear hS; intro a hS
    refine s_val hS (by decide) rfl rfl (r_assign hS rfl) ?_; clear hS; intro a hS
    refine s_nil ?_
    refine k_then ?_
    refine ⟨k + 1, by omega, by omega, hS.to _ ⟨rfl, rfl, rfl, rfl, trivial⟩, (hM.congr (by rw [← mixA_step]; rfl))⟩
  · obtain rfl : k = 34 := (by have := of_decide_eq_false hc; omega); rw [cI_mixA] at hM
    refine c_exit ?_
    refine k_thenx ?_
    refine k_thenx ?_
    refine k_inx ?_
    refine k_seq ?_
    refine c_seq ?_
    refine c_region ?_
    refine s_val hS (by decide) rfl rfl (r_move hS rfl) ?_; clear hS; intro a hS
    refine s_wrote hS hM (by decide) rfl (j := 1) rfl (carried_ok _ _ _ (hM.block (j := 1) rfl)) ?_; clear hS hM; intro a w hS hM
    rw [sum_cells] at hM
    refine s_pure hS hM (by decide) rfl (modulo_ok _ (rd_row hM (j := 1) rfl) (sum_pd f g)) ?_; clear hS hM; intro a w hS hM
    refine s_storeAll hS hM rfl rfl (j := 2) rfl sz22 cells_len cells_len cB_one ?_; clear hS hM; intro a w hS hM
    refine s_nil ?_
    refine k_seq ?_
    refine c_ret ?_
    exact k_res1 hS rfl (RV.row rfl (hM.have_ _ (mem_of_get (j := 2) rfl)) Try.underlying22 rfl (by rw [sz22]; exact congrArg some cells_len.symm)) ⟨rfl, hM.done ⟨hb11, hb9, hb4, hb3, hb2, trivial⟩⟩

set_option maxRecDepth 100000 in
theorem rminus_ok (f : Nat → BitVec 8) (w0 : World) : Pure Try.prog 21 #[.agg (cB 32 f).toArray] w0 (.agg (cB 32 (byt ((ordL - natB f 32 % ordL) % ordL))).toArray) := by
  refine ⟨by kernel_rfl, ?_⟩
  refine calls_sym Try.func21 rfl (by kernel_rfl) ?_
  intro a hS
  have hM : Mem w0 w0 [] := Mem.refl w0
  refine c_seq ?_
  refine c_region ?_
  refine s_box hS hM (by decide) rfl rfl ?_; clear hS hM; intro a b1 w hb1 hS hM
  refine s_alloc hS hM (by decide) zero22 ?_; clear hS hM; intro a b2 w hb2 hS hM
  refine s_nil ?_
  refine k_seq ?_
  refine c_seq ?_
  refine c_region ?_
  refine s_val hS (by decide) rfl rfl (r_sliceA0 hS rfl Try.underlying22 sz5) ?_; clear hS; intro a hS
  refine s_newrow hS hM (by decide) rfl (digits_ok _ (rd_row hM (j := 1) rfl) (by decide)) ?_; clear hS hM; intro a w b9 hb9 hS hM
  refine s_pure hS hM (by decide) rfl (modulo_ok _ (rd_row hM (j := 0) rfl) (natB_pd f (by decide))) ?_; clear hS hM; intro a w hS hM
  refine s_alloc hS hM (by decide) zero22 ?_; clear hS hM; intro a b3 w hb3 hS hM
  refine s_storeAll hS hM rfl rfl (j := 0) rfl sz22 cells_len cells_len cB_one ?_; clear hS hM; intro a w hS hM
  refine s_nil ?_
  refine k_seq ?_
  refine c_seq ?_
  refine c_region ?_
  refine s_pure hS hM (by decide) rfl (rorder_ok _) ?_; clear hS hM; intro a w hS hM
  refine s_alloc hS hM (by decide) zero22 ?_; clear hS hM; intro a b4 w hb4 hS hM
  refine s_storeAll hS hM rfl rfl (j := 0) rfl sz22 cells_len cells_len cB_one ?_; clear hS hM; intro a w hS hM
  refine s_nil ?_
  refine k_seq ?_
  refine c_seq ?_
  refine c_region ?_
  refine s_val hS (by decide) rfl rfl (r_sliceA0 hS rfl Try.underlying22 sz5) ?_; clear hS; intro a hS
  refine s_newrow hS hM (by decide) rfl (digits_ok _ (rd_row hM (j := 0) rfl) (by decide)) ?_; clear hS hM; intro a w b13 hb13 hS hM
  rw [natB_bytL ord_lt256] at hM
  refine s_val hS (by decide) rfl rfl (r_assign hS rfl) ?_; clear hS; intro a hS
  refine s_nil ?_
  refine k_seq ?_
  refine c_seq ?_
  refine c_region ?_
  refine s_val hS (by decide) rfl rfl (r_sliceA0 hS rfl Try.underlying22 sz5) ?_; clear hS; intro a hS
  refine s_newrow hS hM (by decide) rfl (digits_ok _ (rd_row hM (j := 2) rfl) (by decide)) ?_; clear hS hM; intro a w b15 hb15 hS hM
  rw [natB_bytL (mod_lt256 _)] at hM
  refine s_val hS (by decide) rfl rfl (r_assign hS rfl) ?_; clear hS; intro a hS
  refine s_nil ?_
  refine k_seq ?_
  refine c_seq ?_
  refine c_seq ?_
  refine c_region ?_
  refine s_val hS (by decide) rfl rfl (r_assign hS (show ev _ _ = some (N 0) from rfl)) ?_; clear hS; intro a hS
  refine s_nil ?_
  refine k_seq ?_
  refine c_block ?_
  refine c_loop (σ := Nat) (fun k a w => (k ≤ 34) ∧ Slots a 37 (env [(2, ptr b2 0), (5, .slice (some ⟨b13, 0, none⟩) 34 34), (6, .slice (some ⟨b15, 0, none⟩) 34 34), (7, N k)]) ∧ Mem w0 w ([⟨b15, 2, cI 34 (dig (natB f 32 % ordL))⟩, ⟨b13, 2, cI 34 (mixS ordL (natB f 32 % ordL) k)⟩, ⟨b4, 22, cB 32 (byt ordL)⟩, ⟨b3, 22, cB 32 (byt (natB f 32 % ordL))⟩, ⟨b9, 2, cI 34 (dig (natB f 32))⟩, ⟨b2, 22, cB 32 (fun _ => 0)⟩, ⟨b1, 22, cB 32 f⟩])) (fun k => 34 - k) (0) ⟨by omega, hS.to _ ⟨rfl, rfl, rfl, rfl, trivial⟩, (by rw [mixS_zero]; exact hM)⟩ ?_
  clear hS hM; rintro k a w ⟨hk, hS, hM⟩
  refine c_seq ?_
  refine c_seq ?_
  refine c_region ?_
  refine s_val hS (by decide) rfl rfl (r_move hS rfl) ?_; clear hS; intro a hS
  refine s_val hS (by decide) rfl rfl (r_move hS rfl) ?_; clear hS; intro a hS
  refine s_val hS (by decide) rfl rfl (r_len hS rfl Try.underlying47) ?_; clear hS; intro a hS
  refine s_val hS (by decide) rfl rfl (r_bv hS rfl rfl gN (b_lssN _ _ _)) ?_; clear hS; intro a hS
  refine s_nil ?_
  refine k_seq ?_
  refine c_cond hS rfl (fun hc => ?_) (fun hc => ?_)
  · have hk1 := of_decide_eq_true hc
    refine c_skip ?_
    refine k_seq ?_
    refine c_seq ?_
    refine c_block ?_
    refine c_plan 12 (fun w => Mem w0 w _) [(5, _), (7, _), (6, _), (2, _), (16, _), (17, _), (18, _), (19, _)] (by kernel_rfl) (by kernel_rfl) hS ⟨rfl, rfl, rfl, rfl, rfl, rfl, rfl, rfl, trivial⟩ (hM.drawn _) ?_; clear hS hM
    refine p_step rfl (fun a w hS hM => y_val rfl (r_move hS rfl)) ?_
    refine p_step rfl (fun a w hS hM => y_val rfl (r_move hS rfl)) ?_
    refine p_step rfl (fun a w hS hM => y_val rfl (r_move hS rfl)) ?_
    refine p_step rfl (fun a w hS hM => y_val rfl (r_move hS rfl)) ?_
    refine p_step rfl (fun a w hS hM => y_val rfl (r_indexS0 hS rfl rfl Try.underlying47 sz2 (by omega))) ?_
    refine p_step rfl (fun a w hS hM => y_val rfl (r_load hS hM rfl (j := 1) rfl Try.underlying2 rfl (cells_get (by omega)))) ?_
    refine p_step rfl (fun a w hS hM => y_val rfl (r_move hS rfl)) ?_
    refine p_step rfl (fun a w hS hM => y_val rfl (r_move hS rfl)) ?_
    refine p_step rfl (fun a w hS hM => y_val rfl (r_indexS0 hS rfl rfl Try.underlying47 sz2 (by omega))) ?_
    refine p_step rfl (fun a w hS hM => y_val rfl (r_load hS hM rfl (j := 0) rfl Try.underlying2 rfl (cells_get (by omega)))) ?_
    refine p_step rfl (fun a w hS hM => y_val rfl (r_bv hS rfl rfl gI (b_subI _ _ _))) ?_
    refine p_step rfl (fun a w hS hM => y_val rfl (r_indexS0 hS rfl rfl Try.underlying47 sz2 (by omega))) ?_
    refine p_nil rfl ?_; intro a w hS hM
    refine s_storeI hS hM rfl rfl (j := 1) rfl sz2 (by omega) ?_; clear hS hM; intro a w hS hM
    refine s_nil ?_
    refine k_in ?_
    refine k_seq ?_
    refine c_region ?_
    refine s_val hS (by decide) rfl rfl (r_move hS rfl) ?_; clear hS; intro a hS
    refine s_val hS (by decide) rfl rfl (r_bv hS rfl (show ev _ _ = some (N 1) from rfl) gN (b_addN _ _ _ (by omega))) ?_; clear hS; intro a hS
    refine s_val hS (by decide) rfl rfl (r_assign hS rfl) ?_; clear hS; intro a hS
    refine s_nil ?_
    refine k_then ?_
    refine ⟨k + 1, by omega, by omega, hS.to _ ⟨rfl, rfl, rfl, rfl, trivial⟩, (hM.congr (by rw [← mixS_step]; rfl))⟩
  · obtain rfl : k = 34 := (by have := of_decide_eq_false hc; omega); rw [cI_mixS] at hM
    refine c_exit ?_
    refine k_thenx ?_
    refine k_thenx ?_
    refine k_inx ?_
    refine k_seq ?_
    refine c_seq ?_
    refine c_region ?_
    refine s_val hS (by decide) rfl rfl (r_move hS rfl) ?_; clear hS; intro a hS
    refine s_wrote hS hM (by decide) rfl (j := 1) rfl (carried_ok _ _ _ (hM.block (j := 1) rfl)) ?_; clear hS hM; intro a w hS hM
    rw [minus_cells (Nat.le_of_lt (Nat.mod_lt _ ordL_pos))] at hM
    refine s_pure hS hM (by decide) rfl (modulo_ok _ (rd_row hM (j := 1) rfl) (lack_pd _)) ?_; clear hS hM; intro a w hS hM
    refine s_storeAll hS hM rfl rfl (j := 5) rfl sz22 cells_len cells_len cB_one ?_; clear hS hM; intro a w hS hM
    refine s_nil ?_
    refine k_seq ?_
    refine c_ret ?_
    exact k_res1 hS rfl (RV.row rfl (hM.have_ _ (mem_of_get (j := 5) rfl)) Try.underlying22 rfl (by rw [sz22]; exact congrArg some cells_len.symm)) ⟨rfl, hM.done ⟨hb15, hb13, hb4, hb3, hb9, hb2, hb1, trivial⟩⟩

set_option maxRecDepth 100000 in
theorem rmulAdd_ok (f g h : Nat → BitVec 8) (w0 : World) : Pure Try.prog 22 #[.agg (cB 32 f).toArray, .agg (cB 32 g).toArray, .agg (cB 32 h).toArray] w0 (.agg (cB 32 (byt ((natB f 32 * natB g 32 + natB h 32) % ordL))).toArray) := by
  refine ⟨by kernel_rfl, ?_⟩
  refine calls_sym Try.func22 rfl (by kernel_rfl) ?_
  intro a hS
  have hM : Mem w0 w0 [] := Mem.refl w0
  refine c_seq ?_
  refine c_region ?_
  refine s_box hS hM (by decide) rfl rfl ?_; clear hS hM; intro a b3 w hb3 hS hM
  refine s_box hS hM (by decide) rfl rfl ?_; clear hS hM; intro a b4 w hb4 hS hM
  refine s_box hS hM (by decide) rfl rfl ?_; clear hS hM; intro a b5 w hb5 hS hM
  refine s_alloc hS hM (by decide) zero22 ?_; clear hS hM; intro a b6 w hb6 hS hM
  refine s_nil ?_
  refine k_seq ?_
  refine c_seq ?_
  refine c_region ?_
  refine s_val hS (by decide) rfl rfl (r_sliceA0 hS rfl Try.underlying22 sz5) ?_; clear hS; intro a hS
  refine s_newrow hS hM (by decide) rfl (digits_ok _ (rd_row hM (j := 3) rfl) (by decide)) ?_; clear hS hM; intro a w b13 hb13 hS hM
  refine s_val hS (by decide) rfl rfl (r_assign hS rfl) ?_; clear hS; intro a hS
  refine s_nil ?_
  refine k_seq ?_
  refine c_seq ?_
  refine c_region ?_
  refine s_val hS (by decide) rfl rfl (r_sliceA0 hS rfl Try.underlying22 sz5) ?_; clear hS; intro a hS
  refine s_newrow hS hM (by decide) rfl (digits_ok _ (rd_row hM (j := 3) rfl) (by decide)) ?_; clear hS hM; intro a w b15 hb15 hS hM
  refine s_val hS (by decide) rfl rfl (r_assign hS rfl) ?_; clear hS; intro a hS
  refine s_nil ?_
  refine k_seq ?_
  refine c_seq ?_
  refine c_region ?_
  refine s_val hS (by decide) rfl rfl (r_sliceA0 hS rfl Try.underlying22 sz5) ?_; clear hS; intro a hS
  refine s_newrow hS hM (by decide) rfl (digits_ok _ (rd_row hM (j := 3) rfl) (by decide)) ?_; clear hS hM; intro a w b17 hb17 hS hM
  refine s_val hS (by decide) rfl rfl (r_assign hS rfl) ?_; clear hS; intro a hS
  refine s_nil ?_
  refine k_seq ?_
  refine c_seq ?_
  refine c_seq ?_
  refine c_region ?_
  refine s_val hS (by decide) rfl rfl (r_assign hS (show ev _ _ = some (N 0) from rfl)) ?_; clear hS; intro a hS
  refine s_nil ?_
  refine k_seq ?_
  refine c_block ?_
  refine c_loop (σ := Nat × (Nat → BitVec 64)) (fun s a w => (s.1 ≤ 16 ∧ MaIn 34 (natB f 32) (natB g 32) (natB h 32) s.1 0 s.2) ∧ Slots a 50 (env [(6, ptr b6 0), (7, .slice (some ⟨b13, 0, none⟩) 34 34), (8, .slice (some ⟨b15, 0, none⟩) 34 34), (9, .slice (some ⟨b17, 0, none⟩) 34 34), (10, N s.1)]) ∧ Mem w0 w ([⟨b17, 2, cI 34 s.2⟩, ⟨b15, 2, cI 34 (dig (natB g 32))⟩, ⟨b13, 2, cI 34 (dig (natB f 32))⟩, ⟨b6, 22, cB 32 (fun _ => 0)⟩, ⟨b5, 22, cB 32 h⟩, ⟨b4, 22, cB 32 g⟩, ⟨b3, 22, cB 32 f⟩])) (fun s => 16 - s.1) (0, dig (natB h 32)) ⟨⟨Nat.zero_le _, MaIn.start' _ _ _ _ (natB_pd h (by decide))⟩, hS.to _ ⟨rfl, rfl, rfl, rfl, rfl, trivial⟩, hM⟩ ?_
  clear hS hM; rintro ⟨i, z⟩ a w ⟨hk, hS, hM⟩
  have hk0 := hk; clear hk; dsimp only at hk0 hS hM
  refine c_seq ?_
  refine c_seq ?_
  refine c_region ?_
  refine s_val hS (by decide) rfl rfl (r_move hS rfl) ?_; clear hS; intro a hS
  refine s_val hS (by decide) rfl rfl (r_bv hS rfl (show ev _ _ = some (N 16) from rfl) gN (b_lssN _ _ _)) ?_; clear hS; intro a hS
  refine s_nil ?_
  refine k_seq ?_
  refine c_cond hS rfl (fun hc => ?_) (fun hc => ?_)
  · have hk1 := of_decide_eq_true hc
    refine c_skip ?_
    refine k_seq ?_
    refine c_seq ?_
    refine c_block ?_
    refine c_seq ?_
    refine c_region ?_
    refine s_val hS (by decide) rfl rfl (r_assign hS (show ev _ _ = some (N 0) from rfl)) ?_; clear hS; intro a hS
    refine s_nil ?_
    refine k_seq ?_
    refine c_block ?_
    refine c_loop (σ := Nat × (Nat → BitVec 64)) (fun s a w => (s.1 ≤ 16 ∧ MaIn 34 (natB f 32) (natB g 32) (natB h 32) i s.1 s.2) ∧ Slots a 50 (env [(6, ptr b6 0), (7, .slice (some ⟨b13, 0, none⟩) 34 34), (8, .slice (some ⟨b15, 0, none⟩) 34 34), (9, .slice (some ⟨b17, 0, none⟩) 34 34), (10, N i), (11, N s.1)]) ∧ Mem w0 w ([⟨b17, 2, cI 34 s.2⟩, ⟨b15, 2, cI 34 (dig (natB g 32))⟩, ⟨b13, 2, cI 34 (dig (natB f 32))⟩, ⟨b6, 22, cB 32 (fun _ => 0)⟩, ⟨b5, 22, cB 32 h⟩, ⟨b4, 22, cB 32 g⟩, ⟨b3, 22, cB 32 f⟩])) (fun s => 16 - s.1) (0, z) ⟨⟨Nat.zero_le _, hk0.2⟩, hS.to _ ⟨rfl, rfl, rfl, rfl, rfl, rfl, trivial⟩, hM⟩ ?_
    clear hS hM; rintro ⟨j, y⟩ a w ⟨hk, hS, hM⟩
    have hk3 := hk; clear hk; dsimp only at hk3 hS hM
    refine c_seq ?_
    refine c_seq ?_
    refine c_region ?_
    refine s_val hS (by decide) rfl rfl (r_move hS rfl) ?_; clear hS; intro a hS
    refine s_val hS (by decide) rfl rfl (r_bv hS rfl (show ev _ _ = some (N 16) from rfl) gN (b_lssN _ _ _)) ?_; clear hS; intro a hS
    refine s_nil ?_
    refine k_seq ?_
    refine c_cond hS rfl (fun hc => ?_) (fun hc => ?_)
    · have hk2 := of_decide_eq_true hc
      refine c_skip ?_
      refine k_seq ?_
      refine c_seq ?_
      refine c_block ?_
      refine c_plan 21 (fun w => Mem w0 w _) [(9, _), (10, _), (11, _), (7, _), (8, _), (6, _), (22, _), (23, _)] (by kernel_rfl) (by kernel_rfl) hS ⟨rfl, rfl, rfl, rfl, rfl, rfl, rfl, rfl, trivial⟩ (hM.drawn _) ?_; clear hS hM
      refine p_step rfl (fun a w hS hM => y_val rfl (r_move hS rfl)) ?_
      refine p_step rfl (fun a w hS hM => y_val rfl (r_move hS rfl)) ?_
      refine p_step rfl (fun a w hS hM => y_val rfl (r_move hS rfl)) ?_
      refine p_step rfl (fun a w hS hM => y_val rfl (r_bv hS rfl rfl gN (b_addN _ _ _ (by omega)))) ?_
      refine p_step rfl (fun a w hS hM => y_val rfl (r_move hS rfl)) ?_
      refine p_step rfl (fun a w hS hM => y_val rfl (r_move hS rfl)) ?_
      refine p_step rfl (fun a w hS hM => y_val rfl (r_move hS rfl)) ?_
      refine p_step rfl (fun a w hS hM => y_val rfl (r_bv hS rfl rfl gN (b_addN _ _ _ (by omega)))) ?_
      refine p_step rfl (fun a w hS hM => y_val rfl (r_indexS0 hS rfl rfl Try.underlying47 sz2 (by omega))) ?_
      refine p_step rfl (fun a w hS hM => y_val rfl (r_load hS hM rfl (j := 0) rfl Try.underlying2 rfl (cells_get (by omega)))) ?_
      refine p_step rfl (fun a w hS hM => y_val rfl (r_move hS rfl)) ?_
      refine p_step rfl (fun a w hS hM => y_val rfl (r_move hS rfl)) ?_
      refine p_step rfl (fun a w hS hM => y_val rfl (r_indexS0 hS rfl rfl Try.underlying47 sz2 (by omega))) ?_
      refine p_step rfl (fun a w hS hM => y_val rfl (r_load hS hM rfl (j := 2) rfl Try.underlying2 rfl (cells_get (by omega)))) ?_
      refine p_step rfl (fun a w hS hM => y_val rfl (r_move hS rfl)) ?_
      refine p_step rfl (fun a w hS hM => y_val rfl (r_move hS rfl)) ?_
      refine p_step rfl (fun a w hS hM => y_val rfl (r_indexS0 hS rfl rfl Try.underlying47 sz2 (by omega))) ?_
      refine p_step rfl (fun a w hS hM => y_val rfl (r_load hS hM rfl (j := 1) rfl Try.underlying2 rfl (cells_get (by omega)))) ?_
      refine p_step rfl (fun a w hS hM => y_val rfl (r_bv hS rfl rfl gI (b_mulI _ _ _))) ?_
      refine p_step rfl (fun a w hS hM => y_val rfl (r_bv hS rfl rfl gI (b_addI _ _ _))) ?_
      refine p_step rfl (fun a w hS hM => y_val rfl (r_indexS0 hS rfl rfl Try.underlying47 sz2 (by omega))) ?_
      refine p_nil rfl ?_; intro a w hS hM
      refine s_storeI hS hM rfl rfl (j := 0) rfl sz2 (by omega) ?_; clear hS hM; intro a w hS hM
      refine s_nil ?_
      refine k_in ?_
      refine k_seq ?_
      refine c_region ?_
      refine s_val hS (by decide) rfl rfl (r_move hS rfl) ?_; clear hS; intro a hS
      refine s_val hS (by decide) rfl rfl (r_bv hS rfl (show ev _ _ = some (N 1) from rfl) gN (b_addN _ _ _ (by omega))) ?_; clear hS; intro a hS
      refine s_val hS (by decide) rfl rfl (r_assign hS rfl) ?_; clear hS; intro a hS
      refine s_nil ?_
      refine k_then ?_
      refine ⟨(j + 1, _), (by show 16 - (j + 1) < 16 - j; omega), ⟨by show j + 1 ≤ 16; omega, hk3.2.step hk1 hk2 (by omega)⟩, hS.to _ ⟨rfl, rfl, rfl, rfl, rfl, rfl, trivial⟩, hM⟩
    · obtain rfl : j = 16 := (by have := of_decide_eq_false hc; omega)
      refine c_exit ?_
      refine k_thenx ?_
      refine k_thenx ?_
      refine k_inx ?_
      refine k_in ?_
      refine k_seq ?_
      refine c_region ?_
      refine s_val hS (by decide) rfl rfl (r_move hS rfl) ?_; clear hS; intro a hS
      refine s_val hS (by decide) rfl rfl (r_bv hS rfl (show ev _ _ = some (N 1) from rfl) gN (b_addN _ _ _ (by omega))) ?_; clear hS; intro a hS
      refine s_val hS (by decide) rfl rfl (r_assign hS rfl) ?_; clear hS; intro a hS
      refine s_nil ?_
      refine k_then ?_
      refine ⟨(i + 1, _), (by show 16 - (i + 1) < 16 - i; omega), ⟨by show i + 1 ≤ 16; omega, hk3.2.next⟩, hS.to _ ⟨rfl, rfl, rfl, rfl, rfl, trivial⟩, hM⟩
  · obtain rfl : i = 16 := (by have := of_decide_eq_false hc; omega)
    refine c_exit ?_
    refine k_thenx ?_
    refine k_thenx ?_
    refine k_inx ?_
    refine k_seq ?_
    refine c_seq ?_
    refine c_region ?_
    refine s_val hS (by decide) rfl rfl (r_move hS rfl) ?_; clear hS; intro a hS
    refine s_wrote hS hM (by decide) rfl (j := 0) rfl (carried_ok _ _ _ (hM.block (j := 0) rfl)) ?_; clear hS hM; intro a w hS hM
    rw [mad_cells f g h hk0.2] at hM
    refine s_pure hS hM (by decide) rfl (modulo_ok _ (rd_row hM (j := 0) rfl) (mad_pd f g h)) ?_; clear hS hM; intro a w hS hM
    refine s_storeAll hS hM rfl rfl (j := 3) rfl sz22 cells_len cells_len cB_one ?_; clear hS hM; intro a w hS hM
    refine s_nil ?_
    refine k_seq ?_
    refine c_ret ?_
    exact k_res1 hS rfl (RV.row rfl (hM.have_ _ (mem_of_get (j := 3) rfl)) Try.underlying22 rfl (by rw [sz22]; exact congrArg some cells_len.symm)) ⟨rfl, hM.done ⟨hb17, hb15, hb13, hb6, hb5, hb4, hb3, trivial⟩⟩

set_option maxRecDepth 100000 in
theorem rBit_ok (f : Nat → BitVec 8) (i : Int) (w0 : World) : Pure Try.prog 23 #[.agg (cB 32 f).toArray, .int .i64 i] w0 (N (bitZ f i)) := by
  refine ⟨by kernel_rfl, ?_⟩
  refine calls_sym Try.func23 rfl (by kernel_rfl) ?_
  intro a hS
  have hM : Mem w0 w0 [] := Mem.refl w0
  refine c_seq ?_
  refine c_region ?_
  refine s_box hS hM (by decide) rfl rfl ?_; clear hS hM; intro a b2 w hb2 hS hM
  refine s_val hS (by decide) rfl rfl (r_assign hS (show ev _ _ = some (N 0) from rfl)) ?_; clear hS; intro a hS
  refine s_nil ?_
  refine k_seq ?_
  refine c_seq ?_
  refine c_seq ?_
  refine c_region ?_
  refine s_val hS (by decide) rfl rfl (r_move hS rfl) ?_; clear hS; intro a hS
  refine s_valb hS (by decide) rfl rfl (r_bv hS rfl (show ev _ _ = some (.int .i64 (0)) from rfl) gZ (b_lssZ _ _ _)) (fun hc => ?_) (fun hc => ?_)
  · clear hS; intro a hS; have h1 := of_decide_eq_true hc
    refine s_val hS (by decide) rfl rfl (r_move hS rfl) ?_; clear hS; intro a hS
    refine s_skip hS (by decide) rfl rfl rfl rfl rfl ?_; clear hS; intro a hS
    refine s_skip hS (by decide) rfl rfl rfl rfl rfl ?_; clear hS; intro a hS
    refine s_val hS (by decide) rfl rfl (r_pick hS rfl rfl) ?_; clear hS; intro a hS
    refine s_nil ?_
    refine k_seq ?_
    refine c_true hS rfl rfl ?_
    refine c_seq ?_
    refine c_region ?_
    refine s_val hS (by decide) rfl rfl (r_assign hS (show ev _ _ = some (N 0) from rfl)) ?_; clear hS; intro a hS
    refine s_nil ?_
    refine k_seq ?_
    refine c_ret ?_
    refine k_thenr ?_
    exact k_res1 hS rfl (RV.tmp rfl) ⟨(congrArg (fun q => Ending.returned (N q)) (by first | exact (bitZ_out (by omega)).symm | (rw [ofNat_toNat_lt (by omega)]; exact rbit_in f p (by omega)))), hM.done ⟨hb2, trivial⟩⟩
  · clear hS; intro a hS; have h1 := of_decide_eq_false hc
    refine s_val hS (by decide) rfl rfl (r_move hS rfl) ?_; clear hS; intro a hS
    refine s_valg hS (by decide) rfl rfl rfl rfl rfl (r_move hS rfl) ?_; clear hS; intro a hS
    refine s_valgb hS (by decide) rfl rfl rfl rfl rfl (r_bv hS rfl (show ev _ _ = some (.int .i64 (255)) from rfl) gZ (b_gtrZ _ _ _)) (fun hc => ?_) (fun hc => ?_)
    · clear hS; intro a hS; have h2 := of_decide_eq_true hc
      refine s_val hS (by decide) rfl rfl (r_pick hS rfl rfl) ?_; clear hS; intro a hS
      refine s_nil ?_
      refine k_seq ?_
      refine c_true hS rfl rfl ?_
      refine c_seq ?_
      refine c_region ?_
      refine s_val hS (by decide) rfl rfl (r_assign hS (show ev _ _ = some (N 0) from rfl)) ?_; clear hS; intro a hS
      refine s_nil ?_
      refine k_seq ?_
      refine c_ret ?_
      refine k_thenr ?_
      exact k_res1 hS rfl (RV.tmp rfl) ⟨(congrArg (fun q => Ending.returned (N q)) (by first | exact (bitZ_out (by omega)).symm | (rw [ofNat_toNat_lt (by omega)]; exact rbit_in f p (by omega)))), hM.done ⟨hb2, trivial⟩⟩
    · clear hS; intro a hS; have h2 := of_decide_eq_false hc; obtain ⟨p, rfl⟩ : ∃ j : Nat, i = (j : Int) := ⟨i.toNat, by omega⟩
      refine s_val hS (by decide) rfl rfl (r_pick hS rfl rfl) ?_; clear hS; intro a hS
      refine s_nil ?_
      refine k_seq ?_
      refine c_false hS rfl rfl ?_
      refine c_skip ?_
      refine k_seq ?_
      refine c_seq ?_
      refine c_region ?_
      refine s_val hS (by decide) rfl rfl (r_move hS rfl) ?_; clear hS; intro a hS
      refine s_val hS (by decide) rfl rfl (r_bv hS rfl (show ev _ _ = some (N 8) from rfl) gN (b_quoN _ _ _ (by omega) (by omega))) ?_; clear hS; intro a hS
      refine s_val hS (by decide) rfl rfl (r_index0 hS rfl rfl Try.underlying22 sz5 (by omega)) ?_; clear hS; intro a hS
      refine s_val hS (by decide) rfl rfl (r_load hS hM rfl (j := 0) rfl Try.underlying5 rfl (cells_get (by omega))) ?_; clear hS; intro a hS
      refine s_val hS (by decide) rfl rfl (r_move hS rfl) ?_; clear hS; intro a hS
      refine s_val hS (by decide) rfl rfl (r_bv hS rfl (show ev _ _ = some (N 8) from rfl) gN (b_remN _ _ _ (by omega))) ?_; clear hS; intro a hS
      refine s_val hS (by decide) rfl rfl (r_conv hS rfl (by kernel_rfl) Try.underlying50 (cv_NU _)) ?_; clear hS; intro a hS
      refine s_val hS (by decide) rfl rfl (r_bv hS rfl rfl gB (b_shrB _ _ _ (BitVec.toNat _))) ?_; clear hS; intro a hS
      refine s_val hS (by decide) rfl rfl (r_conv hS rfl (by kernel_rfl) Try.underlying3 (cv_BN _)) ?_; clear hS; intro a hS
      refine s_val hS (by decide) rfl rfl (r_bv hS rfl (show ev _ _ = some (N 1) from rfl) gN (b_andN1 _ _ (by have := (f (p / 8) >>> (BitVec.ofNat 64 (p % 8)).toNat).isLt; omega))) ?_; clear hS; intro a hS
      refine s_val hS (by decide) rfl rfl (r_assign hS rfl) ?_; clear hS; intro a hS
      refine s_nil ?_
      refine k_seq ?_
      refine c_ret ?_
      exact k_res1 hS rfl (RV.tmp rfl) ⟨(congrArg (fun q => Ending.returned (N q)) (by first | exact (bitZ_out (by omega)).symm | (rw [ofNat_toNat_lt (by omega)]; exact rbit_in f p (by omega)))), hM.done ⟨hb2, trivial⟩⟩
end Go.Proofs.Ytihlpnnpjffecaa
