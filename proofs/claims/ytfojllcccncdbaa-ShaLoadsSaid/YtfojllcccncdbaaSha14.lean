/- The walk of the law of chapter 8 on states that are loaded. Printed by a program of mine (walk.py). -/
import Derived.Test.YtfojllcccncdbaaSha13
namespace Go.Proofs.Ytfojllcccncdbaa
open Go Go.Sym
attribute [local irreducible] sstep wordsTo HS.puts be flatB numTo num HS.many ovr cat zs HS.sum



set_option maxRecDepth 100000 in
theorem shaLoads_yes (w0 : World) {v0 v1 : Value} {m m2 : Nat} {f f2 : Nat → BitVec 8} (hr : Rd w0 v0 m (fun i => B (f i))) (hr2 : Rd w0 v1 m2 (fun i => B (f2 i))) (hv : mayLoad m f) : Pure Try.prog 13 #[v0, v1] w0 (.bool true) := by
  have hln : (loadH f).n ≤ 1152921504606846976 := hv.2.1
  have hl1 : ((loadH f).puts f2 m2).n = (loadH f).n + m2 := HS.puts_n _ _ _
  obtain rfl := hv.1
  refine ⟨by kernel_rfl, ?_⟩
  refine calls_sym Try.func13 rfl (by kernel_rfl) ?_
  intro a hS
  have hM : Mem w0 w0 [] := Mem.refl w0
  refine c_seq ?_
  refine c_region ?_
  refine s_val hS (by decide) rfl rfl (r_assign hS rfl) ?_; clear hS; intro a hS
  refine s_nil ?_
  refine k_seq ?_
  refine c_seq ?_
  refine c_region ?_
  refine s_pure hS hM (by decide) rfl (alive_ok _) ?_; clear hS hM; intro a w hS hM
  refine s_val hS (by decide) rfl rfl (r_assign hS rfl) ?_; clear hS; intro a hS
  refine s_nil ?_
  refine k_seq ?_
  refine c_seq ?_
  refine c_seq ?_
  refine c_region ?_
  refine s_val hS (by decide) rfl rfl (r_move hS rfl) ?_; clear hS; intro a hS
  refine s_val hS (by decide) rfl rfl (r_not hS rfl) ?_; clear hS; intro a hS
  refine s_val hS (by decide) rfl rfl (r_move hS rfl) ?_; clear hS; intro a hS
  refine s_valg hS (by decide) rfl rfl rfl rfl rfl (r_move hS rfl) ?_; clear hS; intro a hS
  refine s_valg hS (by decide) rfl rfl rfl rfl rfl (r_lenR hS rfl (hr.keepGe hM trivial) Try.underlying22) ?_; clear hS; intro a hS
  refine s_valgb hS (by decide) rfl rfl rfl rfl rfl (r_bv hS rfl (show ev _ _ = some (N 250) from rfl) gN (b_gtrN _ _ _)) (fun hc => ?_) (fun hc => ?_)
  · clear hS; intro a hS; skip
    refine s_val hS (by decide) rfl rfl (r_pick hS rfl rfl) ?_; clear hS; intro a hS
    refine s_val hS (by decide) rfl rfl (r_move hS rfl) ?_; clear hS; intro a hS
    refine s_skip hS (by decide) rfl rfl rfl rfl rfl ?_; clear hS; intro a hS
    refine s_skip hS (by decide) rfl rfl rfl rfl rfl ?_; clear hS; intro a hS
    refine s_skip hS (by decide) rfl rfl rfl rfl rfl ?_; clear hS; intro a hS
    refine s_val hS (by decide) rfl rfl (r_pick hS rfl rfl) ?_; clear hS; intro a hS
    refine s_nil ?_
    refine k_seq ?_
    refine c_true hS rfl rfl ?_
    refine c_seq ?_
    refine c_region ?_
    refine s_val hS (by decide) rfl rfl (r_move hS rfl) ?_; clear hS; intro a hS
    refine s_val hS (by decide) rfl rfl (r_assign hS rfl) ?_; clear hS; intro a hS
    refine s_nil ?_
    refine k_seq ?_
    refine c_ret ?_
    refine k_thenr ?_
    exact k_res1 hS rfl (RV.tmp rfl) ⟨rfl, hM.done trivial⟩
  · clear hS; intro a hS; have h17 := of_decide_eq_false hc
    refine s_val hS (by decide) rfl rfl (r_pick hS rfl rfl) ?_; clear hS; intro a hS
    refine s_val hS (by decide) rfl rfl (r_move hS rfl) ?_; clear hS; intro a hS
    refine s_valg hS (by decide) rfl rfl rfl rfl rfl (r_move hS rfl) ?_; clear hS; intro a hS
    refine s_valg hS (by decide) rfl rfl rfl rfl rfl (r_lenR hS rfl (hr2.keepGe hM trivial) Try.underlying22) ?_; clear hS; intro a hS
    refine s_valgb hS (by decide) rfl rfl rfl rfl rfl (r_bv hS rfl (show ev _ _ = some (N 300) from rfl) gN (b_gtrN _ _ _)) (fun hc => ?_) (fun hc => ?_)
    · clear hS; intro a hS; skip
      refine s_val hS (by decide) rfl rfl (r_pick hS rfl rfl) ?_; clear hS; intro a hS
      refine s_nil ?_
      refine k_seq ?_
      refine c_true hS rfl rfl ?_
      refine c_seq ?_
      refine c_region ?_
      refine s_val hS (by decide) rfl rfl (r_move hS rfl) ?_; clear hS; intro a hS
      refine s_val hS (by decide) rfl rfl (r_assign hS rfl) ?_; clear hS; intro a hS
      refine s_nil ?_
      refine k_seq ?_
      refine c_ret ?_
      refine k_thenr ?_
      exact k_res1 hS rfl (RV.tmp rfl) ⟨rfl, hM.done trivial⟩
    · clear hS; intro a hS; have h22 := of_decide_eq_false hc
      refine s_val hS (by decide) rfl rfl (r_pick hS rfl rfl) ?_; clear hS; intro a hS
      refine s_nil ?_
      refine k_seq ?_
      refine c_false hS rfl rfl ?_
      refine c_skip ?_
      refine k_seq ?_
      refine c_seq ?_
      refine c_region ?_
      refine s_val hS (by decide) rfl rfl (r_move hS rfl) ?_; clear hS; intro a hS
      refine s_append hS [] (Lx := []) hM (by decide) rfl rfl elem22 Own.nil ((hr.keepGe hM trivial).src Try.underlying22 (fun _ _ => rfl)) (by show 0 + 200 ≤ _; omega) ?_; clear hS hM; intro a w v Lx ho hS hM
      replace ho := ho.congr (cB_nil 200 f)
      refine s_newobj2 hS hM (by decide) rfl (load_yes _ (ho.rdCells (L := []) hM) hv) ?_; clear hS hM; intro a w b28 hb28 hS hM
      replace hM := Mem.dropRight (L := [_]) hM ho.ge
      refine s_val hS (by decide) rfl rfl (r_move hS rfl) ?_; clear hS; intro a hS
      refine s_val hS (by decide) rfl rfl (r_extract hS rfl rfl) ?_; clear hS; intro a hS
      refine s_val hS (by decide) rfl rfl (r_extract hS rfl rfl) ?_; clear hS; intro a hS
      refine s_val hS (by decide) rfl rfl (r_assign hS rfl) ?_; clear hS; intro a hS
      refine s_val hS (by decide) rfl rfl (r_assign hS rfl) ?_; clear hS; intro a hS
      refine s_nil ?_
      refine k_seq ?_
      refine c_seq ?_
      refine c_seq ?_
      refine c_region ?_
      refine s_val hS (by decide) rfl rfl (r_move hS rfl) ?_; clear hS; intro a hS
      refine s_val hS (by decide) rfl rfl (r_move hS rfl) ?_; clear hS; intro a hS
      refine s_pure hS hM (by decide) rfl (maymid_yes _ (hr.keepGe hM ⟨hb28, trivial⟩) hv) ?_; clear hS hM; intro a w hS hM
      refine s_val hS (by decide) rfl rfl (r_neb hS rfl rfl Try.underlying4) ?_; clear hS; intro a hS
      refine s_val hS (by decide) rfl rfl (r_move hS rfl) ?_; clear hS; intro a hS
      refine s_valg hS (by decide) rfl rfl rfl rfl rfl (r_move hS rfl) ?_; clear hS; intro a hS
      refine s_valg hS (by decide) rfl rfl rfl rfl rfl (r_move hS rfl) ?_; clear hS; intro a hS
      refine s_valg hS (by decide) rfl rfl rfl rfl rfl (r_ptrNil hS rfl rfl Try.underlying47) ?_; clear hS; intro a hS
      refine s_valg hS (by decide) rfl rfl rfl rfl rfl (r_eqb hS rfl rfl Try.underlying4) ?_; clear hS; intro a hS
      refine s_val hS (by decide) rfl rfl (r_pick hS rfl rfl) ?_; clear hS; intro a hS
      refine s_nil ?_
      refine k_seq ?_
      refine c_false hS rfl rfl ?_
      refine c_skip ?_
      refine k_seq ?_
      refine c_seq ?_
      refine c_seq ?_
      refine c_region ?_
      refine s_val hS (by decide) rfl rfl (r_move hS rfl) ?_; clear hS; intro a hS
      refine s_val hS (by decide) rfl rfl (r_not hS rfl) ?_; clear hS; intro a hS
      refine s_nil ?_
      refine k_seq ?_
      refine c_false hS rfl rfl ?_
      refine c_skip ?_
      refine k_seq ?_
      refine c_seq ?_
      refine c_region ?_
      refine s_val hS (by decide) rfl rfl (r_move hS rfl) ?_; clear hS; intro a hS
      refine s_pure hS hM (by decide) rfl (sum_t _ _ _ (hM.block (j := 0) rfl) (by omega)) ?_; clear hS hM; intro a w hS hM
      refine s_alloc hS hM (by decide) zero39 ?_; clear hS hM; intro a b8 w hb8 hS hM
      refine s_storeAll hS hM rfl rfl (j := 0) rfl sz39 cells_len cells_len cB_one ?_; clear hS hM; intro a w hS hM
      refine s_nil ?_
      refine k_seq ?_
      refine c_seq ?_
      refine c_region ?_
      refine s_val hS (by decide) rfl rfl (r_move hS rfl) ?_; clear hS; intro a hS
      refine s_pure hS hM (by decide) rfl (count_ok _ _ _ _ (hM.block (j := 1) rfl)) ?_; clear hS hM; intro a w hS hM
      refine s_val hS (by decide) rfl rfl (r_assign hS rfl) ?_; clear hS; intro a hS
      refine s_nil ?_
      refine k_seq ?_
      refine c_seq ?_
      refine c_region ?_
      refine s_val hS (by decide) rfl rfl (r_move hS rfl) ?_; clear hS; intro a hS
      refine s_val hS (by decide) rfl rfl (r_move hS rfl) ?_; clear hS; intro a hS
      refine s_wrote hS hM (by decide) rfl (j := 1) rfl (write_t _ _ _ (hM.block (j := 1) rfl) (hr2.keepGe hM ⟨hb8, hb28, trivial⟩) (fun q => Nat.ne_of_lt (Nat.lt_of_lt_of_le (hr2.lt q) hb28)) (by omega)) ?_; clear hS hM; intro a w hS hM
      refine s_nil ?_
      refine k_seq ?_
      refine c_seq ?_
      refine c_region ?_
      refine s_val hS (by decide) rfl rfl (r_move hS rfl) ?_; clear hS; intro a hS
      refine s_val hS (by decide) rfl rfl (r_move hS rfl) ?_; clear hS; intro a hS
      refine s_fresh hS hM (by decide) rfl (rafter_ok _ (hr.keepGe hM ⟨hb8, hb28, trivial⟩) (hr2.keepGe hM ⟨hb8, hb28, trivial⟩) (by omega)) ?_; clear hS hM; intro a w v52 L52 ho52 hS hM
      replace hM := hM.swap
      refine s_val hS (by decide) rfl rfl (r_assign hS rfl) ?_; clear hS; intro a hS
      refine s_nil ?_
      refine k_seq ?_
      refine c_seq ?_
      refine c_mplan 23 [33554431, 16777215, 8388607, 2359295, 262143, 1048575, 524287, 262143, 131071, 65535, 32767, 16383, 2047, 4095, 2047, 1023, 511, 255, 95, 31, 31, 15, 7, 2, 0, 0] ([⟨b8, 39, cB 64 (flatB (loadH f).sum.s)⟩, ⟨b28, 56, hH true ((loadH f).puts f2 m2)⟩] ++ L52) [(9, N (loadH f).n), (0, v0), (8, ptr b8 0), (6, ptr b28 0), (10, v52)] (fun i v B => match i with | 0 => v = N (loadH f).n ∧ B = [] | 1 => v = v0 ∧ B = [] | 2 => v = N (loadN f).toNat ∧ B = [] | 3 => v = .bool true ∧ B = [] | 4 => v = .bool true ∧ B = [] | 5 => v = .agg (cB 64 (flatB (loadH f).sum.s)).toArray ∧ B = [] | 6 => v = v0 ∧ B = [] | 7 => v = .agg (cB 64 (flatB (loadH f).sum.s)).toArray ∧ B = [] | 8 => v = .bool true ∧ B = [] | 9 => v = .bool true ∧ B = [] | 10 => v = .bool true ∧ B = [] | 11 => v = ptr b28 0 ∧ B = [] | 12 => v = .agg (cB 64 (flatB ((loadH f).puts f2 m2).sum.s)).toArray ∧ B = [] | 13 => v = v52 ∧ B = [] | 14 => v = .agg (cB 64 (flatB (loadH (midF ((loadH f).puts f2 m2))).sum.s)).toArray ∧ B = [] | 15 => v = .bool true ∧ B = [] | 16 => v = .bool true ∧ B = [] | 17 => v = .bool true ∧ B = [] | 18 => v = ptr b28 0 ∧ B = [] | 19 => Own w0.heap.size 5 v (cB 200 (midF ((loadH f).puts f2 m2))) B | 20 => v = SV (bl 200 (midF ((loadH f).puts f2 m2))) ∧ B = [] | 21 => v = v52 ∧ B = [] | 22 => v = SV (bl 200 (midF ((loadH f).puts f2 m2))) ∧ B = [] | _ => True) (by kernel_rfl) (by kernel_rfl) (by kernel_rfl) hS ⟨rfl, rfl, rfl, rfl, rfl, trivial⟩ hM ?_ ?_
      · clear hS hM
        refine ⟨?_, ?_, ?_, ?_, ?_, ?_, ?_, ?_, ?_, ?_, ?_, ?_, ?_, ?_, ?_, ?_, ?_, ?_, ?_, ?_, ?_, ?_, ?_, trivial⟩
        · intro V Bl X a w hR hX hS hM hn
          replace hS := hS.to [(9, N (loadH f).n)] ⟨rfl, trivial⟩
          have hM0 := hM; replace hM := hM0.dropApp hn
          exact gy_val rfl (r_move hS rfl) ⟨⟨rfl, rfl⟩, (fun _ h => by cases h), hM0⟩
        · intro V Bl X a w hR hX hS hM hn
          replace hS := hS.to [(0, v0)] ⟨rfl, trivial⟩
          have hM0 := hM; replace hM := hM0.dropApp hn
          exact gy_val rfl (r_move hS rfl) ⟨⟨rfl, rfl⟩, (fun _ h => by cases h), hM0⟩
        · intro V Bl X a w hR hX hS hM hn
          have h1 : V 1 = v0 := (hR 1 rfl).1
          replace hS := hS.to [(54, v0)] ⟨congrArg some h1, trivial⟩
          have hM0 := hM; replace hM := hM0.dropApp hn
          exact gy_pure hS rfl (rCount_ok _ (hr.keepGe hM ⟨hb8, hb28, allGe_of ho52.ge⟩) (by omega) hv.2.1) hM0 fun w' hM' => ⟨⟨rfl, rfl⟩, (fun _ h => by cases h), hM'⟩
        · intro V Bl X a w hR hX hS hM hn
          have h0 : V 0 = N (loadH f).n := (hR 0 rfl).1
          have h2 : V 2 = N (loadN f).toNat := (hR 2 rfl).1
          replace hS := hS.to [(53, N (loadH f).n), (55, N (loadN f).toNat)] ⟨congrArg some h0, congrArg some h2, trivial⟩
          have hM0 := hM; replace hM := hM0.dropApp hn
          exact gy_val rfl (r_bv hS rfl rfl gN (b_eqlNt rfl)) ⟨⟨rfl, rfl⟩, (fun _ h => by cases h), hM0⟩
        · intro V Bl X a w hR hX hS hM hn
          have h3 : V 3 = .bool true := (hR 3 rfl).1
          replace hS := hS.to [(56, .bool true)] ⟨congrArg some h3, trivial⟩
          have hM0 := hM; replace hM := hM0.dropApp hn
          exact gy_val rfl (r_move hS rfl) ⟨⟨rfl, rfl⟩, (fun _ h => by cases h), hM0⟩
        · intro V Bl X a w hR hX hS hM hn
          have h4 : V 4 = .bool true := (hR 4 rfl).1
          replace hS := hS.to [(57, .bool true), (8, ptr b8 0)] ⟨congrArg some h4, rfl, trivial⟩
          have hM0 := hM; replace hM := hM0.dropApp hn
          exact gy_valg hS rfl rfl rfl rfl (r_loadAll hS hM rfl (j := 0) rfl Try.underlying39 rfl sz39 cells_len) ⟨⟨rfl, rfl⟩, (fun _ h => by cases h), hM0⟩
        · intro V Bl X a w hR hX hS hM hn
          have h4 : V 4 = .bool true := (hR 4 rfl).1
          replace hS := hS.to [(57, .bool true), (0, v0)] ⟨congrArg some h4, rfl, trivial⟩
          have hM0 := hM; replace hM := hM0.dropApp hn
          exact gy_valg hS rfl rfl rfl rfl (r_move hS rfl) ⟨⟨rfl, rfl⟩, (fun _ h => by cases h), hM0⟩
        · intro V Bl X a w hR hX hS hM hn
          have h4 : V 4 = .bool true := (hR 4 rfl).1
          have h6 : V 6 = v0 := (hR 6 rfl).1
          replace hS := hS.to [(57, .bool true), (59, v0)] ⟨congrArg some h4, congrArg some h6, trivial⟩
          have hM0 := hM; replace hM := hM0.dropApp hn
          exact gy_pureg hS rfl rfl rfl rfl (rfrom1_ok _ (hr.keepGe hM ⟨hb8, hb28, allGe_of ho52.ge⟩)) hM0 fun w' hM' => ⟨⟨rfl, rfl⟩, (fun _ h => by cases h), hM'⟩
        · intro V Bl X a w hR hX hS hM hn
          have h4 : V 4 = .bool true := (hR 4 rfl).1
          have h5 : V 5 = .agg (cB 64 (flatB (loadH f).sum.s)).toArray := (hR 5 rfl).1
          have h7 : V 7 = .agg (cB 64 (flatB (loadH f).sum.s)).toArray := (hR 7 rfl).1
          replace hS := hS.to [(57, .bool true), (58, .agg (cB 64 (flatB (loadH f).sum.s)).toArray), (60, .agg (cB 64 (flatB (loadH f).sum.s)).toArray)] ⟨congrArg some h4, congrArg some h5, congrArg some h7, trivial⟩
          have hM0 := hM; replace hM := hM0.dropApp hn
          exact gy_valg hS rfl rfl rfl rfl (r_eqlBt hS rfl rfl (by kernel_rfl) Try.underlying39 Try.underlying5 sz5 (fun _ _ => rfl)) ⟨⟨rfl, rfl⟩, (fun _ h => by cases h), hM0⟩
        · intro V Bl X a w hR hX hS hM hn
          have h4 : V 4 = .bool true := (hR 4 rfl).1
          have h8 : V 8 = .bool true := (hR 8 rfl).1
          replace hS := hS.to [(57, .bool true), (61, .bool true)] ⟨congrArg some h4, congrArg some h8, trivial⟩
          have hM0 := hM; replace hM := hM0.dropApp hn
          exact gy_val rfl (r_pick hS rfl rfl) ⟨⟨rfl, rfl⟩, (fun _ h => by cases h), hM0⟩
        · intro V Bl X a w hR hX hS hM hn
          have h9 : V 9 = .bool true := (hR 9 rfl).1
          replace hS := hS.to [(62, .bool true)] ⟨congrArg some h9, trivial⟩
          have hM0 := hM; replace hM := hM0.dropApp hn
          exact gy_val rfl (r_move hS rfl) ⟨⟨rfl, rfl⟩, (fun _ h => by cases h), hM0⟩
        · intro V Bl X a w hR hX hS hM hn
          have h10 : V 10 = .bool true := (hR 10 rfl).1
          replace hS := hS.to [(63, .bool true), (6, ptr b28 0)] ⟨congrArg some h10, rfl, trivial⟩
          have hM0 := hM; replace hM := hM0.dropApp hn
          exact gy_valg hS rfl rfl rfl rfl (r_move hS rfl) ⟨⟨rfl, rfl⟩, (fun _ h => by cases h), hM0⟩
        · intro V Bl X a w hR hX hS hM hn
          have h10 : V 10 = .bool true := (hR 10 rfl).1
          have h11 : V 11 = ptr b28 0 := (hR 11 rfl).1
          replace hS := hS.to [(63, .bool true), (64, ptr b28 0)] ⟨congrArg some h10, congrArg some h11, trivial⟩
          have hM0 := hM; replace hM := hM0.dropApp hn
          exact gy_pureg hS rfl rfl rfl rfl (sum_t _ _ _ (hM.block (j := 1) rfl) (by omega)) hM0 fun w' hM' => ⟨⟨rfl, rfl⟩, (fun _ h => by cases h), hM'⟩
        · intro V Bl X a w hR hX hS hM hn
          have h10 : V 10 = .bool true := (hR 10 rfl).1
          replace hS := hS.to [(63, .bool true), (10, v52)] ⟨congrArg some h10, rfl, trivial⟩
          have hM0 := hM; replace hM := hM0.dropApp hn
          exact gy_valg hS rfl rfl rfl rfl (r_move hS rfl) ⟨⟨rfl, rfl⟩, (fun _ h => by cases h), hM0⟩
        · intro V Bl X a w hR hX hS hM hn
          have h10 : V 10 = .bool true := (hR 10 rfl).1
          have h13 : V 13 = v52 := (hR 13 rfl).1
          replace hS := hS.to [(63, .bool true), (66, v52)] ⟨congrArg some h10, congrArg some h13, trivial⟩
          have hM0 := hM; replace hM := hM0.dropApp hn
          exact gy_pureg hS rfl rfl rfl rfl (rfrom1_ok _ (ho52.rdCells (L := [_, _]) hM)) hM0 fun w' hM' => ⟨⟨rfl, rfl⟩, (fun _ h => by cases h), hM'⟩
        · intro V Bl X a w hR hX hS hM hn
          have h10 : V 10 = .bool true := (hR 10 rfl).1
          have h12 : V 12 = .agg (cB 64 (flatB ((loadH f).puts f2 m2).sum.s)).toArray := (hR 12 rfl).1
          have h14 : V 14 = .agg (cB 64 (flatB (loadH (midF ((loadH f).puts f2 m2))).sum.s)).toArray := (hR 14 rfl).1
          replace hS := hS.to [(63, .bool true), (65, .agg (cB 64 (flatB ((loadH f).puts f2 m2).sum.s)).toArray), (67, .agg (cB 64 (flatB (loadH (midF ((loadH f).puts f2 m2))).sum.s)).toArray)] ⟨congrArg some h10, congrArg some h12, congrArg some h14, trivial⟩
          have hM0 := hM; replace hM := hM0.dropApp hn
          exact gy_valg hS rfl rfl rfl rfl (r_eqlBt hS rfl rfl (by kernel_rfl) Try.underlying39 Try.underlying5 sz5 (flat_like (load_mid _ (by omega)).symm.sum)) ⟨⟨rfl, rfl⟩, (fun _ h => by cases h), hM0⟩
        · intro V Bl X a w hR hX hS hM hn
          have h10 : V 10 = .bool true := (hR 10 rfl).1
          have h15 : V 15 = .bool true := (hR 15 rfl).1
          replace hS := hS.to [(63, .bool true), (68, .bool true)] ⟨congrArg some h10, congrArg some h15, trivial⟩
          have hM0 := hM; replace hM := hM0.dropApp hn
          exact gy_val rfl (r_pick hS rfl rfl) ⟨⟨rfl, rfl⟩, (fun _ h => by cases h), hM0⟩
        · intro V Bl X a w hR hX hS hM hn
          have h16 : V 16 = .bool true := (hR 16 rfl).1
          replace hS := hS.to [(69, .bool true)] ⟨congrArg some h16, trivial⟩
          have hM0 := hM; replace hM := hM0.dropApp hn
          exact gy_val rfl (r_move hS rfl) ⟨⟨rfl, rfl⟩, (fun _ h => by cases h), hM0⟩
        · intro V Bl X a w hR hX hS hM hn
          have h17 : V 17 = .bool true := (hR 17 rfl).1
          replace hS := hS.to [(70, .bool true), (6, ptr b28 0)] ⟨congrArg some h17, rfl, trivial⟩
          have hM0 := hM; replace hM := hM0.dropApp hn
          exact gy_valg hS rfl rfl rfl rfl (r_move hS rfl) ⟨⟨rfl, rfl⟩, (fun _ h => by cases h), hM0⟩
        · intro V Bl X a w hR hX hS hM hn
          have h17 : V 17 = .bool true := (hR 17 rfl).1
          have h18 : V 18 = ptr b28 0 := (hR 18 rfl).1
          replace hS := hS.to [(70, .bool true), (71, ptr b28 0)] ⟨congrArg some h17, congrArg some h18, trivial⟩
          have hM0 := hM; replace hM := hM0.dropApp hn
          exact gy_freshg hS rfl rfl rfl rfl (NewRow.fresh (mid_t _ _ _ (hM.block (j := 1) rfl))) hM0 fun v Lx w' ho hM' => ⟨ho, ho.ge, hM'⟩
        · intro V Bl X a w hR hX hS hM hn
          have h17 : V 17 = .bool true := (hR 17 rfl).1
          replace hS := hS.to [(70, .bool true), (72, V 19)] ⟨congrArg some h17, rfl, trivial⟩
          have hr19 := Own.rdIn (show Own w0.heap.size 5 (V 19) (cB 200 (midF ((loadH f).puts f2 m2))) (Bl 19) from hR 19 rfl) (hX 19 rfl) hM
          have hM0 := hM; replace hM := hM0.dropApp hn
          exact gy_valg hS rfl rfl rfl rfl (r_convS hS rfl hr19 Try.underlying22 Try.underlying5 Try.underlying9) ⟨⟨rfl, rfl⟩, (fun _ h => by cases h), hM0⟩
        · intro V Bl X a w hR hX hS hM hn
          have h17 : V 17 = .bool true := (hR 17 rfl).1
          replace hS := hS.to [(70, .bool true), (10, v52)] ⟨congrArg some h17, rfl, trivial⟩
          have hM0 := hM; replace hM := hM0.dropApp hn
          exact gy_valg hS rfl rfl rfl rfl (r_move hS rfl) ⟨⟨rfl, rfl⟩, (fun _ h => by cases h), hM0⟩
        · intro V Bl X a w hR hX hS hM hn
          have h17 : V 17 = .bool true := (hR 17 rfl).1
          have h21 : V 21 = v52 := (hR 21 rfl).1
          replace hS := hS.to [(70, .bool true), (74, v52)] ⟨congrArg some h17, congrArg some h21, trivial⟩
          have hM0 := hM; replace hM := hM0.dropApp hn
          exact gy_valg hS rfl rfl rfl rfl (r_convS hS rfl (ho52.rdCells (L := [_, _]) hM) Try.underlying22 Try.underlying5 Try.underlying9) ⟨⟨rfl, rfl⟩, (fun _ h => by cases h), hM0⟩
      clear hS hM; intro V Bl a w hR hN hS hM
      replace hM := hM.dropApp (fun e he => by obtain ⟨i, hi, he⟩ := List.mem_flatMap.1 he; exact hN i (List.mem_range.1 hi) e he)
      have v17 : V 17 = .bool true := (hR 17 (by decide)).1
      have v20 : V 20 = SV (bl 200 (midF ((loadH f).puts f2 m2))) := (hR 20 (by decide)).1
      have v22 : V 22 = SV (bl 200 (midF ((loadH f).puts f2 m2))) := (hR 22 (by decide)).1
      replace hS := hS.to [(70, .bool true), (73, SV (bl 200 (midF ((loadH f).puts f2 m2)))), (75, SV (bl 200 (midF ((loadH f).puts f2 m2)))), (9, N (loadH f).n), (0, v0), (8, ptr b8 0), (6, ptr b28 0), (10, v52)] ⟨congrArg some v17, congrArg some v20, congrArg some v22, rfl, rfl, rfl, rfl, rfl, trivial⟩
      clear hR hN v17 v20 v22; clear V Bl
      refine s_valg hS (by decide) rfl rfl rfl rfl rfl (r_eqlST hS rfl rfl rfl) ?_; clear hS; intro a hS
      refine s_val hS (by decide) rfl rfl (r_pick hS rfl rfl) ?_; clear hS; intro a hS
      refine s_val hS (by decide) rfl rfl (r_assign hS rfl) ?_; clear hS; intro a hS
      refine s_nil ?_
      refine k_seq ?_
      refine c_ret ?_
      exact k_res1 hS rfl (RV.tmp rfl) ⟨rfl, hM.done ⟨hb8, hb28, allGe_of ho52.ge⟩⟩

set_option maxRecDepth 100000 in
theorem shaLoads_no (w0 : World) {v0 v1 : Value} {m m2 : Nat} {f f2 : Nat → BitVec 8} (hr : Rd w0 v0 m (fun i => B (f i))) (hr2 : Rd w0 v1 m2 (fun i => B (f2 i))) (hv : ¬ mayLoad m f) : Pure Try.prog 13 #[v0, v1] w0 (.bool true) := by
  refine ⟨by kernel_rfl, ?_⟩
  refine calls_sym Try.func13 rfl (by kernel_rfl) ?_
  intro a hS
  have hM : Mem w0 w0 [] := Mem.refl w0
  refine c_seq ?_
  refine c_region ?_
  refine s_val hS (by decide) rfl rfl (r_assign hS rfl) ?_; clear hS; intro a hS
  refine s_nil ?_
  refine k_seq ?_
  refine c_seq ?_
  refine c_region ?_
  refine s_pure hS hM (by decide) rfl (alive_ok _) ?_; clear hS hM; intro a w hS hM
  refine s_val hS (by decide) rfl rfl (r_assign hS rfl) ?_; clear hS; intro a hS
  refine s_nil ?_
  refine k_seq ?_
  refine c_seq ?_
  refine c_seq ?_
  refine c_region ?_
  refine s_val hS (by decide) rfl rfl (r_move hS rfl) ?_; clear hS; intro a hS
  refine s_val hS (by decide) rfl rfl (r_not hS rfl) ?_; clear hS; intro a hS
  refine s_val hS (by decide) rfl rfl (r_move hS rfl) ?_; clear hS; intro a hS
  refine s_valg hS (by decide) rfl rfl rfl rfl rfl (r_move hS rfl) ?_; clear hS; intro a hS
  refine s_valg hS (by decide) rfl rfl rfl rfl rfl (r_lenR hS rfl (hr.keepGe hM trivial) Try.underlying22) ?_; clear hS; intro a hS
  refine s_valgb hS (by decide) rfl rfl rfl rfl rfl (r_bv hS rfl (show ev _ _ = some (N 250) from rfl) gN (b_gtrN _ _ _)) (fun hc => ?_) (fun hc => ?_)
  · clear hS; intro a hS; skip
    refine s_val hS (by decide) rfl rfl (r_pick hS rfl rfl) ?_; clear hS; intro a hS
    refine s_val hS (by decide) rfl rfl (r_move hS rfl) ?_; clear hS; intro a hS
    refine s_skip hS (by decide) rfl rfl rfl rfl rfl ?_; clear hS; intro a hS
    refine s_skip hS (by decide) rfl rfl rfl rfl rfl ?_; clear hS; intro a hS
    refine s_skip hS (by decide) rfl rfl rfl rfl rfl ?_; clear hS; intro a hS
    refine s_val hS (by decide) rfl rfl (r_pick hS rfl rfl) ?_; clear hS; intro a hS
    refine s_nil ?_
    refine k_seq ?_
    refine c_true hS rfl rfl ?_
    refine c_seq ?_
    refine c_region ?_
    refine s_val hS (by decide) rfl rfl (r_move hS rfl) ?_; clear hS; intro a hS
    refine s_val hS (by decide) rfl rfl (r_assign hS rfl) ?_; clear hS; intro a hS
    refine s_nil ?_
    refine k_seq ?_
    refine c_ret ?_
    refine k_thenr ?_
    exact k_res1 hS rfl (RV.tmp rfl) ⟨rfl, hM.done trivial⟩
  · clear hS; intro a hS; have h17 := of_decide_eq_false hc
    refine s_val hS (by decide) rfl rfl (r_pick hS rfl rfl) ?_; clear hS; intro a hS
    refine s_val hS (by decide) rfl rfl (r_move hS rfl) ?_; clear hS; intro a hS
    refine s_valg hS (by decide) rfl rfl rfl rfl rfl (r_move hS rfl) ?_; clear hS; intro a hS
    refine s_valg hS (by decide) rfl rfl rfl rfl rfl (r_lenR hS rfl (hr2.keepGe hM trivial) Try.underlying22) ?_; clear hS; intro a hS
    refine s_valgb hS (by decide) rfl rfl rfl rfl rfl (r_bv hS rfl (show ev _ _ = some (N 300) from rfl) gN (b_gtrN _ _ _)) (fun hc => ?_) (fun hc => ?_)
    · clear hS; intro a hS; skip
      refine s_val hS (by decide) rfl rfl (r_pick hS rfl rfl) ?_; clear hS; intro a hS
      refine s_nil ?_
      refine k_seq ?_
      refine c_true hS rfl rfl ?_
      refine c_seq ?_
      refine c_region ?_
      refine s_val hS (by decide) rfl rfl (r_move hS rfl) ?_; clear hS; intro a hS
      refine s_val hS (by decide) rfl rfl (r_assign hS rfl) ?_; clear hS; intro a hS
      refine s_nil ?_
      refine k_seq ?_
      refine c_ret ?_
      refine k_thenr ?_
      exact k_res1 hS rfl (RV.tmp rfl) ⟨rfl, hM.done trivial⟩
    · clear hS; intro a hS; have h22 := of_decide_eq_false hc
      refine s_val hS (by decide) rfl rfl (r_pick hS rfl rfl) ?_; clear hS; intro a hS
      refine s_nil ?_
      refine k_seq ?_
      refine c_false hS rfl rfl ?_
      refine c_skip ?_
      refine k_seq ?_
      refine c_seq ?_
      refine c_region ?_
      refine s_val hS (by decide) rfl rfl (r_move hS rfl) ?_; clear hS; intro a hS
      refine s_append hS [] (Lx := []) hM (by decide) rfl rfl elem22 Own.nil ((hr.keepGe hM trivial).src Try.underlying22 (fun _ _ => rfl)) (by show 0 + m ≤ _; omega) ?_; clear hS hM; intro a w v Lx ho hS hM
      replace ho := ho.congr (cB_nil m f)
      refine s_pure hS hM (by decide) rfl (load_no _ (ho.rdCells (L := []) hM) hv) ?_; clear hS hM; intro a w hS hM
      refine s_val hS (by decide) rfl rfl (r_move hS rfl) ?_; clear hS; intro a hS
      refine s_val hS (by decide) rfl rfl (r_extract hS rfl rfl) ?_; clear hS; intro a hS
      refine s_val hS (by decide) rfl rfl (r_extract hS rfl rfl) ?_; clear hS; intro a hS
      refine s_val hS (by decide) rfl rfl (r_assign hS rfl) ?_; clear hS; intro a hS
      refine s_val hS (by decide) rfl rfl (r_assign hS rfl) ?_; clear hS; intro a hS
      replace hM := Mem.dropRight (L := []) hM ho.ge
      refine s_nil ?_
      refine k_seq ?_
      refine c_seq ?_
      refine c_seq ?_
      refine c_region ?_
      refine s_val hS (by decide) rfl rfl (r_move hS rfl) ?_; clear hS; intro a hS
      refine s_val hS (by decide) rfl rfl (r_move hS rfl) ?_; clear hS; intro a hS
      refine s_pure hS hM (by decide) rfl (maymid_no _ (hr.keepGe hM trivial) hv) ?_; clear hS hM; intro a w hS hM
      refine s_val hS (by decide) rfl rfl (r_neb hS rfl rfl Try.underlying4) ?_; clear hS; intro a hS
      refine s_val hS (by decide) rfl rfl (r_move hS rfl) ?_; clear hS; intro a hS
      refine s_valg hS (by decide) rfl rfl rfl rfl rfl (r_move hS rfl) ?_; clear hS; intro a hS
      refine s_valg hS (by decide) rfl rfl rfl rfl rfl (r_move hS rfl) ?_; clear hS; intro a hS
      refine s_valg hS (by decide) rfl rfl rfl rfl rfl (r_nilNil hS rfl rfl Try.underlying47) ?_; clear hS; intro a hS
      refine s_valg hS (by decide) rfl rfl rfl rfl rfl (r_eqb hS rfl rfl Try.underlying4) ?_; clear hS; intro a hS
      refine s_val hS (by decide) rfl rfl (r_pick hS rfl rfl) ?_; clear hS; intro a hS
      refine s_nil ?_
      refine k_seq ?_
      refine c_false hS rfl rfl ?_
      refine c_skip ?_
      refine k_seq ?_
      refine c_seq ?_
      refine c_seq ?_
      refine c_region ?_
      refine s_val hS (by decide) rfl rfl (r_move hS rfl) ?_; clear hS; intro a hS
      refine s_val hS (by decide) rfl rfl (r_not hS rfl) ?_; clear hS; intro a hS
      refine s_nil ?_
      refine k_seq ?_
      refine c_true hS rfl rfl ?_
      refine c_seq ?_
      refine c_region ?_
      refine s_val hS (by decide) rfl rfl (r_assign hS rfl) ?_; clear hS; intro a hS
      refine s_nil ?_
      refine k_seq ?_
      refine c_ret ?_
      refine k_thenr ?_
      exact k_res1 hS rfl (RV.tmp rfl) ⟨rfl, hM.done trivial⟩
theorem shaLoads_ok (w0 : World) {v0 v1 : Value} {m m2 : Nat} {f f2 : Nat → BitVec 8} (hr : Rd w0 v0 m (fun i => B (f i))) (hr2 : Rd w0 v1 m2 (fun i => B (f2 i))) : Pure Try.prog 13 #[v0, v1] w0 (.bool true) := by
  by_cases hv : mayLoad m f
  · exact shaLoads_yes w0 hr hr2 hv
  · exact shaLoads_no w0 hr hr2 hv
end Go.Proofs.Ytfojllcccncdbaa
