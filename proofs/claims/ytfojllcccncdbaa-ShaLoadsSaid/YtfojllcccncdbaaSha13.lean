/- The walks of the laws of chapter 8 on states told and taken again. Printed by a program of mine (walk.py). -/
import Derived.Test.YtfojllcccncdbaaSha12
namespace Go.Proofs.Ytfojllcccncdbaa
open Go Go.Sym
attribute [local irreducible] sstep wordsTo HS.puts be flatB numTo num HS.many ovr cat zs HS.sum

theorem row68_2 {x0 x1 : Value} (h0 : isS x0) (h1 : isS x1) : BuildsRow Try.prog 68 22 2 [(0, x0), (1, x1)] [x0, x1] := by
  obtain ⟨a0, n0, c0, rfl⟩ := h0
  obtain ⟨a1, n1, c1, rfl⟩ := h1
  intro _; kernel_rfl

set_option maxRecDepth 100000 in
theorem shaMid_ok (w0 : World) {v0 v1 v2 : Value} {m m2 mc : Nat} {f f2 : Nat → BitVec 8} {g : Nat → Int} (hr : Rd w0 v0 m (fun i => B (f i))) (hr2 : Rd w0 v1 m2 (fun i => B (f2 i))) (hr3 : Rd w0 v2 mc (fun i => .int .i64 (g i))) : Pure Try.prog 12 #[v0, v1, v2] w0 (.bool true) := by
  have hz : HS.zero.n = 0 := rfl
  have hpn : (HS.zero.puts f m).n = m := (HS.puts_n _ _ _).trans (Nat.zero_add m)
  refine ⟨by kernel_rfl, ?_⟩
  refine calls_sym Try.func12 rfl (by kernel_rfl) ?_
  intro a hS
  have hM : Mem w0 w0 [] := Mem.refl w0
  refine c_seq ?_
  refine c_region ?_
  refine s_val hS (by decide) rfl rfl (r_assign hS rfl) ?_; clear hS; intro a hS
  refine s_nil ?_
  refine k_seq ?_
  refine c_seq ?_
  refine c_region ?_
  refine s_pure hS hM (by decide) rfl (alive_ok _) ?_; clear hS hM; intro a w hS hM
  refine s_val hS (by decide) rfl rfl (r_assign hS rfl) ?_; clear hS; intro a hS
  refine s_nil ?_
  refine k_seq ?_
  refine c_seq ?_
  refine c_seq ?_
  refine c_region ?_
  refine s_val hS (by decide) rfl rfl (r_move hS rfl) ?_; clear hS; intro a hS
  refine s_val hS (by decide) rfl rfl (r_not hS rfl) ?_; clear hS; intro a hS
  refine s_val hS (by decide) rfl rfl (r_move hS rfl) ?_; clear hS; intro a hS
  refine s_valg hS (by decide) rfl rfl rfl rfl rfl (r_move hS rfl) ?_; clear hS; intro a hS
  refine s_valg hS (by decide) rfl rfl rfl rfl rfl (r_lenR hS rfl (hr.keepGe hM trivial) Try.underlying22) ?_; clear hS; intro a hS
  refine s_valgb hS (by decide) rfl rfl rfl rfl rfl (r_bv hS rfl (show ev _ _ = some (N 500) from rfl) gN (b_gtrN _ _ _)) (fun hc => ?_) (fun hc => ?_)
  · clear hS; intro a hS; skip
    refine s_val hS (by decide) rfl rfl (r_pick hS rfl rfl) ?_; clear hS; intro a hS
    refine s_val hS (by decide) rfl rfl (r_move hS rfl) ?_; clear hS; intro a hS
    refine s_skip hS (by decide) rfl rfl rfl rfl rfl ?_; clear hS; intro a hS
    refine s_skip hS (by decide) rfl rfl rfl rfl rfl ?_; clear hS; intro a hS
    refine s_skip hS (by decide) rfl rfl rfl rfl rfl ?_; clear hS; intro a hS
    refine s_val hS (by decide) rfl rfl (r_pick hS rfl rfl) ?_; clear hS; intro a hS
    refine s_val hS (by decide) rfl rfl (r_move hS rfl) ?_; clear hS; intro a hS
    refine s_skip hS (by decide) rfl rfl rfl rfl rfl ?_; clear hS; intro a hS
    refine s_skip hS (by decide) rfl rfl rfl rfl rfl ?_; clear hS; intro a hS
    refine s_skip hS (by decide) rfl rfl rfl rfl rfl ?_; clear hS; intro a hS
    refine s_val hS (by decide) rfl rfl (r_pick hS rfl rfl) ?_; clear hS; intro a hS
    refine s_nil ?_
    refine k_seq ?_
    refine c_true hS rfl rfl ?_
    refine c_seq ?_
    refine c_region ?_
    refine s_val hS (by decide) rfl rfl (r_move hS rfl) ?_; clear hS; intro a hS
    refine s_val hS (by decide) rfl rfl (r_assign hS rfl) ?_; clear hS; intro a hS
    refine s_nil ?_
    refine k_seq ?_
    refine c_ret ?_
    refine k_thenr ?_
    exact k_res1 hS rfl (RV.tmp rfl) ⟨rfl, hM.done trivial⟩
  · clear hS; intro a hS; have h18 := of_decide_eq_false hc
    refine s_val hS (by decide) rfl rfl (r_pick hS rfl rfl) ?_; clear hS; intro a hS
    refine s_val hS (by decide) rfl rfl (r_move hS rfl) ?_; clear hS; intro a hS
    refine s_valg hS (by decide) rfl rfl rfl rfl rfl (r_move hS rfl) ?_; clear hS; intro a hS
    refine s_valg hS (by decide) rfl rfl rfl rfl rfl (r_lenR hS rfl (hr2.keepGe hM trivial) Try.underlying22) ?_; clear hS; intro a hS
    refine s_valgb hS (by decide) rfl rfl rfl rfl rfl (r_bv hS rfl (show ev _ _ = some (N 500) from rfl) gN (b_gtrN _ _ _)) (fun hc => ?_) (fun hc => ?_)
    · clear hS; intro a hS; skip
      refine s_val hS (by decide) rfl rfl (r_pick hS rfl rfl) ?_; clear hS; intro a hS
      refine s_val hS (by decide) rfl rfl (r_move hS rfl) ?_; clear hS; intro a hS
      refine s_skip hS (by decide) rfl rfl rfl rfl rfl ?_; clear hS; intro a hS
      refine s_skip hS (by decide) rfl rfl rfl rfl rfl ?_; clear hS; intro a hS
      refine s_skip hS (by decide) rfl rfl rfl rfl rfl ?_; clear hS; intro a hS
      refine s_val hS (by decide) rfl rfl (r_pick hS rfl rfl) ?_; clear hS; intro a hS
      refine s_nil ?_
      refine k_seq ?_
      refine c_true hS rfl rfl ?_
      refine c_seq ?_
      refine c_region ?_
      refine s_val hS (by decide) rfl rfl (r_move hS rfl) ?_; clear hS; intro a hS
      refine s_val hS (by decide) rfl rfl (r_assign hS rfl) ?_; clear hS; intro a hS
      refine s_nil ?_
      refine k_seq ?_
      refine c_ret ?_
      refine k_thenr ?_
      exact k_res1 hS rfl (RV.tmp rfl) ⟨rfl, hM.done trivial⟩
    · clear hS; intro a hS; have h23 := of_decide_eq_false hc
      refine s_val hS (by decide) rfl rfl (r_pick hS rfl rfl) ?_; clear hS; intro a hS
      refine s_val hS (by decide) rfl rfl (r_move hS rfl) ?_; clear hS; intro a hS
      refine s_valg hS (by decide) rfl rfl rfl rfl rfl (r_move hS rfl) ?_; clear hS; intro a hS
      refine s_valg hS (by decide) rfl rfl rfl rfl rfl (r_lenR hS rfl (hr3.keepGe hM trivial) Try.underlying46) ?_; clear hS; intro a hS
      refine s_valgb hS (by decide) rfl rfl rfl rfl rfl (r_bv hS rfl (show ev _ _ = some (N 100) from rfl) gN (b_gtrN _ _ _)) (fun hc => ?_) (fun hc => ?_)
      · clear hS; intro a hS; skip
        refine s_val hS (by decide) rfl rfl (r_pick hS rfl rfl) ?_; clear hS; intro a hS
        refine s_nil ?_
        refine k_seq ?_
        refine c_true hS rfl rfl ?_
        refine c_seq ?_
        refine c_region ?_
        refine s_val hS (by decide) rfl rfl (r_move hS rfl) ?_; clear hS; intro a hS
        refine s_val hS (by decide) rfl rfl (r_assign hS rfl) ?_; clear hS; intro a hS
        refine s_nil ?_
        refine k_seq ?_
        refine c_ret ?_
        refine k_thenr ?_
        exact k_res1 hS rfl (RV.tmp rfl) ⟨rfl, hM.done trivial⟩
      · clear hS; intro a hS; have h28 := of_decide_eq_false hc
        refine s_val hS (by decide) rfl rfl (r_pick hS rfl rfl) ?_; clear hS; intro a hS
        refine s_nil ?_
        refine k_seq ?_
        refine c_false hS rfl rfl ?_
        refine c_skip ?_
        refine k_seq ?_
        refine c_seq ?_
        refine c_region ?_
        refine s_newobj hS hM (by decide) rfl (new_ok _) ?_; clear hS hM; intro a w b31 hb31 hS hM
        refine s_val hS (by decide) rfl rfl (r_assign hS rfl) ?_; clear hS; intro a hS
        refine s_nil ?_
        refine k_seq ?_
        refine c_seq ?_
        refine c_seq ?_
        refine c_region ?_
        refine s_val hS (by decide) rfl rfl (r_move hS rfl) ?_; clear hS; intro a hS
        refine s_val hS (by decide) rfl rfl (r_ptrNil hS rfl rfl Try.underlying47) ?_; clear hS; intro a hS
        refine s_nil ?_
        refine k_seq ?_
        refine c_false hS rfl rfl ?_
        refine c_skip ?_
        refine k_seq ?_
        refine c_seq ?_
        refine c_region ?_
        refine s_val hS (by decide) rfl rfl (r_move hS rfl) ?_; clear hS; intro a hS
        refine s_val hS (by decide) rfl rfl (r_move hS rfl) ?_; clear hS; intro a hS
        refine s_val hS (by decide) rfl rfl (r_move hS rfl) ?_; clear hS; intro a hS
        refine s_wrote hS hM (by decide) rfl (j := 0) rfl (parts_ok _ _ _ (hM.block (j := 0) rfl) (hr.keepGe hM ⟨hb31, trivial⟩) (fun q => Nat.ne_of_lt (Nat.lt_of_lt_of_le (hr.lt q) hb31)) (hr3.keepGe hM ⟨hb31, trivial⟩) (fun q => Nat.ne_of_lt (Nat.lt_of_lt_of_le (hr3.lt q) hb31)) (by omega) (by omega)) ?_; clear hS hM; intro a w hS hM
        refine s_nil ?_
        refine k_seq ?_
        refine c_seq ?_
        refine c_region ?_
        refine s_val hS (by decide) rfl rfl (r_move hS rfl) ?_; clear hS; intro a hS
        refine s_newrow hS hM (by decide) rfl (mid_t _ _ _ (hM.block (j := 0) rfl)) ?_; clear hS hM; intro a w b39 hb39 hS hM
        refine s_val hS (by decide) rfl rfl (r_assign hS rfl) ?_; clear hS; intro a hS
        refine s_nil ?_
        refine k_seq ?_
        refine c_seq ?_
        refine c_region ?_
        refine s_val hS (by decide) rfl rfl (r_move hS rfl) ?_; clear hS; intro a hS
        refine s_newobj2 hS hM (by decide) rfl (load_yes _ (rd_row hM (j := 0) rfl) (may_mid _ (by omega))) ?_; clear hS hM; intro a w b42 hb42 hS hM
        refine s_val hS (by decide) rfl rfl (r_move hS rfl) ?_; clear hS; intro a hS
        refine s_val hS (by decide) rfl rfl (r_extract hS rfl rfl) ?_; clear hS; intro a hS
        refine s_val hS (by decide) rfl rfl (r_extract hS rfl rfl) ?_; clear hS; intro a hS
        refine s_val hS (by decide) rfl rfl (r_assign hS rfl) ?_; clear hS; intro a hS
        refine s_val hS (by decide) rfl rfl (r_assign hS rfl) ?_; clear hS; intro a hS
        have hlk := load_mid (HS.zero.puts f m) (by omega)
        have hgn : (loadH (midF (HS.zero.puts f m))).n = m := hlk.2.1.trans hpn
        have hlk1 := hlk.puts f2 m2
        have hn1 : ((HS.zero.puts f m).puts f2 m2).n = m + m2 := (HS.puts_n _ _ _).trans (by rw [hpn])
        have hg1 : ((loadH (midF (HS.zero.puts f m))).puts f2 m2).n = m + m2 := (HS.puts_n _ _ _).trans (by rw [hgn])
        refine s_nil ?_
        refine k_seq ?_
        refine c_seq ?_
        refine c_seq ?_
        refine c_mplan 20 [2097151, 1048575, 294911, 32767, 131071, 65535, 32767, 16383, 8191, 4095, 1663, 639, 127, 255, 127, 63, 31, 15, 7, 3, 1, 0] [⟨b42, 56, hH true (loadH (midF (HS.zero.puts f m)))⟩, ⟨b39, 5, cells 200 (fun i => B (midF (HS.zero.puts f m) i))⟩, ⟨b31, 56, hH true (HS.zero.puts f m)⟩] [(11, .bool true), (10, ptr b42 0), (9, .slice (some ⟨b39, 0, none⟩) 200 200), (0, v0), (1, v1), (8, ptr b31 0)] (fun i v B => match i with | 0 => v = .bool true ∧ B = [] | 1 => v = .bool false ∧ B = [] | 2 => v = .bool false ∧ B = [] | 3 => v = ptr b42 0 ∧ B = [] | 4 => v = .bool false ∧ B = [] | 5 => v = .bool false ∧ B = [] | 6 => v = .bool false ∧ B = [] | 7 => v = .slice (some ⟨b39, 0, none⟩) 200 200 ∧ B = [] | 8 => v = SV (bl 200 (midF (HS.zero.puts f m))) ∧ B = [] | 9 => v = v0 ∧ B = [] | 10 => Own w0.heap.size 5 v (cB 200 (midF (HS.zero.puts f m))) B | 11 => v = SV (bl 200 (midF (HS.zero.puts f m))) ∧ B = [] | 12 => v = .bool false ∧ B = [] | 13 => v = .bool false ∧ B = [] | 14 => v = .bool false ∧ B = [] | 15 => v = ptr b42 0 ∧ B = [] | 16 => Own w0.heap.size 5 v (cB 200 (midF (loadH (midF (HS.zero.puts f m))))) B | 17 => v = SV (bl 200 (midF (loadH (midF (HS.zero.puts f m))))) ∧ B = [] | 18 => v = .slice (some ⟨b39, 0, none⟩) 200 200 ∧ B = [] | 19 => v = SV (bl 200 (midF (HS.zero.puts f m))) ∧ B = [] | _ => True) (by kernel_rfl) (by kernel_rfl) (by kernel_rfl) hS ⟨rfl, rfl, rfl, rfl, rfl, rfl, trivial⟩ hM ?_ ?_
        · clear hS hM
          refine ⟨?_, ?_, ?_, ?_, ?_, ?_, ?_, ?_, ?_, ?_, ?_, ?_, ?_, ?_, ?_, ?_, ?_, ?_, ?_, ?_, trivial⟩
          · intro V Bl X a w hR hX hS hM hn
            replace hS := hS.to [(11, .bool true)] ⟨rfl, trivial⟩
            have hM0 := hM; replace hM := hM0.dropApp hn
            exact gy_val rfl (r_move hS rfl) ⟨⟨rfl, rfl⟩, (fun _ h => by cases h), hM0⟩
          · intro V Bl X a w hR hX hS hM hn
            have h0 : V 0 = .bool true := (hR 0 rfl).1
            replace hS := hS.to [(45, .bool true)] ⟨congrArg some h0, trivial⟩
            have hM0 := hM; replace hM := hM0.dropApp hn
            exact gy_val rfl (r_not hS rfl) ⟨⟨rfl, rfl⟩, (fun _ h => by cases h), hM0⟩
          · intro V Bl X a w hR hX hS hM hn
            have h1 : V 1 = .bool false := (hR 1 rfl).1
            replace hS := hS.to [(46, .bool false)] ⟨congrArg some h1, trivial⟩
            have hM0 := hM; replace hM := hM0.dropApp hn
            exact gy_val rfl (r_move hS rfl) ⟨⟨rfl, rfl⟩, (fun _ h => by cases h), hM0⟩
          · intro V Bl X a w hR hX hS hM hn
            have h2 : V 2 = .bool false := (hR 2 rfl).1
            replace hS := hS.to [(47, .bool false), (10, ptr b42 0)] ⟨congrArg some h2, rfl, trivial⟩
            have hM0 := hM; replace hM := hM0.dropApp hn
            exact gy_valg hS rfl rfl rfl rfl (r_move hS rfl) ⟨⟨rfl, rfl⟩, (fun _ h => by cases h), hM0⟩
          · intro V Bl X a w hR hX hS hM hn
            have h2 : V 2 = .bool false := (hR 2 rfl).1
            have h3 : V 3 = ptr b42 0 := (hR 3 rfl).1
            replace hS := hS.to [(47, .bool false), (48, ptr b42 0)] ⟨congrArg some h2, congrArg some h3, trivial⟩
            have hM0 := hM; replace hM := hM0.dropApp hn
            exact gy_valg hS rfl rfl rfl rfl (r_ptrNil hS rfl rfl Try.underlying47) ⟨⟨rfl, rfl⟩, (fun _ h => by cases h), hM0⟩
          · intro V Bl X a w hR hX hS hM hn
            have h2 : V 2 = .bool false := (hR 2 rfl).1
            have h4 : V 4 = .bool false := (hR 4 rfl).1
            replace hS := hS.to [(47, .bool false), (49, .bool false)] ⟨congrArg some h2, congrArg some h4, trivial⟩
            have hM0 := hM; replace hM := hM0.dropApp hn
            exact gy_val rfl (r_pick hS rfl rfl) ⟨⟨rfl, rfl⟩, (fun _ h => by cases h), hM0⟩
          · intro V Bl X a w hR hX hS hM hn
            have h5 : V 5 = .bool false := (hR 5 rfl).1
            replace hS := hS.to [(50, .bool false)] ⟨congrArg some h5, trivial⟩
            have hM0 := hM; replace hM := hM0.dropApp hn
            exact gy_val rfl (r_move hS rfl) ⟨⟨rfl, rfl⟩, (fun _ h => by cases h), hM0⟩
          · intro V Bl X a w hR hX hS hM hn
            have h6 : V 6 = .bool false := (hR 6 rfl).1
            replace hS := hS.to [(51, .bool false), (9, .slice (some ⟨b39, 0, none⟩) 200 200)] ⟨congrArg some h6, rfl, trivial⟩
            have hM0 := hM; replace hM := hM0.dropApp hn
            exact gy_valg hS rfl rfl rfl rfl (r_move hS rfl) ⟨⟨rfl, rfl⟩, (fun _ h => by cases h), hM0⟩
          · intro V Bl X a w hR hX hS hM hn
            have h6 : V 6 = .bool false := (hR 6 rfl).1
            have h7 : V 7 = .slice (some ⟨b39, 0, none⟩) 200 200 := (hR 7 rfl).1
            replace hS := hS.to [(51, .bool false), (52, .slice (some ⟨b39, 0, none⟩) 200 200)] ⟨congrArg some h6, congrArg some h7, trivial⟩
            have hM0 := hM; replace hM := hM0.dropApp hn
            exact gy_valg hS rfl rfl rfl rfl (r_convS hS rfl (rd_row hM (j := 1) rfl) Try.underlying22 Try.underlying5 Try.underlying9) ⟨⟨rfl, rfl⟩, (fun _ h => by cases h), hM0⟩
          · intro V Bl X a w hR hX hS hM hn
            have h6 : V 6 = .bool false := (hR 6 rfl).1
            replace hS := hS.to [(51, .bool false), (0, v0)] ⟨congrArg some h6, rfl, trivial⟩
            have hM0 := hM; replace hM := hM0.dropApp hn
            exact gy_valg hS rfl rfl rfl rfl (r_move hS rfl) ⟨⟨rfl, rfl⟩, (fun _ h => by cases h), hM0⟩
          · intro V Bl X a w hR hX hS hM hn
            have h6 : V 6 = .bool false := (hR 6 rfl).1
            have h9 : V 9 = v0 := (hR 9 rfl).1
            replace hS := hS.to [(51, .bool false), (54, v0)] ⟨congrArg some h6, congrArg some h9, trivial⟩
            have hM0 := hM; replace hM := hM0.dropApp hn
            exact gy_freshg hS rfl rfl rfl rfl (rmid_ok _ (hr.keepGe hM ⟨hb42, hb39, hb31, trivial⟩) (by omega)) hM0 fun v Lx w' ho hM' => ⟨ho, ho.ge, hM'⟩
          · intro V Bl X a w hR hX hS hM hn
            have h6 : V 6 = .bool false := (hR 6 rfl).1
            replace hS := hS.to [(51, .bool false), (55, V 10)] ⟨congrArg some h6, rfl, trivial⟩
            have hr10 := Own.rdIn (show Own w0.heap.size 5 (V 10) (cB 200 (midF (HS.zero.puts f m))) (Bl 10) from hR 10 rfl) (hX 10 rfl) hM
            have hM0 := hM; replace hM := hM0.dropApp hn
            exact gy_valg hS rfl rfl rfl rfl (r_convS hS rfl hr10 Try.underlying22 Try.underlying5 Try.underlying9) ⟨⟨rfl, rfl⟩, (fun _ h => by cases h), hM0⟩
          · intro V Bl X a w hR hX hS hM hn
            have h6 : V 6 = .bool false := (hR 6 rfl).1
            have h8 : V 8 = SV (bl 200 (midF (HS.zero.puts f m))) := (hR 8 rfl).1
            have h11 : V 11 = SV (bl 200 (midF (HS.zero.puts f m))) := (hR 11 rfl).1
            replace hS := hS.to [(51, .bool false), (53, SV (bl 200 (midF (HS.zero.puts f m)))), (56, SV (bl 200 (midF (HS.zero.puts f m))))] ⟨congrArg some h6, congrArg some h8, congrArg some h11, trivial⟩
            have hM0 := hM; replace hM := hM0.dropApp hn
            exact gy_valg hS rfl rfl rfl rfl (r_neqST hS rfl rfl rfl) ⟨⟨rfl, rfl⟩, (fun _ h => by cases h), hM0⟩
          · intro V Bl X a w hR hX hS hM hn
            have h6 : V 6 = .bool false := (hR 6 rfl).1
            have h12 : V 12 = .bool false := (hR 12 rfl).1
            replace hS := hS.to [(51, .bool false), (57, .bool false)] ⟨congrArg some h6, congrArg some h12, trivial⟩
            have hM0 := hM; replace hM := hM0.dropApp hn
            exact gy_val rfl (r_pick hS rfl rfl) ⟨⟨rfl, rfl⟩, (fun _ h => by cases h), hM0⟩
          · intro V Bl X a w hR hX hS hM hn
            have h13 : V 13 = .bool false := (hR 13 rfl).1
            replace hS := hS.to [(58, .bool false)] ⟨congrArg some h13, trivial⟩
            have hM0 := hM; replace hM := hM0.dropApp hn
            exact gy_val rfl (r_move hS rfl) ⟨⟨rfl, rfl⟩, (fun _ h => by cases h), hM0⟩
          · intro V Bl X a w hR hX hS hM hn
            have h14 : V 14 = .bool false := (hR 14 rfl).1
            replace hS := hS.to [(59, .bool false), (10, ptr b42 0)] ⟨congrArg some h14, rfl, trivial⟩
            have hM0 := hM; replace hM := hM0.dropApp hn
            exact gy_valg hS rfl rfl rfl rfl (r_move hS rfl) ⟨⟨rfl, rfl⟩, (fun _ h => by cases h), hM0⟩
          · intro V Bl X a w hR hX hS hM hn
            have h14 : V 14 = .bool false := (hR 14 rfl).1
            have h15 : V 15 = ptr b42 0 := (hR 15 rfl).1
            replace hS := hS.to [(59, .bool false), (60, ptr b42 0)] ⟨congrArg some h14, congrArg some h15, trivial⟩
            have hM0 := hM; replace hM := hM0.dropApp hn
            exact gy_freshg hS rfl rfl rfl rfl (NewRow.fresh (mid_t _ _ _ (hM.block (j := 0) rfl))) hM0 fun v Lx w' ho hM' => ⟨ho, ho.ge, hM'⟩
          · intro V Bl X a w hR hX hS hM hn
            have h14 : V 14 = .bool false := (hR 14 rfl).1
            replace hS := hS.to [(59, .bool false), (61, V 16)] ⟨congrArg some h14, rfl, trivial⟩
            have hr16 := Own.rdIn (show Own w0.heap.size 5 (V 16) (cB 200 (midF (loadH (midF (HS.zero.puts f m))))) (Bl 16) from hR 16 rfl) (hX 16 rfl) hM
            have hM0 := hM; replace hM := hM0.dropApp hn
            exact gy_valg hS rfl rfl rfl rfl (r_convS hS rfl hr16 Try.underlying22 Try.underlying5 Try.underlying9) ⟨⟨rfl, rfl⟩, (fun _ h => by cases h), hM0⟩
          · intro V Bl X a w hR hX hS hM hn
            have h14 : V 14 = .bool false := (hR 14 rfl).1
            replace hS := hS.to [(59, .bool false), (9, .slice (some ⟨b39, 0, none⟩) 200 200)] ⟨congrArg some h14, rfl, trivial⟩
            have hM0 := hM; replace hM := hM0.dropApp hn
            exact gy_valg hS rfl rfl rfl rfl (r_move hS rfl) ⟨⟨rfl, rfl⟩, (fun _ h => by cases h), hM0⟩
          · intro V Bl X a w hR hX hS hM hn
            have h14 : V 14 = .bool false := (hR 14 rfl).1
            have h18 : V 18 = .slice (some ⟨b39, 0, none⟩) 200 200 := (hR 18 rfl).1
            replace hS := hS.to [(59, .bool false), (63, .slice (some ⟨b39, 0, none⟩) 200 200)] ⟨congrArg some h14, congrArg some h18, trivial⟩
            have hM0 := hM; replace hM := hM0.dropApp hn
            exact gy_valg hS rfl rfl rfl rfl (r_convS hS rfl (rd_row hM (j := 1) rfl) Try.underlying22 Try.underlying5 Try.underlying9) ⟨⟨rfl, rfl⟩, (fun _ h => by cases h), hM0⟩
        clear hS hM; intro V Bl a w hR hN hS hM
        replace hM := hM.dropApp (fun e he => by obtain ⟨i, hi, he⟩ := List.mem_flatMap.1 he; exact hN i (List.mem_range.1 hi) e he)
        have v14 : V 14 = .bool false := (hR 14 (by decide)).1
        have v17 : V 17 = SV (bl 200 (midF (loadH (midF (HS.zero.puts f m))))) := (hR 17 (by decide)).1
        have v19 : V 19 = SV (bl 200 (midF (HS.zero.puts f m))) := (hR 19 (by decide)).1
        replace hS := hS.to [(59, .bool false), (62, SV (bl 200 (midF (loadH (midF (HS.zero.puts f m)))))), (64, SV (bl 200 (midF (HS.zero.puts f m)))), (11, .bool true), (10, ptr b42 0), (9, .slice (some ⟨b39, 0, none⟩) 200 200), (0, v0), (1, v1), (8, ptr b31 0)] ⟨congrArg some v14, congrArg some v17, congrArg some v19, rfl, rfl, rfl, rfl, rfl, rfl, trivial⟩
        clear hR hN v14 v17 v19; clear V Bl
        refine s_valg hS (by decide) rfl rfl rfl rfl rfl (r_neqST hS rfl rfl (congrArg (bl 200) hlk.mid)) ?_; clear hS; intro a hS
        refine s_val hS (by decide) rfl rfl (r_pick hS rfl rfl) ?_; clear hS; intro a hS
        refine s_nil ?_
        refine k_seq ?_
        refine c_false hS rfl rfl ?_
        refine c_skip ?_
        refine k_seq ?_
        refine c_seq ?_
        refine c_region ?_
        refine s_val hS (by decide) rfl rfl (r_move hS rfl) ?_; clear hS; intro a hS
        refine s_val hS (by decide) rfl rfl (r_move hS rfl) ?_; clear hS; intro a hS
        refine s_wrote hS hM (by decide) rfl (j := 0) rfl (write_t _ _ _ (hM.block (j := 0) rfl) (hr2.keepGe hM ⟨hb42, hb39, hb31, trivial⟩) (fun q => Nat.ne_of_lt (Nat.lt_of_lt_of_le (hr2.lt q) hb42)) (by omega)) ?_; clear hS hM; intro a w hS hM
        refine s_nil ?_
        refine k_seq ?_
        refine c_seq ?_
        refine c_region ?_
        refine s_val hS (by decide) rfl rfl (r_move hS rfl) ?_; clear hS; intro a hS
        refine s_val hS (by decide) rfl rfl (r_move hS rfl) ?_; clear hS; intro a hS
        refine s_wrote hS hM (by decide) rfl (j := 2) rfl (write_t _ _ _ (hM.block (j := 2) rfl) (hr2.keepGe hM ⟨hb42, hb39, hb31, trivial⟩) (fun q => Nat.ne_of_lt (Nat.lt_of_lt_of_le (hr2.lt q) hb31)) (by omega)) ?_; clear hS hM; intro a w hS hM
        refine s_nil ?_
        refine k_seq ?_
        refine c_seq ?_
        refine c_mplan 31 [8589934591, 4294967295, 2147483647, 939524095, 402653183, 33554431, 134217727, 67108863, 33554431, 16777215, 8388607, 4194303, 1998847, 557055, 32767, 163839, 32767, 65535, 32767, 16383, 8191, 4095, 2047, 255, 511, 255, 127, 63, 31, 12, 0, 0, 1, 0] [⟨b42, 56, hH true ((loadH (midF (HS.zero.puts f m))).puts f2 m2)⟩, ⟨b39, 5, cells 200 (fun i => B (midF (HS.zero.puts f m) i))⟩, ⟨b31, 56, hH true ((HS.zero.puts f m).puts f2 m2)⟩] [(10, ptr b42 0), (0, v0), (1, v1), (8, ptr b31 0)] (fun i v B => match i with | 0 => v = ptr b42 0 ∧ B = [] | 1 => v = .agg (cB 64 (flatB ((loadH (midF (HS.zero.puts f m))).puts f2 m2).sum.s)).toArray ∧ B = [] | 2 => v = v0 ∧ B = [] | 3 => v = v1 ∧ B = [] | 4 => Own w0.heap.size 22 v (cells 2 (sel v0 v1 v1)) B | 5 => v = .agg (cB 64 (flatB ((HS.zero.puts f m).puts f2 m2).sum.s)).toArray ∧ B = [] | 6 => v = .bool true ∧ B = [] | 7 => v = .bool true ∧ B = [] | 8 => v = ptr b31 0 ∧ B = [] | 9 => v = .agg (cB 64 (flatB ((HS.zero.puts f m).puts f2 m2).sum.s)).toArray ∧ B = [] | 10 => v = ptr b42 0 ∧ B = [] | 11 => v = .agg (cB 64 (flatB ((loadH (midF (HS.zero.puts f m))).puts f2 m2).sum.s)).toArray ∧ B = [] | 12 => v = .bool true ∧ B = [] | 13 => v = .bool true ∧ B = [] | 14 => v = .bool true ∧ B = [] | 15 => v = ptr b42 0 ∧ B = [] | 16 => v = N ((loadH (midF (HS.zero.puts f m))).puts f2 m2).n ∧ B = [] | 17 => v = v0 ∧ B = [] | 18 => v = N m ∧ B = [] | 19 => v = v1 ∧ B = [] | 20 => v = N m2 ∧ B = [] | 21 => v = N (m + m2) ∧ B = [] | 22 => v = .bool true ∧ B = [] | 23 => v = .bool true ∧ B = [] | 24 => v = .bool true ∧ B = [] | 25 => v = ptr b42 0 ∧ B = [] | 26 => Own w0.heap.size 5 v (cB 200 (midF ((loadH (midF (HS.zero.puts f m))).puts f2 m2))) B | 27 => v = SV (bl 200 (midF ((loadH (midF (HS.zero.puts f m))).puts f2 m2))) ∧ B = [] | 28 => v = ptr b31 0 ∧ B = [] | 29 => Own w0.heap.size 5 v (cB 200 (midF ((HS.zero.puts f m).puts f2 m2))) B | 30 => v = SV (bl 200 (midF ((HS.zero.puts f m).puts f2 m2))) ∧ B = [] | _ => True) (by kernel_rfl) (by kernel_rfl) (by kernel_rfl) hS ⟨rfl, rfl, rfl, rfl, trivial⟩ hM ?_ ?_
        · clear hS hM
          refine ⟨?_, ?_, ?_, ?_, ?_, ?_, ?_, ?_, ?_, ?_, ?_, ?_, ?_, ?_, ?_, ?_, ?_, ?_, ?_, ?_, ?_, ?_, ?_, ?_, ?_, ?_, ?_, ?_, ?_, ?_, ?_, trivial⟩
          · intro V Bl X a w hR hX hS hM hn
            replace hS := hS.to [(10, ptr b42 0)] ⟨rfl, trivial⟩
            have hM0 := hM; replace hM := hM0.dropApp hn
            exact gy_val rfl (r_move hS rfl) ⟨⟨rfl, rfl⟩, (fun _ h => by cases h), hM0⟩
          · intro V Bl X a w hR hX hS hM hn
            have h0 : V 0 = ptr b42 0 := (hR 0 rfl).1
            replace hS := hS.to [(73, ptr b42 0)] ⟨congrArg some h0, trivial⟩
            have hM0 := hM; replace hM := hM0.dropApp hn
            exact gy_pure hS rfl (sum_t _ _ _ (hM.block (j := 0) rfl) (by omega)) hM0 fun w' hM' => ⟨⟨rfl, rfl⟩, (fun _ h => by cases h), hM'⟩
          · intro V Bl X a w hR hX hS hM hn
            replace hS := hS.to [(0, v0)] ⟨rfl, trivial⟩
            have hM0 := hM; replace hM := hM0.dropApp hn
            exact gy_val rfl (r_move hS rfl) ⟨⟨rfl, rfl⟩, (fun _ h => by cases h), hM0⟩
          · intro V Bl X a w hR hX hS hM hn
            replace hS := hS.to [(1, v1)] ⟨rfl, trivial⟩
            have hM0 := hM; replace hM := hM0.dropApp hn
            exact gy_val rfl (r_move hS rfl) ⟨⟨rfl, rfl⟩, (fun _ h => by cases h), hM0⟩
          · intro V Bl X a w hR hX hS hM hn
            have h2 : V 2 = v0 := (hR 2 rfl).1
            have h3 : V 3 = v1 := (hR 3 rfl).1
            replace hS := hS.to [(75, v0), (76, v1)] ⟨congrArg some h2, congrArg some h3, trivial⟩
            have hM0 := hM; replace hM := hM0.dropApp hn
            exact gy_build hS (vs := [(0, _), (1, _)]) rfl (row68_2 (hr.keepGe hM ⟨hb42, hb39, hb31, trivial⟩).isS (hr2.keepGe hM ⟨hb42, hb39, hb31, trivial⟩).isS) rfl hM0 fun v Lx w' ho hM' => ⟨ho, ho.ge, hM'⟩
          · intro V Bl X a w hR hX hS hM hn
            replace hS := hS.to [(77, V 4)] ⟨rfl, trivial⟩
            have hr4 := Own.rdIn (show Own w0.heap.size 22 (V 4) (cells 2 (sel v0 v1 v1)) (Bl 4) from hR 4 rfl) (hX 4 rfl) hM
            have hM0 := hM; replace hM := hM0.dropApp hn
            exact gy_pure hS rfl (of2_ok _ hr4 (hr.keepGe hM ⟨hb42, hb39, hb31, trivial⟩) (hr2.keepGe hM ⟨hb42, hb39, hb31, trivial⟩) (by omega) (by omega)) hM0 fun w' hM' => ⟨⟨rfl, rfl⟩, (fun _ h => by cases h), hM'⟩
          · intro V Bl X a w hR hX hS hM hn
            have h1 : V 1 = .agg (cB 64 (flatB ((loadH (midF (HS.zero.puts f m))).puts f2 m2).sum.s)).toArray := (hR 1 rfl).1
            have h5 : V 5 = .agg (cB 64 (flatB ((HS.zero.puts f m).puts f2 m2).sum.s)).toArray := (hR 5 rfl).1
            replace hS := hS.to [(74, .agg (cB 64 (flatB ((loadH (midF (HS.zero.puts f m))).puts f2 m2).sum.s)).toArray), (78, .agg (cB 64 (flatB ((HS.zero.puts f m).puts f2 m2).sum.s)).toArray)] ⟨congrArg some h1, congrArg some h5, trivial⟩
            have hM0 := hM; replace hM := hM0.dropApp hn
            exact gy_val rfl (r_eqlBt hS rfl rfl (by kernel_rfl) Try.underlying39 Try.underlying5 sz5 (flat_like hlk1.sum)) ⟨⟨rfl, rfl⟩, (fun _ h => by cases h), hM0⟩
          · intro V Bl X a w hR hX hS hM hn
            have h6 : V 6 = .bool true := (hR 6 rfl).1
            replace hS := hS.to [(79, .bool true)] ⟨congrArg some h6, trivial⟩
            have hM0 := hM; replace hM := hM0.dropApp hn
            exact gy_val rfl (r_move hS rfl) ⟨⟨rfl, rfl⟩, (fun _ h => by cases h), hM0⟩
          · intro V Bl X a w hR hX hS hM hn
            have h7 : V 7 = .bool true := (hR 7 rfl).1
            replace hS := hS.to [(80, .bool true), (8, ptr b31 0)] ⟨congrArg some h7, rfl, trivial⟩
            have hM0 := hM; replace hM := hM0.dropApp hn
            exact gy_valg hS rfl rfl rfl rfl (r_move hS rfl) ⟨⟨rfl, rfl⟩, (fun _ h => by cases h), hM0⟩
          · intro V Bl X a w hR hX hS hM hn
            have h7 : V 7 = .bool true := (hR 7 rfl).1
            have h8 : V 8 = ptr b31 0 := (hR 8 rfl).1
            replace hS := hS.to [(80, .bool true), (81, ptr b31 0)] ⟨congrArg some h7, congrArg some h8, trivial⟩
            have hM0 := hM; replace hM := hM0.dropApp hn
            exact gy_pureg hS rfl rfl rfl rfl (sum_t _ _ _ (hM.block (j := 2) rfl) (by omega)) hM0 fun w' hM' => ⟨⟨rfl, rfl⟩, (fun _ h => by cases h), hM'⟩
          · intro V Bl X a w hR hX hS hM hn
            have h7 : V 7 = .bool true := (hR 7 rfl).1
            replace hS := hS.to [(80, .bool true), (10, ptr b42 0)] ⟨congrArg some h7, rfl, trivial⟩
            have hM0 := hM; replace hM := hM0.dropApp hn
            exact gy_valg hS rfl rfl rfl rfl (r_move hS rfl) ⟨⟨rfl, rfl⟩, (fun _ h => by cases h), hM0⟩
          · intro V Bl X a w hR hX hS hM hn
            have h7 : V 7 = .bool true := (hR 7 rfl).1
            have h10 : V 10 = ptr b42 0 := (hR 10 rfl).1
            replace hS := hS.to [(80, .bool true), (83, ptr b42 0)] ⟨congrArg some h7, congrArg some h10, trivial⟩
            have hM0 := hM; replace hM := hM0.dropApp hn
            exact gy_pureg hS rfl rfl rfl rfl (sum_t _ _ _ (hM.block (j := 0) rfl) (by omega)) hM0 fun w' hM' => ⟨⟨rfl, rfl⟩, (fun _ h => by cases h), hM'⟩
          · intro V Bl X a w hR hX hS hM hn
            have h7 : V 7 = .bool true := (hR 7 rfl).1
            have h9 : V 9 = .agg (cB 64 (flatB ((HS.zero.puts f m).puts f2 m2).sum.s)).toArray := (hR 9 rfl).1
            have h11 : V 11 = .agg (cB 64 (flatB ((loadH (midF (HS.zero.puts f m))).puts f2 m2).sum.s)).toArray := (hR 11 rfl).1
            replace hS := hS.to [(80, .bool true), (82, .agg (cB 64 (flatB ((HS.zero.puts f m).puts f2 m2).sum.s)).toArray), (84, .agg (cB 64 (flatB ((loadH (midF (HS.zero.puts f m))).puts f2 m2).sum.s)).toArray)] ⟨congrArg some h7, congrArg some h9, congrArg some h11, trivial⟩
            have hM0 := hM; replace hM := hM0.dropApp hn
            exact gy_valg hS rfl rfl rfl rfl (r_eqlBt hS rfl rfl (by kernel_rfl) Try.underlying39 Try.underlying5 sz5 (fun i hi => (flat_like hlk1.sum i hi).symm)) ⟨⟨rfl, rfl⟩, (fun _ h => by cases h), hM0⟩
          · intro V Bl X a w hR hX hS hM hn
            have h7 : V 7 = .bool true := (hR 7 rfl).1
            have h12 : V 12 = .bool true := (hR 12 rfl).1
            replace hS := hS.to [(80, .bool true), (85, .bool true)] ⟨congrArg some h7, congrArg some h12, trivial⟩
            have hM0 := hM; replace hM := hM0.dropApp hn
            exact gy_val rfl (r_pick hS rfl rfl) ⟨⟨rfl, rfl⟩, (fun _ h => by cases h), hM0⟩
          · intro V Bl X a w hR hX hS hM hn
            have h13 : V 13 = .bool true := (hR 13 rfl).1
            replace hS := hS.to [(86, .bool true)] ⟨congrArg some h13, trivial⟩
            have hM0 := hM; replace hM := hM0.dropApp hn
            exact gy_val rfl (r_move hS rfl) ⟨⟨rfl, rfl⟩, (fun _ h => by cases h), hM0⟩
          · intro V Bl X a w hR hX hS hM hn
            have h14 : V 14 = .bool true := (hR 14 rfl).1
            replace hS := hS.to [(87, .bool true), (10, ptr b42 0)] ⟨congrArg some h14, rfl, trivial⟩
            have hM0 := hM; replace hM := hM0.dropApp hn
            exact gy_valg hS rfl rfl rfl rfl (r_move hS rfl) ⟨⟨rfl, rfl⟩, (fun _ h => by cases h), hM0⟩
          · intro V Bl X a w hR hX hS hM hn
            have h14 : V 14 = .bool true := (hR 14 rfl).1
            have h15 : V 15 = ptr b42 0 := (hR 15 rfl).1
            replace hS := hS.to [(87, .bool true), (88, ptr b42 0)] ⟨congrArg some h14, congrArg some h15, trivial⟩
            have hM0 := hM; replace hM := hM0.dropApp hn
            exact gy_pureg hS rfl rfl rfl rfl (count_ok _ _ _ _ (hM.block (j := 0) rfl)) hM0 fun w' hM' => ⟨⟨rfl, rfl⟩, (fun _ h => by cases h), hM'⟩
          · intro V Bl X a w hR hX hS hM hn
            have h14 : V 14 = .bool true := (hR 14 rfl).1
            replace hS := hS.to [(87, .bool true), (0, v0)] ⟨congrArg some h14, rfl, trivial⟩
            have hM0 := hM; replace hM := hM0.dropApp hn
            exact gy_valg hS rfl rfl rfl rfl (r_move hS rfl) ⟨⟨rfl, rfl⟩, (fun _ h => by cases h), hM0⟩
          · intro V Bl X a w hR hX hS hM hn
            have h14 : V 14 = .bool true := (hR 14 rfl).1
            have h17 : V 17 = v0 := (hR 17 rfl).1
            replace hS := hS.to [(87, .bool true), (90, v0)] ⟨congrArg some h14, congrArg some h17, trivial⟩
            have hM0 := hM; replace hM := hM0.dropApp hn
            exact gy_valg hS rfl rfl rfl rfl (r_lenR hS rfl (hr.keepGe hM ⟨hb42, hb39, hb31, trivial⟩) Try.underlying22) ⟨⟨rfl, rfl⟩, (fun _ h => by cases h), hM0⟩
          · intro V Bl X a w hR hX hS hM hn
            have h14 : V 14 = .bool true := (hR 14 rfl).1
            replace hS := hS.to [(87, .bool true), (1, v1)] ⟨congrArg some h14, rfl, trivial⟩
            have hM0 := hM; replace hM := hM0.dropApp hn
            exact gy_valg hS rfl rfl rfl rfl (r_move hS rfl) ⟨⟨rfl, rfl⟩, (fun _ h => by cases h), hM0⟩
          · intro V Bl X a w hR hX hS hM hn
            have h14 : V 14 = .bool true := (hR 14 rfl).1
            have h19 : V 19 = v1 := (hR 19 rfl).1
            replace hS := hS.to [(87, .bool true), (92, v1)] ⟨congrArg some h14, congrArg some h19, trivial⟩
            have hM0 := hM; replace hM := hM0.dropApp hn
            exact gy_valg hS rfl rfl rfl rfl (r_lenR hS rfl (hr2.keepGe hM ⟨hb42, hb39, hb31, trivial⟩) Try.underlying22) ⟨⟨rfl, rfl⟩, (fun _ h => by cases h), hM0⟩
          · intro V Bl X a w hR hX hS hM hn
            have h14 : V 14 = .bool true := (hR 14 rfl).1
            have h18 : V 18 = N m := (hR 18 rfl).1
            have h20 : V 20 = N m2 := (hR 20 rfl).1
            replace hS := hS.to [(87, .bool true), (91, N m), (93, N m2)] ⟨congrArg some h14, congrArg some h18, congrArg some h20, trivial⟩
            have hM0 := hM; replace hM := hM0.dropApp hn
            exact gy_valg hS rfl rfl rfl rfl (r_bv hS rfl rfl gN (b_addN _ _ _ (by omega))) ⟨⟨rfl, rfl⟩, (fun _ h => by cases h), hM0⟩
          · intro V Bl X a w hR hX hS hM hn
            have h14 : V 14 = .bool true := (hR 14 rfl).1
            have h16 : V 16 = N ((loadH (midF (HS.zero.puts f m))).puts f2 m2).n := (hR 16 rfl).1
            have h21 : V 21 = N (m + m2) := (hR 21 rfl).1
            replace hS := hS.to [(87, .bool true), (89, N ((loadH (midF (HS.zero.puts f m))).puts f2 m2).n), (94, N (m + m2))] ⟨congrArg some h14, congrArg some h16, congrArg some h21, trivial⟩
            have hM0 := hM; replace hM := hM0.dropApp hn
            exact gy_valg hS rfl rfl rfl rfl (r_bv hS rfl rfl gN (b_eqlNt hg1)) ⟨⟨rfl, rfl⟩, (fun _ h => by cases h), hM0⟩
          · intro V Bl X a w hR hX hS hM hn
            have h14 : V 14 = .bool true := (hR 14 rfl).1
            have h22 : V 22 = .bool true := (hR 22 rfl).1
            replace hS := hS.to [(87, .bool true), (95, .bool true)] ⟨congrArg some h14, congrArg some h22, trivial⟩
            have hM0 := hM; replace hM := hM0.dropApp hn
            exact gy_val rfl (r_pick hS rfl rfl) ⟨⟨rfl, rfl⟩, (fun _ h => by cases h), hM0⟩
          · intro V Bl X a w hR hX hS hM hn
            have h23 : V 23 = .bool true := (hR 23 rfl).1
            replace hS := hS.to [(96, .bool true)] ⟨congrArg some h23, trivial⟩
            have hM0 := hM; replace hM := hM0.dropApp hn
            exact gy_val rfl (r_move hS rfl) ⟨⟨rfl, rfl⟩, (fun _ h => by cases h), hM0⟩
          · intro V Bl X a w hR hX hS hM hn
            have h24 : V 24 = .bool true := (hR 24 rfl).1
            replace hS := hS.to [(97, .bool true), (10, ptr b42 0)] ⟨congrArg some h24, rfl, trivial⟩
            have hM0 := hM; replace hM := hM0.dropApp hn
            exact gy_valg hS rfl rfl rfl rfl (r_move hS rfl) ⟨⟨rfl, rfl⟩, (fun _ h => by cases h), hM0⟩
          · intro V Bl X a w hR hX hS hM hn
            have h24 : V 24 = .bool true := (hR 24 rfl).1
            have h25 : V 25 = ptr b42 0 := (hR 25 rfl).1
            replace hS := hS.to [(97, .bool true), (98, ptr b42 0)] ⟨congrArg some h24, congrArg some h25, trivial⟩
            have hM0 := hM; replace hM := hM0.dropApp hn
            exact gy_freshg hS rfl rfl rfl rfl (NewRow.fresh (mid_t _ _ _ (hM.block (j := 0) rfl))) hM0 fun v Lx w' ho hM' => ⟨ho, ho.ge, hM'⟩
          · intro V Bl X a w hR hX hS hM hn
            have h24 : V 24 = .bool true := (hR 24 rfl).1
            replace hS := hS.to [(97, .bool true), (99, V 26)] ⟨congrArg some h24, rfl, trivial⟩
            have hr26 := Own.rdIn (show Own w0.heap.size 5 (V 26) (cB 200 (midF ((loadH (midF (HS.zero.puts f m))).puts f2 m2))) (Bl 26) from hR 26 rfl) (hX 26 rfl) hM
            have hM0 := hM; replace hM := hM0.dropApp hn
            exact gy_valg hS rfl rfl rfl rfl (r_convS hS rfl hr26 Try.underlying22 Try.underlying5 Try.underlying9) ⟨⟨rfl, rfl⟩, (fun _ h => by cases h), hM0⟩
          · intro V Bl X a w hR hX hS hM hn
            have h24 : V 24 = .bool true := (hR 24 rfl).1
            replace hS := hS.to [(97, .bool true), (8, ptr b31 0)] ⟨congrArg some h24, rfl, trivial⟩
            have hM0 := hM; replace hM := hM0.dropApp hn
            exact gy_valg hS rfl rfl rfl rfl (r_move hS rfl) ⟨⟨rfl, rfl⟩, (fun _ h => by cases h), hM0⟩
          · intro V Bl X a w hR hX hS hM hn
            have h24 : V 24 = .bool true := (hR 24 rfl).1
            have h28 : V 28 = ptr b31 0 := (hR 28 rfl).1
            replace hS := hS.to [(97, .bool true), (101, ptr b31 0)] ⟨congrArg some h24, congrArg some h28, trivial⟩
            have hM0 := hM; replace hM := hM0.dropApp hn
            exact gy_freshg hS rfl rfl rfl rfl (NewRow.fresh (mid_t _ _ _ (hM.block (j := 2) rfl))) hM0 fun v Lx w' ho hM' => ⟨ho, ho.ge, hM'⟩
          · intro V Bl X a w hR hX hS hM hn
            have h24 : V 24 = .bool true := (hR 24 rfl).1
            replace hS := hS.to [(97, .bool true), (102, V 29)] ⟨congrArg some h24, rfl, trivial⟩
            have hr29 := Own.rdIn (show Own w0.heap.size 5 (V 29) (cB 200 (midF ((HS.zero.puts f m).puts f2 m2))) (Bl 29) from hR 29 rfl) (hX 29 rfl) hM
            have hM0 := hM; replace hM := hM0.dropApp hn
            exact gy_valg hS rfl rfl rfl rfl (r_convS hS rfl hr29 Try.underlying22 Try.underlying5 Try.underlying9) ⟨⟨rfl, rfl⟩, (fun _ h => by cases h), hM0⟩
        clear hS hM; intro V Bl a w hR hN hS hM
        replace hM := hM.dropApp (fun e he => by obtain ⟨i, hi, he⟩ := List.mem_flatMap.1 he; exact hN i (List.mem_range.1 hi) e he)
        have v24 : V 24 = .bool true := (hR 24 (by decide)).1
        have v27 : V 27 = SV (bl 200 (midF ((loadH (midF (HS.zero.puts f m))).puts f2 m2))) := (hR 27 (by decide)).1
        have v30 : V 30 = SV (bl 200 (midF ((HS.zero.puts f m).puts f2 m2))) := (hR 30 (by decide)).1
        replace hS := hS.to [(97, .bool true), (100, SV (bl 200 (midF ((loadH (midF (HS.zero.puts f m))).puts f2 m2)))), (103, SV (bl 200 (midF ((HS.zero.puts f m).puts f2 m2)))), (10, ptr b42 0), (0, v0), (1, v1), (8, ptr b31 0)] ⟨congrArg some v24, congrArg some v27, congrArg some v30, rfl, rfl, rfl, rfl, trivial⟩
        clear hR hN v24 v27 v30; clear V Bl
        refine s_valg hS (by decide) rfl rfl rfl rfl rfl (r_eqlST hS rfl rfl (congrArg (bl 200) hlk1.mid)) ?_; clear hS; intro a hS
        refine s_val hS (by decide) rfl rfl (r_pick hS rfl rfl) ?_; clear hS; intro a hS
        refine s_val hS (by decide) rfl rfl (r_assign hS rfl) ?_; clear hS; intro a hS
        refine s_nil ?_
        refine k_seq ?_
        refine c_ret ?_
        exact k_res1 hS rfl (RV.tmp rfl) ⟨rfl, hM.done ⟨hb42, hb39, hb31, trivial⟩⟩
end Go.Proofs.Ytfojllcccncdbaa
