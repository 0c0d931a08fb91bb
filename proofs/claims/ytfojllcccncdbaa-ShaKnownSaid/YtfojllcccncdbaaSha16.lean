/- The walk of the law of chapter 8 on known texts. Printed by a program of mine (walk.py). -/
import Derived.Test.YtfojllcccncdbaaSha12
import Derived.Test.YtfojllcccncdbaaSha15
namespace Go.Proofs.Ytfojllcccncdbaa
open Go Go.Sym
attribute [local irreducible] sstep wordsTo HS.puts be flatB numTo num HS.many ovr cat zs HS.sum

theorem row43_3 (x y z : List UInt8) : BuildsRow Try.prog 43 9 3 [(0, SV x), (1, SV y), (2, SV z)] [SV x, SV y, SV z] := fun _ => by kernel_rfl
theorem sz9 : (Try.prog.info? 9).map (·.size) = some 1 := by kernel_rfl

set_option maxRecDepth 100000 in
theorem shaKnown_ok (w0 : World) (n : Int) : Pure Try.prog 9 #[.int .i64 n] w0 (.bool true) := by
  refine ⟨by kernel_rfl, ?_⟩
  refine calls_sym Try.func9 rfl (by kernel_rfl) ?_
  intro a hS
  have hM : Mem w0 w0 [] := Mem.refl w0
  refine c_seq ?_
  refine c_region ?_
  refine s_val hS (by decide) rfl rfl (r_assign hS rfl) ?_; clear hS; intro a hS
  refine s_nil ?_
  refine k_seq ?_
  refine c_seq ?_
  refine c_region ?_
  refine s_pure hS hM (by decide) rfl (alive_ok _) ?_; clear hS hM; intro a w hS hM
  refine s_val hS (by decide) rfl rfl (r_assign hS rfl) ?_; clear hS; intro a hS
  refine s_nil ?_
  refine k_seq ?_
  refine c_seq ?_
  refine c_region ?_
  refine s_buildSlice hS hM (by decide) (vs := [(0, SV kt0), (1, SV kt1), (2, SV kt2)]) rfl (row43_3 _ _ _) ?_; clear hS hM; intro a b10 w hb10 hS hM
  refine s_val hS (by decide) rfl rfl (r_assign hS rfl) ?_; clear hS; intro a hS
  refine s_nil ?_
  refine k_seq ?_
  refine c_seq ?_
  refine c_region ?_
  refine s_buildSlice hS hM (by decide) (vs := [(0, SV kw0), (1, SV kw1), (2, SV kw2)]) rfl (row43_3 _ _ _) ?_; clear hS hM; intro a b11 w hb11 hS hM
  refine s_val hS (by decide) rfl rfl (r_assign hS rfl) ?_; clear hS; intro a hS
  refine s_nil ?_
  refine k_seq ?_
  refine c_seq ?_
  refine c_seq ?_
  refine c_region ?_
  refine s_val hS (by decide) rfl rfl (r_move hS rfl) ?_; clear hS; intro a hS
  refine s_val hS (by decide) rfl rfl (r_not hS rfl) ?_; clear hS; intro a hS
  refine s_val hS (by decide) rfl rfl (r_move hS rfl) ?_; clear hS; intro a hS
  refine s_valg hS (by decide) rfl rfl rfl rfl rfl (r_move hS rfl) ?_; clear hS; intro a hS
  refine s_valgb hS (by decide) rfl rfl rfl rfl rfl (r_bv hS rfl (show ev _ _ = some (.int .i64 (0)) from rfl) gZ (b_lssZ _ _ _)) (fun hc => ?_) (fun hc => ?_)
  · clear hS; intro a hS; skip
    refine s_val hS (by decide) rfl rfl (r_pick hS rfl rfl) ?_; clear hS; intro a hS
    refine s_val hS (by decide) rfl rfl (r_move hS rfl) ?_; clear hS; intro a hS
    refine s_skip hS (by decide) rfl rfl rfl rfl rfl ?_; clear hS; intro a hS
    refine s_skip hS (by decide) rfl rfl rfl rfl rfl ?_; clear hS; intro a hS
    refine s_skip hS (by decide) rfl rfl rfl rfl rfl ?_; clear hS; intro a hS
    refine s_skip hS (by decide) rfl rfl rfl rfl rfl ?_; clear hS; intro a hS
    refine s_val hS (by decide) rfl rfl (r_pick hS rfl rfl) ?_; clear hS; intro a hS
    refine s_nil ?_
    refine k_seq ?_
    refine c_true hS rfl rfl ?_
    refine c_seq ?_
    refine c_region ?_
    refine s_val hS (by decide) rfl rfl (r_move hS rfl) ?_; clear hS; intro a hS
    refine s_val hS (by decide) rfl rfl (r_assign hS rfl) ?_; clear hS; intro a hS
    refine s_nil ?_
    refine k_seq ?_
    refine c_ret ?_
    refine k_thenr ?_
    exact k_res1 hS rfl (RV.tmp rfl) ⟨rfl, (by first | exact hM.done ⟨hb11, hb10, trivial⟩ | exact hM0.after (hM.done ⟨hb6, hb30, trivial⟩))⟩
  · clear hS; intro a hS; have h16 := of_decide_eq_false hc
    refine s_val hS (by decide) rfl rfl (r_pick hS rfl rfl) ?_; clear hS; intro a hS
    refine s_val hS (by decide) rfl rfl (r_move hS rfl) ?_; clear hS; intro a hS
    refine s_valg hS (by decide) rfl rfl rfl rfl rfl (r_move hS rfl) ?_; clear hS; intro a hS
    refine s_valg hS (by decide) rfl rfl rfl rfl rfl (r_move hS rfl) ?_; clear hS; intro a hS
    refine s_valg hS (by decide) rfl rfl rfl rfl rfl (r_lenR hS rfl (row3t hM (j := 1) rfl) Try.underlying43) ?_; clear hS; intro a hS
    refine s_valgb hS (by decide) rfl rfl rfl rfl rfl (r_bv hS rfl rfl gZ (b_geqZ _ _ _)) (fun hc => ?_) (fun hc => ?_)
    · clear hS; intro a hS; skip
      refine s_val hS (by decide) rfl rfl (r_pick hS rfl rfl) ?_; clear hS; intro a hS
      refine s_nil ?_
      refine k_seq ?_
      refine c_true hS rfl rfl ?_
      refine c_seq ?_
      refine c_region ?_
      refine s_val hS (by decide) rfl rfl (r_move hS rfl) ?_; clear hS; intro a hS
      refine s_val hS (by decide) rfl rfl (r_assign hS rfl) ?_; clear hS; intro a hS
      refine s_nil ?_
      refine k_seq ?_
      refine c_ret ?_
      refine k_thenr ?_
      exact k_res1 hS rfl (RV.tmp rfl) ⟨rfl, (by first | exact hM.done ⟨hb11, hb10, trivial⟩ | exact hM0.after (hM.done ⟨hb6, hb30, trivial⟩))⟩
    · clear hS; intro a hS; have h22 := of_decide_eq_false hc
      refine s_val hS (by decide) rfl rfl (r_pick hS rfl rfl) ?_; clear hS; intro a hS
      refine s_nil ?_
      refine k_seq ?_
      refine c_false hS rfl rfl ?_
      refine c_skip ?_
      refine k_seq ?_
      refine c_seq ?_
      refine c_region ?_
      obtain ⟨i, rfl⟩ : ∃ i : Nat, n = (i : Int) := ⟨n.toNat, by omega⟩
      have hi : i < 3 := by omega
      refine s_val hS (by decide) rfl rfl (r_move hS rfl) ?_; clear hS; intro a hS
      refine s_val hS (by decide) rfl rfl (r_move hS rfl) ?_; clear hS; intro a hS
      refine s_val hS (by decide) rfl rfl (r_indexR hS rfl (row3t hM (j := 1) rfl) rfl Try.underlying43 sz9 (by omega)) ?_; clear hS; intro a hS
      refine s_val hS (by decide) rfl rfl (r_loadR hS rfl (row3t hM (j := 1) rfl) (by omega) Try.underlying9 rfl) ?_; clear hS; intro a hS
      refine s_convB (l := kt i) hS hM (by decide) rfl Try.underlying9 Try.underlying22 Try.underlying5 ?_; clear hS hM; intro a w0 v29 hr29 hS hM2
      have hr5 := row3t hM2 (j := 0) rfl
      have hM0 := hM2.done ⟨hb11, hb10, trivial⟩
      clear hM2
      have hM := Mem.refl w0
      have hkl := kt_len i hi
      refine s_buildSlice hS hM (by decide) (vs := [(0, _)]) rfl (row68_1 (hr29.keepGe hM trivial).isS) ?_; clear hS hM; intro a b30 w hb30 hS hM
      refine s_pure hS hM (by decide) rfl (of1_ok _ (row1s hM (j := 0) rfl) (hr29.keepGe hM ⟨hb30, trivial⟩) (by omega)) ?_; clear hS hM; intro a w hS hM
      refine s_alloc hS hM (by decide) zero39 ?_; clear hS hM; intro a b6 w hb6 hS hM
      refine s_storeAll hS hM rfl rfl (j := 0) rfl sz39 cells_len cells_len cB_one ?_; clear hS hM; intro a w hS hM
      refine s_nil ?_
      refine k_seq ?_
      refine c_seq ?_
      refine c_region ?_
      refine s_val hS (by decide) rfl rfl (r_assign hS rfl) ?_; clear hS; intro a hS
      refine s_nil ?_
      refine k_seq ?_
      refine c_seq ?_
      refine c_seq ?_
      refine c_region ?_
      refine s_val hS (by decide) rfl rfl (r_assign hS (show ev _ _ = some (N 0) from rfl)) ?_; clear hS; intro a hS
      refine s_nil ?_
      refine k_seq ?_
      refine c_block ?_
      refine c_loop (σ := Nat) (fun k a w => (k ≤ 64) ∧ Slots a 65 (env [(0, N i), (5, .slice (some ⟨b11, 0, none⟩) 3 3), (6, ptr b6 0), (7, SV (hexTo (flatB (HS.zero.puts (fl (kt i)) (kt i).length).sum.s) k)), (8, N k)]) ∧ Mem w0 w ([⟨b6, 39, cB 64 (flatB (HS.zero.puts (fl (kt i)) (kt i).length).sum.s)⟩, ⟨b30, 22, [v29]⟩])) (fun k => 64 - k) (0) ⟨by omega, hS.to _ ⟨rfl, rfl, rfl, rfl, rfl, trivial⟩, hM⟩ ?_
      clear hS hM; rintro k a w ⟨hk, hS, hM⟩
      refine c_seq ?_
      refine c_seq ?_
      refine c_region ?_
      refine s_val hS (by decide) rfl rfl (r_move hS rfl) ?_; clear hS; intro a hS
      refine s_val hS (by decide) rfl rfl (r_bv hS rfl (show ev _ _ = some (N 64) from rfl) gN (b_lssN _ _ _)) ?_; clear hS; intro a hS
      refine s_nil ?_
      refine k_seq ?_
      refine c_cond hS rfl (fun hc => ?_) (fun hc => ?_)
      · have hk1 := of_decide_eq_true hc
        refine c_skip ?_
        refine k_seq ?_
        refine c_seq ?_
        refine c_block ?_
        refine c_plan 22 (fun w => Mem w0 w _) [(7, _), (8, _), (6, _), (0, _), (5, _), (32, _), (33, _)] (by kernel_rfl) (by kernel_rfl) hS ⟨rfl, rfl, rfl, rfl, rfl, rfl, rfl, trivial⟩ (hM.drawn _) ?_; clear hS hM
        refine p_step rfl (fun a w hS hM => y_val rfl (r_move hS rfl)) ?_
        refine p_step rfl (fun a w hS hM => y_val rfl (r_move hS rfl)) ?_
        refine p_step rfl (fun a w hS hM => y_val rfl (r_index0 hS rfl rfl Try.underlying39 sz5 (by omega))) ?_
        refine p_step rfl (fun a w hS hM => y_val rfl (r_load hS hM rfl (j := 0) rfl Try.underlying5 rfl (cells_get (by omega)))) ?_
        refine p_step rfl (fun a w hS hM => y_val rfl (r_bv hS rfl (show ev _ _ = some (.int .u64 ((4 : Nat) : Int)) from rfl) gB (b_shrB _ _ _ 4))) ?_
        refine p_step rfl (fun a w hS hM => y_val rfl (r_move hS rfl)) ?_
        refine p_step rfl (fun a w hS hM => y_val rfl (r_index0 hS rfl rfl Try.underlying39 sz5 (by omega))) ?_
        refine p_step rfl (fun a w hS hM => y_val rfl (r_load hS hM rfl (j := 0) rfl Try.underlying5 rfl (cells_get (by omega)))) ?_
        refine p_step rfl (fun a w hS hM => y_val rfl (r_bv hS rfl (show ev _ _ = some (.int .u64 ((4 : Nat) : Int)) from rfl) gB (b_shrB _ _ _ 4))) ?_
        refine p_step rfl (fun a w hS hM => y_val rfl (r_bv hS rfl (show ev _ _ = some (B 1#8) from rfl) gB (b_addB _ _ _))) ?_
        refine p_step rfl (fun a w hS hM => y_val rfl (r_hex hS (show ev _ _ = some (SV hexd) from rfl) rfl rfl Try.underlying9 (hi_lt _))) ?_
        refine p_step rfl (fun a w hS hM => y_val rfl (r_addS hS rfl rfl (by rw [hexTo_len]; omega) (by show 1 ≤ _; decide))) ?_
        refine p_step rfl (fun a w hS hM => y_val rfl (r_move hS rfl)) ?_
        refine p_step rfl (fun a w hS hM => y_val rfl (r_index0 hS rfl rfl Try.underlying39 sz5 (by omega))) ?_
        refine p_step rfl (fun a w hS hM => y_val rfl (r_load hS hM rfl (j := 0) rfl Try.underlying5 rfl (cells_get (by omega)))) ?_
        refine p_step rfl (fun a w hS hM => y_val rfl (r_bv hS rfl (show ev _ _ = some (B 15#8) from rfl) gB (b_andB _ _ _))) ?_
        refine p_step rfl (fun a w hS hM => y_val rfl (r_move hS rfl)) ?_
        refine p_step rfl (fun a w hS hM => y_val rfl (r_index0 hS rfl rfl Try.underlying39 sz5 (by omega))) ?_
        refine p_step rfl (fun a w hS hM => y_val rfl (r_load hS hM rfl (j := 0) rfl Try.underlying5 rfl (cells_get (by omega)))) ?_
        refine p_step rfl (fun a w hS hM => y_val rfl (r_bv hS rfl (show ev _ _ = some (B 15#8) from rfl) gB (b_andB _ _ _))) ?_
        refine p_step rfl (fun a w hS hM => y_val rfl (r_bv hS rfl (show ev _ _ = some (B 1#8) from rfl) gB (b_addB _ _ _))) ?_
        refine p_step rfl (fun a w hS hM => y_val rfl (r_hex hS (show ev _ _ = some (SV hexd) from rfl) rfl rfl Try.underlying9 (lo_lt _))) ?_
        refine p_nil rfl ?_; intro a w hS hM
        refine s_val hS (by decide) rfl rfl (r_addS hS rfl rfl (by rw [List.length_append, hexTo_len, List.length_singleton]; omega) (by show 1 ≤ _; decide)) ?_; clear hS; intro a hS
        refine s_val hS (by decide) rfl rfl (r_assign hS rfl) ?_; clear hS; intro a hS
        refine s_nil ?_
        refine k_in ?_
        refine k_seq ?_
        refine c_region ?_
        refine s_val hS (by decide) rfl rfl (r_move hS rfl) ?_; clear hS; intro a hS
        refine s_val hS (by decide) rfl rfl (r_bv hS rfl (show ev _ _ = some (N 1) from rfl) gN (b_addN _ _ _ (by omega))) ?_; clear hS; intro a hS
        refine s_val hS (by decide) rfl rfl (r_assign hS rfl) ?_; clear hS; intro a hS
        refine s_nil ?_
        refine k_then ?_
        refine ⟨k + 1, by omega, by omega, hS.to _ ⟨rfl, rfl, rfl, rfl, rfl, trivial⟩, hM⟩
      · obtain rfl : k = 64 := by have := of_decide_eq_false hc; omega
        refine c_exit ?_
        refine k_thenx ?_
        refine k_thenx ?_
        refine k_inx ?_
        refine k_seq ?_
        refine c_seq ?_
        refine c_region ?_
        refine s_val hS (by decide) rfl rfl (r_move hS rfl) ?_; clear hS; intro a hS
        refine s_val hS (by decide) rfl rfl (r_move hS rfl) ?_; clear hS; intro a hS
        refine s_val hS (by decide) rfl rfl (r_move hS rfl) ?_; clear hS; intro a hS
        refine s_val hS (by decide) rfl rfl (r_indexR hS rfl (hr5.keepGe hM ⟨hb6, hb30, trivial⟩) rfl Try.underlying43 sz9 (by omega)) ?_; clear hS; intro a hS
        refine s_val hS (by decide) rfl rfl (r_loadR hS rfl (hr5.keepGe hM ⟨hb6, hb30, trivial⟩) (by omega) Try.underlying9 rfl) ?_; clear hS; intro a hS
        refine s_val hS (by decide) rfl rfl (r_eqlST hS rfl rfl (known_at i hi)) ?_; clear hS; intro a hS
        refine s_val hS (by decide) rfl rfl (r_assign hS rfl) ?_; clear hS; intro a hS
        refine s_nil ?_
        refine k_seq ?_
        refine c_ret ?_
        exact k_res1 hS rfl (RV.tmp rfl) ⟨rfl, (by first | exact hM.done ⟨hb11, hb10, trivial⟩ | exact hM0.after (hM.done ⟨hb6, hb30, trivial⟩))⟩
end Go.Proofs.Ytfojllcccncdbaa
