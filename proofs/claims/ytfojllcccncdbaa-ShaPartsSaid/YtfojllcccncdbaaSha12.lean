/- The walks of the laws of chapter 8. Printed by a program of mine (walk.py). -/
import Derived.Test.YtfojllcccncdbaaSha9
import Derived.Test.YtfojllcccncdbaaSha11
import Derived.Test.YtfojllcccncdbaaSymStr
namespace Go.Proofs.Ytfojllcccncdbaa
open Go Go.Sym
attribute [local irreducible] sstep wordsTo HS.puts be flatB numTo num HS.many ovr cat zs HS.sum

theorem row1s {w0 w : World} {L : List Blk} {j b : Nat} {t : TypeId} {v0 : Value} (hM : Mem w0 w L) (hj : L[j]? = some ⟨b, t, [v0]⟩) : Rd w (.slice (some ⟨b, 0, none⟩) 1 1) 1 (fun _ => v0) := rd_row (m := 1) (F := fun _ => v0) hM hj
theorem row2s {w0 w : World} {L : List Blk} {j b : Nat} {t : TypeId} {v0 v1 : Value} (hM : Mem w0 w L) (hj : L[j]? = some ⟨b, t, [v0, v1]⟩) : Rd w (.slice (some ⟨b, 0, none⟩) 2 2) 2 (sel v0 v1 v1) := rd_row (m := 2) (F := sel v0 v1 v1) hM hj
theorem row3s {w0 w : World} {L : List Blk} {j b : Nat} {t : TypeId} {v0 v1 v2 : Value} (hM : Mem w0 w L) (hj : L[j]? = some ⟨b, t, [v0, v1, v2]⟩) : Rd w (.slice (some ⟨b, 0, none⟩) 3 3) 3 (sel v0 v1 v2) := rd_row (m := 3) (F := sel v0 v1 v2) hM hj
theorem of_nil (w : World) : Pure Try.prog 28 #[.slice none 0 0] w (.agg (cB 64 (flatB HS.zero.sum.s)).toArray) := by
  have h := of_ok w (Rd.nil w (fun _ => .slice none 0 0)) (ms := fun _ => 0) (fs := fun _ _ => 0) (fun i hi => absurd hi (Nat.not_lt_zero i)) (by decide) (by decide)
  rwa [HS.many] at h
theorem of1_ok (w : World) {v v0 : Value} {m : Nat} {f : Nat → BitVec 8} (hr : Rd w v 1 (fun _ => v0)) (h0 : Rd w v0 m (fun j => B (f j))) (hm : m < 1000000) : Pure Try.prog 28 #[v] w (.agg (cB 64 (flatB (HS.zero.puts f m).sum.s)).toArray) := by
  have h := of_ok w hr (ms := fun _ => m) (fs := fun _ => f) (fun i hi => h0) (by show 0 + m < _; omega) (by decide)
  rwa [many1] at h
theorem of2_ok (w : World) {v v0 v1 : Value} {m k : Nat} {f g : Nat → BitVec 8} (hr : Rd w v 2 (sel v0 v1 v1)) (h0 : Rd w v0 m (fun j => B (f j))) (h1 : Rd w v1 k (fun j => B (g j))) (hm : m < 1000000) (hk : k < 1000000) :
    Pure Try.prog 28 #[v] w (.agg (cB 64 (flatB ((HS.zero.puts f m).puts g k).sum.s)).toArray) := by
  have h := of_ok w hr (ms := sel m k k) (fs := sel f g g) (fun i hi => by
    match i, hi with
    | 0, _ => exact h0
    | 1, _ => exact h1) (by show 0 + m + k < _; omega) (by decide)
  rwa [many2] at h
theorem of3_ok (w : World) {v v0 v1 v2 : Value} {m k l : Nat} {f g e : Nat → BitVec 8} (hr : Rd w v 3 (sel v0 v1 v2)) (h0 : Rd w v0 m (fun j => B (f j))) (h1 : Rd w v1 k (fun j => B (g j))) (h2 : Rd w v2 l (fun j => B (e j))) (hm : m < 1000000) (hk : k < 1000000) (hl : l < 1000000) :
    Pure Try.prog 28 #[v] w (.agg (cB 64 (flatB (HS.zero.puts (cat (cat f m g) (m + k) e) (m + k + l)).sum.s)).toArray) := by
  have h := of_ok w hr (ms := sel m k l) (fs := sel f g e) (fun i hi => by
    match i, hi with
    | 0, _ => exact h0
    | 1, _ => exact h1
    | 2, _ => exact h2) (by show 0 + m + k + l < _; omega) (by decide)
  rwa [many3] at h
theorem rof1_ok (w : World) {u : Value} {m : Nat} {f : Nat → BitVec 8} (hr : Rd w u m (fun i => B (f i))) (hm : m < 1000000) : Pure Try.prog 29 #[u] w (.agg (cB 64 (flatB (HS.zero.puts f m).sum.s)).toArray) := by
  rw [of_sum]; exact rof_ok w hr hm
theorem rfrom1_ok (w : World) {u : Value} {f : Nat → BitVec 8} (hr : Rd w u 200 (fun i => B (f i))) : Pure Try.prog 41 #[u] w (.agg (cB 64 (flatB (loadH f).sum.s)).toArray) := by
  rw [from_sum]; exact rfrom_ok w hr
theorem row68_1 {x0 : Value} (h0 : isS x0) : BuildsRow Try.prog 68 22 1 [(0, x0)] [x0] := by
  obtain ⟨a0, n0, c0, rfl⟩ := h0
  intro _; kernel_rfl
theorem row68_3 {x0 x1 x2 : Value} (h0 : isS x0) (h1 : isS x1) (h2 : isS x2) : BuildsRow Try.prog 68 22 3 [(0, x0), (1, x1), (2, x2)] [x0, x1, x2] := by
  obtain ⟨a0, n0, c0, rfl⟩ := h0
  obtain ⟨a1, n1, c1, rfl⟩ := h1
  obtain ⟨a2, n2, c2, rfl⟩ := h2
  intro _; kernel_rfl

set_option maxRecDepth 100000 in
theorem alive_ok  (w0 : World) : Pure Try.prog 27 #[] w0 (.bool true) := by
  refine ⟨by kernel_rfl, ?_⟩
  refine calls_sym Try.func27 rfl (by kernel_rfl) ?_
  intro a hS
  have hM : Mem w0 w0 [] := Mem.refl w0
  refine c_seq ?_
  refine c_region ?_
  refine s_val hS (by decide) rfl rfl (r_assign hS rfl) ?_; clear hS; intro a hS
  refine s_nil ?_
  refine k_seq ?_
  refine c_seq ?_
  refine c_region ?_
  refine s_pure hS hM (by decide) (vs := [_]) rfl (of_nil _) ?_; clear hS hM; intro a w hS hM
  refine s_alloc hS hM (by decide) zero39 ?_; clear hS hM; intro a b1 w hb1 hS hM
  refine s_storeAll hS hM rfl rfl (j := 0) rfl sz39 cells_len cells_len cB_one ?_; clear hS hM; intro a w hS hM
  refine s_nil ?_
  refine k_seq ?_
  refine c_seq ?_
  refine c_region ?_
  refine s_val hS (by decide) rfl rfl (r_index0 hS rfl (show ev _ _ = some (.int .i64 ((0 : Nat) : Int)) from rfl) Try.underlying39 sz5 (by decide)) ?_; clear hS; intro a hS
  refine s_val hS (by decide) rfl rfl (r_load hS hM rfl (j := 0) rfl Try.underlying5 rfl (cells_get (by omega))) ?_; clear hS; intro a hS
  refine s_val hS (by decide) rfl rfl (r_bv hS rfl (show ev _ _ = some (B 207#8) from rfl) gB (b_eqlBt alive_at.1)) ?_; clear hS; intro a hS
  refine s_val hS (by decide) rfl rfl (r_move hS rfl) ?_; clear hS; intro a hS
  refine s_valg hS (by decide) rfl rfl rfl rfl rfl (r_index0 hS rfl (show ev _ _ = some (.int .i64 ((1 : Nat) : Int)) from rfl) Try.underlying39 sz5 (by decide)) ?_; clear hS; intro a hS
  refine s_valg hS (by decide) rfl rfl rfl rfl rfl (r_load hS hM rfl (j := 0) rfl Try.underlying5 rfl (cells_get (by omega))) ?_; clear hS; intro a hS
  refine s_valg hS (by decide) rfl rfl rfl rfl rfl (r_bv hS rfl (show ev _ _ = some (B 131#8) from rfl) gB (b_eqlBt alive_at.2.1)) ?_; clear hS; intro a hS
  refine s_val hS (by decide) rfl rfl (r_pick hS rfl rfl) ?_; clear hS; intro a hS
  refine s_val hS (by decide) rfl rfl (r_move hS rfl) ?_; clear hS; intro a hS
  refine s_valg hS (by decide) rfl rfl rfl rfl rfl (r_index0 hS rfl (show ev _ _ = some (.int .i64 ((2 : Nat) : Int)) from rfl) Try.underlying39 sz5 (by decide)) ?_; clear hS; intro a hS
  refine s_valg hS (by decide) rfl rfl rfl rfl rfl (r_load hS hM rfl (j := 0) rfl Try.underlying5 rfl (cells_get (by omega))) ?_; clear hS; intro a hS
  refine s_valg hS (by decide) rfl rfl rfl rfl rfl (r_bv hS rfl (show ev _ _ = some (B 225#8) from rfl) gB (b_eqlBt alive_at.2.2.1)) ?_; clear hS; intro a hS
  refine s_val hS (by decide) rfl rfl (r_pick hS rfl rfl) ?_; clear hS; intro a hS
  refine s_val hS (by decide) rfl rfl (r_move hS rfl) ?_; clear hS; intro a hS
  refine s_valg hS (by decide) rfl rfl rfl rfl rfl (r_index0 hS rfl (show ev _ _ = some (.int .i64 ((3 : Nat) : Int)) from rfl) Try.underlying39 sz5 (by decide)) ?_; clear hS; intro a hS
  refine s_valg hS (by decide) rfl rfl rfl rfl rfl (r_load hS hM rfl (j := 0) rfl Try.underlying5 rfl (cells_get (by omega))) ?_; clear hS; intro a hS
  refine s_valg hS (by decide) rfl rfl rfl rfl rfl (r_bv hS rfl (show ev _ _ = some (B 53#8) from rfl) gB (b_eqlBt alive_at.2.2.2)) ?_; clear hS; intro a hS
  refine s_val hS (by decide) rfl rfl (r_pick hS rfl rfl) ?_; clear hS; intro a hS
  refine s_val hS (by decide) rfl rfl (r_assign hS rfl) ?_; clear hS; intro a hS
  refine s_nil ?_
  refine k_seq ?_
  refine c_ret ?_
  exact k_res1 hS rfl (RV.tmp rfl) ⟨rfl, hM.done ⟨hb1, trivial⟩⟩

set_option maxRecDepth 100000 in
theorem shaTells_ok (w0 : World) {v0 v1 v2 : Value} {m1 m2 m3 : Nat} {f1 f2 f3 : Nat → BitVec 8} (hr1 : Rd w0 v0 m1 (fun i => B (f1 i))) (hr2 : Rd w0 v1 m2 (fun i => B (f2 i))) (hr3 : Rd w0 v2 m3 (fun i => B (f3 i))) : Pure Try.prog 8 #[v0, v1, v2] w0 (.bool true) := by
  refine ⟨by kernel_rfl, ?_⟩
  refine calls_sym Try.func8 rfl (by kernel_rfl) ?_
  intro a hS
  have hM : Mem w0 w0 [] := Mem.refl w0
  refine c_seq ?_
  refine c_region ?_
  refine s_val hS (by decide) rfl rfl (r_assign hS rfl) ?_; clear hS; intro a hS
  refine s_nil ?_
  refine k_seq ?_
  refine c_seq ?_
  refine c_region ?_
  refine s_pure hS hM (by decide) rfl (alive_ok _) ?_; clear hS hM; intro a w hS hM
  refine s_val hS (by decide) rfl rfl (r_assign hS rfl) ?_; clear hS; intro a hS
  refine s_nil ?_
  refine k_seq ?_
  refine c_seq ?_
  refine c_seq ?_
  refine c_region ?_
  refine s_val hS (by decide) rfl rfl (r_move hS rfl) ?_; clear hS; intro a hS
  refine s_val hS (by decide) rfl rfl (r_not hS rfl) ?_; clear hS; intro a hS
  refine s_val hS (by decide) rfl rfl (r_move hS rfl) ?_; clear hS; intro a hS
  refine s_valg hS (by decide) rfl rfl rfl rfl rfl (r_move hS rfl) ?_; clear hS; intro a hS
  refine s_valg hS (by decide) rfl rfl rfl rfl rfl (r_lenR hS rfl (hr1.keepGe hM trivial) Try.underlying22) ?_; clear hS; intro a hS
  refine s_valgb hS (by decide) rfl rfl rfl rfl rfl (r_bv hS rfl (show ev _ _ = some (N 400) from rfl) gN (b_gtrN _ _ _)) (fun hc => ?_) (fun hc => ?_)
  · clear hS; intro a hS; skip
    refine s_val hS (by decide) rfl rfl (r_pick hS rfl rfl) ?_; clear hS; intro a hS
    refine s_val hS (by decide) rfl rfl (r_move hS rfl) ?_; clear hS; intro a hS
    refine s_skip hS (by decide) rfl rfl rfl rfl rfl ?_; clear hS; intro a hS
    refine s_skip hS (by decide) rfl rfl rfl rfl rfl ?_; clear hS; intro a hS
    refine s_skip hS (by decide) rfl rfl rfl rfl rfl ?_; clear hS; intro a hS
    refine s_val hS (by decide) rfl rfl (r_pick hS rfl rfl) ?_; clear hS; intro a hS
    refine s_val hS (by decide) rfl rfl (r_move hS rfl) ?_; clear hS; intro a hS
    refine s_skip hS (by decide) rfl rfl rfl rfl rfl ?_; clear hS; intro a hS
    refine s_skip hS (by decide) rfl rfl rfl rfl rfl ?_; clear hS; intro a hS
    refine s_skip hS (by decide) rfl rfl rfl rfl rfl ?_; clear hS; intro a hS
    refine s_val hS (by decide) rfl rfl (r_pick hS rfl rfl) ?_; clear hS; intro a hS
    refine s_nil ?_
    refine k_seq ?_
    refine c_true hS rfl rfl ?_
    refine c_seq ?_
    refine c_region ?_
    refine s_val hS (by decide) rfl rfl (r_move hS rfl) ?_; clear hS; intro a hS
    refine s_val hS (by decide) rfl rfl (r_assign hS rfl) ?_; clear hS; intro a hS
    refine s_nil ?_
    refine k_seq ?_
    refine c_ret ?_
    refine k_thenr ?_
    exact k_res1 hS rfl (RV.tmp rfl) ⟨rfl, by first | exact hM | exact (Mem.dropRight (L := [_, _, _, _]) hM ho.ge).done ⟨by assumption, by assumption, by assumption, by assumption, trivial⟩⟩
  · clear hS; intro a hS; have h15 := of_decide_eq_false hc
    refine s_val hS (by decide) rfl rfl (r_pick hS rfl rfl) ?_; clear hS; intro a hS
    refine s_val hS (by decide) rfl rfl (r_move hS rfl) ?_; clear hS; intro a hS
    refine s_valg hS (by decide) rfl rfl rfl rfl rfl (r_move hS rfl) ?_; clear hS; intro a hS
    refine s_valg hS (by decide) rfl rfl rfl rfl rfl (r_lenR hS rfl (hr2.keepGe hM trivial) Try.underlying22) ?_; clear hS; intro a hS
    refine s_valgb hS (by decide) rfl rfl rfl rfl rfl (r_bv hS rfl (show ev _ _ = some (N 400) from rfl) gN (b_gtrN _ _ _)) (fun hc => ?_) (fun hc => ?_)
    · clear hS; intro a hS; skip
      refine s_val hS (by decide) rfl rfl (r_pick hS rfl rfl) ?_; clear hS; intro a hS
      refine s_val hS (by decide) rfl rfl (r_move hS rfl) ?_; clear hS; intro a hS
      refine s_skip hS (by decide) rfl rfl rfl rfl rfl ?_; clear hS; intro a hS
      refine s_skip hS (by decide) rfl rfl rfl rfl rfl ?_; clear hS; intro a hS
      refine s_skip hS (by decide) rfl rfl rfl rfl rfl ?_; clear hS; intro a hS
      refine s_val hS (by decide) rfl rfl (r_pick hS rfl rfl) ?_; clear hS; intro a hS
      refine s_nil ?_
      refine k_seq ?_
      refine c_true hS rfl rfl ?_
      refine c_seq ?_
      refine c_region ?_
      refine s_val hS (by decide) rfl rfl (r_move hS rfl) ?_; clear hS; intro a hS
      refine s_val hS (by decide) rfl rfl (r_assign hS rfl) ?_; clear hS; intro a hS
      refine s_nil ?_
      refine k_seq ?_
      refine c_ret ?_
      refine k_thenr ?_
      exact k_res1 hS rfl (RV.tmp rfl) ⟨rfl, by first | exact hM | exact (Mem.dropRight (L := [_, _, _, _]) hM ho.ge).done ⟨by assumption, by assumption, by assumption, by assumption, trivial⟩⟩
    · clear hS; intro a hS; have h20 := of_decide_eq_false hc
      refine s_val hS (by decide) rfl rfl (r_pick hS rfl rfl) ?_; clear hS; intro a hS
      refine s_val hS (by decide) rfl rfl (r_move hS rfl) ?_; clear hS; intro a hS
      refine s_valg hS (by decide) rfl rfl rfl rfl rfl (r_move hS rfl) ?_; clear hS; intro a hS
      refine s_valg hS (by decide) rfl rfl rfl rfl rfl (r_lenR hS rfl (hr3.keepGe hM trivial) Try.underlying22) ?_; clear hS; intro a hS
      refine s_valgb hS (by decide) rfl rfl rfl rfl rfl (r_bv hS rfl (show ev _ _ = some (N 400) from rfl) gN (b_gtrN _ _ _)) (fun hc => ?_) (fun hc => ?_)
      · clear hS; intro a hS; skip
        refine s_val hS (by decide) rfl rfl (r_pick hS rfl rfl) ?_; clear hS; intro a hS
        refine s_nil ?_
        refine k_seq ?_
        refine c_true hS rfl rfl ?_
        refine c_seq ?_
        refine c_region ?_
        refine s_val hS (by decide) rfl rfl (r_move hS rfl) ?_; clear hS; intro a hS
        refine s_val hS (by decide) rfl rfl (r_assign hS rfl) ?_; clear hS; intro a hS
        refine s_nil ?_
        refine k_seq ?_
        refine c_ret ?_
        refine k_thenr ?_
        exact k_res1 hS rfl (RV.tmp rfl) ⟨rfl, by first | exact hM | exact (Mem.dropRight (L := [_, _, _, _]) hM ho.ge).done ⟨by assumption, by assumption, by assumption, by assumption, trivial⟩⟩
      · clear hS; intro a hS; have h25 := of_decide_eq_false hc
        refine s_val hS (by decide) rfl rfl (r_pick hS rfl rfl) ?_; clear hS; intro a hS
        refine s_nil ?_
        refine k_seq ?_
        refine c_false hS rfl rfl ?_
        refine c_skip ?_
        refine k_seq ?_
        refine c_seq ?_
        refine c_region ?_
        refine s_val hS (by decide) rfl rfl (r_move hS rfl) ?_; clear hS; intro a hS
        refine s_append hS [] (Lx := []) hM (by decide) rfl rfl elem22 Own.nil ((hr1.keepGe hM trivial).src Try.underlying22 (fun _ _ => rfl)) (by show 0 + m1 ≤ _; omega) ?_; clear hS hM; intro a w v Lx ho hS hM
        replace ho := ho.congr (cB_nil m1 f1)
        refine s_val hS (by decide) rfl rfl (r_move hS rfl) ?_; clear hS; intro a hS
        refine s_append hS [] (Lx := Lx) hM (by decide) rfl rfl elem22 ho ((hr2.keepGe hM (allGe_of ho.ge)).src Try.underlying22 (fun _ _ => rfl)) (by rw [show (cB m1 f1).length = m1 from cells_len]; omega) ?_; clear hS hM ho; intro a w v Lx ho hS hM
        replace ho := ho.congr (cB_cat _ _ _ _)
        refine s_val hS (by decide) rfl rfl (r_move hS rfl) ?_; clear hS; intro a hS
        refine s_append hS [] (Lx := Lx) hM (by decide) rfl rfl elem22 ho ((hr3.keepGe hM (allGe_of ho.ge)).src Try.underlying22 (fun _ _ => rfl)) (by rw [show (cB (m1 + m2) (cat f1 m1 f2)).length = m1 + m2 from cells_len]; omega) ?_; clear hS hM ho; intro a w v Lx ho hS hM
        replace ho := ho.congr (cB_cat _ _ _ _)
        refine s_val hS (by decide) rfl rfl (r_assign hS rfl) ?_; clear hS; intro a hS
        refine s_nil ?_
        refine k_seq ?_
        refine c_seq ?_
        refine c_region ?_
        refine s_val hS (by decide) rfl rfl (r_move hS rfl) ?_; clear hS; intro a hS
        refine s_buildSlice hS hM (by decide) (vs := [(0, _)]) rfl (row68_1 (hr1.keepGe hM (allGe_of ho.ge)).isS) ?_; clear hS hM; intro a b35 w hb35 hS hM
        refine s_pure hS hM (by decide) rfl (of1_ok _ (row1s hM (j := 0) rfl) (hr1.keepGe hM ⟨hb35, allGe_of ho.ge⟩) (by omega)) ?_; clear hS hM; intro a w hS hM
        refine s_val hS (by decide) rfl rfl (r_move hS rfl) ?_; clear hS; intro a hS
        refine s_pure hS hM (by decide) rfl (rof1_ok _ (hr1.keepGe hM ⟨hb35, allGe_of ho.ge⟩) (by omega)) ?_; clear hS hM; intro a w hS hM
        refine s_val hS (by decide) rfl rfl (r_eqlBt hS rfl rfl (by kernel_rfl) Try.underlying39 Try.underlying5 sz5 (fun _ _ => rfl)) ?_; clear hS; intro a hS
        refine s_val hS (by decide) rfl rfl (r_move hS rfl) ?_; clear hS; intro a hS
        refine s_valg hS (by decide) rfl rfl rfl rfl rfl (r_move hS rfl) ?_; clear hS; intro a hS
        refine s_valg hS (by decide) rfl rfl rfl rfl rfl (r_move hS rfl) ?_; clear hS; intro a hS
        refine s_valg hS (by decide) rfl rfl rfl rfl rfl (r_move hS rfl) ?_; clear hS; intro a hS
        refine s_buildSliceg hS hM (by decide) (vs := [(0, _), (1, _), (2, _)]) rfl rfl rfl rfl (row68_3 (hr1.keepGe hM ⟨hb35, allGe_of ho.ge⟩).isS (hr2.keepGe hM ⟨hb35, allGe_of ho.ge⟩).isS (hr3.keepGe hM ⟨hb35, allGe_of ho.ge⟩).isS) ?_; clear hS hM; intro a b44 w hb44 hS hM
        refine s_pureg hS hM (by decide) rfl rfl rfl rfl (of3_ok _ (row3s hM (j := 0) rfl) (hr1.keepGe hM ⟨hb44, hb35, allGe_of ho.ge⟩) (hr2.keepGe hM ⟨hb44, hb35, allGe_of ho.ge⟩) (hr3.keepGe hM ⟨hb44, hb35, allGe_of ho.ge⟩) (by omega) (by omega) (by omega)) ?_; clear hS hM; intro a w hS hM
        refine s_valg hS (by decide) rfl rfl rfl rfl rfl (r_move hS rfl) ?_; clear hS; intro a hS
        refine s_pureg hS hM (by decide) rfl rfl rfl rfl (rof1_ok _ (ho.rdCells (L := [_, _]) hM) (by omega)) ?_; clear hS hM; intro a w hS hM
        refine s_valg hS (by decide) rfl rfl rfl rfl rfl (r_eqlBt hS rfl rfl (by kernel_rfl) Try.underlying39 Try.underlying5 sz5 (fun _ _ => rfl)) ?_; clear hS; intro a hS
        refine s_val hS (by decide) rfl rfl (r_pick hS rfl rfl) ?_; clear hS; intro a hS
        refine s_val hS (by decide) rfl rfl (r_move hS rfl) ?_; clear hS; intro a hS
        refine s_valg hS (by decide) rfl rfl rfl rfl rfl (r_move hS rfl) ?_; clear hS; intro a hS
        refine s_buildSliceg hS hM (by decide) (vs := [(0, _)]) rfl rfl rfl rfl (row68_1 (ho.rdCells (L := [_, _]) hM).isS) ?_; clear hS hM; intro a b52 w hb52 hS hM
        refine s_pureg hS hM (by decide) rfl rfl rfl rfl (of1_ok _ (row1s hM (j := 0) rfl) (ho.rdCells (L := [_, _, _]) hM) (by omega)) ?_; clear hS hM; intro a w hS hM
        refine s_valg hS (by decide) rfl rfl rfl rfl rfl (r_move hS rfl) ?_; clear hS; intro a hS
        refine s_valg hS (by decide) rfl rfl rfl rfl rfl (r_move hS rfl) ?_; clear hS; intro a hS
        refine s_valg hS (by decide) rfl rfl rfl rfl rfl (r_move hS rfl) ?_; clear hS; intro a hS
        refine s_buildSliceg hS hM (by decide) (vs := [(0, _), (1, _), (2, _)]) rfl rfl rfl rfl (row68_3 (hr1.keepGe hM ⟨hb52, hb44, hb35, allGe_of ho.ge⟩).isS (hr2.keepGe hM ⟨hb52, hb44, hb35, allGe_of ho.ge⟩).isS (hr3.keepGe hM ⟨hb52, hb44, hb35, allGe_of ho.ge⟩).isS) ?_; clear hS hM; intro a b57 w hb57 hS hM
        refine s_pureg hS hM (by decide) rfl rfl rfl rfl (of3_ok _ (row3s hM (j := 0) rfl) (hr1.keepGe hM ⟨hb57, hb52, hb44, hb35, allGe_of ho.ge⟩) (hr2.keepGe hM ⟨hb57, hb52, hb44, hb35, allGe_of ho.ge⟩) (hr3.keepGe hM ⟨hb57, hb52, hb44, hb35, allGe_of ho.ge⟩) (by omega) (by omega) (by omega)) ?_; clear hS hM; intro a w hS hM
        refine s_valg hS (by decide) rfl rfl rfl rfl rfl (r_eqlBt hS rfl rfl (by kernel_rfl) Try.underlying39 Try.underlying5 sz5 (fun _ _ => rfl)) ?_; clear hS; intro a hS
        refine s_val hS (by decide) rfl rfl (r_pick hS rfl rfl) ?_; clear hS; intro a hS
        refine s_val hS (by decide) rfl rfl (r_assign hS rfl) ?_; clear hS; intro a hS
        refine s_nil ?_
        refine k_seq ?_
        refine c_ret ?_
        exact k_res1 hS rfl (RV.tmp rfl) ⟨rfl, by first | exact hM | exact (Mem.dropRight (L := [_, _, _, _]) hM ho.ge).done ⟨by assumption, by assumption, by assumption, by assumption, trivial⟩⟩

set_option maxRecDepth 100000 in
theorem shaParts_ok (w0 : World) {v0 v1 : Value} {m mc : Nat} {f : Nat → BitVec 8} {g : Nat → Int} (hr : Rd w0 v0 m (fun i => B (f i))) (hr2 : Rd w0 v1 mc (fun i => .int .i64 (g i))) : Pure Try.prog 10 #[v0, v1] w0 (.bool true) := by
  have hz : HS.zero.n = 0 := rfl
  have hpn : (HS.zero.puts f m).n = m := (HS.puts_n _ _ _).trans (Nat.zero_add m)
  refine ⟨by kernel_rfl, ?_⟩
  refine calls_sym Try.func10 rfl (by kernel_rfl) ?_
  intro a hS
  have hM : Mem w0 w0 [] := Mem.refl w0
  refine c_seq ?_
  refine c_region ?_
  refine s_val hS (by decide) rfl rfl (r_assign hS rfl) ?_; clear hS; intro a hS
  refine s_nil ?_
  refine k_seq ?_
  refine c_seq ?_
  refine c_region ?_
  refine s_pure hS hM (by decide) rfl (alive_ok _) ?_; clear hS hM; intro a w hS hM
  refine s_val hS (by decide) rfl rfl (r_assign hS rfl) ?_; clear hS; intro a hS
  refine s_nil ?_
  refine k_seq ?_
  refine c_seq ?_
  refine c_seq ?_
  refine c_region ?_
  refine s_val hS (by decide) rfl rfl (r_move hS rfl) ?_; clear hS; intro a hS
  refine s_val hS (by decide) rfl rfl (r_not hS rfl) ?_; clear hS; intro a hS
  refine s_val hS (by decide) rfl rfl (r_move hS rfl) ?_; clear hS; intro a hS
  refine s_valg hS (by decide) rfl rfl rfl rfl rfl (r_move hS rfl) ?_; clear hS; intro a hS
  refine s_valg hS (by decide) rfl rfl rfl rfl rfl (r_lenR hS rfl (hr.keepGe hM trivial) Try.underlying22) ?_; clear hS; intro a hS
  refine s_valg hS (by decide) rfl rfl rfl rfl rfl (r_bv hS rfl (show ev _ _ = some (N 700) from rfl) gN (b_gtrN _ _ _)) ?_; clear hS; intro a hS
  refine s_valb hS (by decide) rfl rfl (r_pick hS rfl rfl) (fun hc => ?_) (fun hc => ?_)
  · clear hS; intro a hS; skip
    refine s_val hS (by decide) rfl rfl (r_move hS rfl) ?_; clear hS; intro a hS
    refine s_skip hS (by decide) rfl rfl rfl rfl rfl ?_; clear hS; intro a hS
    refine s_skip hS (by decide) rfl rfl rfl rfl rfl ?_; clear hS; intro a hS
    refine s_skip hS (by decide) rfl rfl rfl rfl rfl ?_; clear hS; intro a hS
    refine s_val hS (by decide) rfl rfl (r_pick hS rfl rfl) ?_; clear hS; intro a hS
    refine s_nil ?_
    refine k_seq ?_
    refine c_true hS rfl rfl ?_
    refine c_seq ?_
    refine c_region ?_
    refine s_val hS (by decide) rfl rfl (r_move hS rfl) ?_; clear hS; intro a hS
    refine s_val hS (by decide) rfl rfl (r_assign hS rfl) ?_; clear hS; intro a hS
    refine s_nil ?_
    refine k_seq ?_
    refine c_ret ?_
    refine k_thenr ?_
    exact k_res1 hS rfl (RV.tmp rfl) ⟨rfl, hM.done trivial⟩
  · clear hS; intro a hS; have h15 := of_decide_eq_false hc
    refine s_val hS (by decide) rfl rfl (r_move hS rfl) ?_; clear hS; intro a hS
    refine s_valg hS (by decide) rfl rfl rfl rfl rfl (r_move hS rfl) ?_; clear hS; intro a hS
    refine s_valg hS (by decide) rfl rfl rfl rfl rfl (r_lenR hS rfl (hr2.keepGe hM trivial) Try.underlying46) ?_; clear hS; intro a hS
    refine s_valgb hS (by decide) rfl rfl rfl rfl rfl (r_bv hS rfl (show ev _ _ = some (N 100) from rfl) gN (b_gtrN _ _ _)) (fun hc => ?_) (fun hc => ?_)
    · clear hS; intro a hS; skip
      refine s_val hS (by decide) rfl rfl (r_pick hS rfl rfl) ?_; clear hS; intro a hS
      refine s_nil ?_
      refine k_seq ?_
      refine c_true hS rfl rfl ?_
      refine c_seq ?_
      refine c_region ?_
      refine s_val hS (by decide) rfl rfl (r_move hS rfl) ?_; clear hS; intro a hS
      refine s_val hS (by decide) rfl rfl (r_assign hS rfl) ?_; clear hS; intro a hS
      refine s_nil ?_
      refine k_seq ?_
      refine c_ret ?_
      refine k_thenr ?_
      exact k_res1 hS rfl (RV.tmp rfl) ⟨rfl, hM.done trivial⟩
    · clear hS; intro a hS; have h19 := of_decide_eq_false hc
      refine s_val hS (by decide) rfl rfl (r_pick hS rfl rfl) ?_; clear hS; intro a hS
      refine s_nil ?_
      refine k_seq ?_
      refine c_false hS rfl rfl ?_
      refine c_skip ?_
      refine k_seq ?_
      refine c_seq ?_
      refine c_region ?_
      refine s_newobj hS hM (by decide) rfl (new_ok _) ?_; clear hS hM; intro a w b22 hb22 hS hM
      refine s_val hS (by decide) rfl rfl (r_assign hS rfl) ?_; clear hS; intro a hS
      refine s_nil ?_
      refine k_seq ?_
      refine c_seq ?_
      refine c_seq ?_
      refine c_region ?_
      refine s_val hS (by decide) rfl rfl (r_move hS rfl) ?_; clear hS; intro a hS
      refine s_val hS (by decide) rfl rfl (r_ptrNil hS rfl rfl Try.underlying47) ?_; clear hS; intro a hS
      refine s_nil ?_
      refine k_seq ?_
      refine c_false hS rfl rfl ?_
      refine c_skip ?_
      refine k_seq ?_
      refine c_seq ?_
      refine c_region ?_
      refine s_val hS (by decide) rfl rfl (r_move hS rfl) ?_; clear hS; intro a hS
      refine s_pure hS hM (by decide) rfl (sum_t _ _ _ (hM.block (j := 0) rfl) (by omega)) ?_; clear hS hM; intro a w hS hM
      refine s_nil ?_
      refine k_seq ?_
      refine c_seq ?_
      refine c_region ?_
      refine s_val hS (by decide) rfl rfl (r_move hS rfl) ?_; clear hS; intro a hS
      refine s_val hS (by decide) rfl rfl (r_move hS rfl) ?_; clear hS; intro a hS
      refine s_val hS (by decide) rfl rfl (r_move hS rfl) ?_; clear hS; intro a hS
      refine s_wrote hS hM (by decide) rfl (j := 0) rfl (parts_ok _ _ _ (hM.block (j := 0) rfl) (hr.keepGe hM ⟨hb22, trivial⟩) (fun q => Nat.ne_of_lt (Nat.lt_of_lt_of_le (hr.lt q) hb22)) (hr2.keepGe hM ⟨hb22, trivial⟩) (fun q => Nat.ne_of_lt (Nat.lt_of_lt_of_le (hr2.lt q) hb22)) (by omega) (by omega)) ?_; clear hS hM; intro a w hS hM
      refine s_nil ?_
      refine k_seq ?_
      refine c_seq ?_
      refine c_region ?_
      refine s_val hS (by decide) rfl rfl (r_move hS rfl) ?_; clear hS; intro a hS
      refine s_pure hS hM (by decide) rfl (sum_t _ _ _ (hM.block (j := 0) rfl) (by omega)) ?_; clear hS hM; intro a w hS hM
      refine s_alloc hS hM (by decide) zero39 ?_; clear hS hM; intro a b7 w hb7 hS hM
      refine s_storeAll hS hM rfl rfl (j := 0) rfl sz39 cells_len cells_len cB_one ?_; clear hS hM; intro a w hS hM
      refine s_nil ?_
      refine k_seq ?_
      refine c_seq ?_
      refine c_gplan 16 (fun _ => [⟨b7, 39, cB 64 (flatB (HS.zero.puts f m).sum.s)⟩, ⟨b22, 56, hH true (HS.zero.puts f m)⟩]) [(7, ptr b7 0), (0, v0), (6, ptr b22 0)] (fun i V Bl => match i with | 0 => V 0 = .agg (cB 64 (flatB (HS.zero.puts f m).sum.s)).toArray ∧ Bl 0 = [] | 1 => V 1 = v0 ∧ Bl 1 = [] | 2 => Own w0.heap.size 22 (V 2) (cells 1 (fun _ => v0)) (Bl 2) | 3 => V 3 = .agg (cB 64 (flatB (HS.zero.puts f m).sum.s)).toArray ∧ Bl 3 = [] | 4 => V 4 = .bool true ∧ Bl 4 = [] | 5 => V 5 = .bool true ∧ Bl 5 = [] | 6 => V 6 = ptr b22 0 ∧ Bl 6 = [] | 7 => V 7 = .agg (cB 64 (flatB (HS.zero.puts f m).sum.s)).toArray ∧ Bl 7 = [] | 8 => V 8 = .agg (cB 64 (flatB (HS.zero.puts f m).sum.s)).toArray ∧ Bl 8 = [] | 9 => V 9 = .bool true ∧ Bl 9 = [] | 10 => V 10 = .bool true ∧ Bl 10 = [] | 11 => V 11 = .bool true ∧ Bl 11 = [] | 12 => V 12 = ptr b22 0 ∧ Bl 12 = [] | 13 => V 13 = N (HS.zero.puts f m).n ∧ Bl 13 = [] | 14 => V 14 = v0 ∧ Bl 14 = [] | 15 => V 15 = N m ∧ Bl 15 = [] | _ => True) (by kernel_rfl) (by kernel_rfl) hS ⟨rfl, rfl, rfl, trivial⟩ hM ?_ ?_
      · clear hS hM
        refine ⟨?_, ?_, ?_, ?_, ?_, ?_, ?_, ?_, ?_, ?_, ?_, ?_, ?_, ?_, ?_, ?_, trivial⟩
        · intro S V Bl X a w hp hs hR hX hS hM hn
          replace hS := hS.to [(7, ptr b7 0)] ⟨rfl, trivial⟩
          have hM0 := hM; replace hM := hM0.dropApp hn
          exact gy_val rfl (r_loadAll hS hM rfl (j := 0) rfl Try.underlying39 rfl sz39 cells_len) ⟨⟨rfl, rfl⟩, (fun _ h => by cases h), hM0⟩
        · intro S V Bl X a w hp hs hR hX hS hM hn
          replace hS := hS.to [(0, v0)] ⟨rfl, trivial⟩
          have hM0 := hM; replace hM := hM0.dropApp hn
          exact gy_val rfl (r_move hS rfl) ⟨⟨rfl, rfl⟩, (fun _ h => by cases h), hM0⟩
        · intro S V Bl X a w hp hs hR hX hS hM hn
          have h1 : V 1 = v0 := (hR 1 rfl).1
          replace hS := hS.to [(34, v0)] ⟨congrArg some h1, trivial⟩
          have hM0 := hM; replace hM := hM0.dropApp hn
          exact gy_build hS (vs := [(0, _)]) rfl (row68_1 (hr.keepGe hM ⟨hb7, hb22, trivial⟩).isS) rfl hM0 fun v Lx w' ho hM' => ⟨ho, ho.ge, hM'⟩
        · intro S V Bl X a w hp hs hR hX hS hM hn
          replace hS := hS.to [(35, V 2)] ⟨rfl, trivial⟩
          have hr2 := Own.rdIn (show Own w0.heap.size 22 (V 2) (cells 1 (fun _ => v0)) (Bl 2) from hR 2 rfl) (hX 2 rfl) hM
          have hM0 := hM; replace hM := hM0.dropApp hn
          exact gy_pure hS rfl (of1_ok _ hr2 (hr.keepGe hM ⟨hb7, hb22, trivial⟩) (by omega)) hM0 fun w' hM' => ⟨⟨rfl, rfl⟩, (fun _ h => by cases h), hM'⟩
        · intro S V Bl X a w hp hs hR hX hS hM hn
          have h0 : V 0 = .agg (cB 64 (flatB (HS.zero.puts f m).sum.s)).toArray := (hR 0 rfl).1
          have h3 : V 3 = .agg (cB 64 (flatB (HS.zero.puts f m).sum.s)).toArray := (hR 3 rfl).1
          replace hS := hS.to [(33, .agg (cB 64 (flatB (HS.zero.puts f m).sum.s)).toArray), (36, .agg (cB 64 (flatB (HS.zero.puts f m).sum.s)).toArray)] ⟨congrArg some h0, congrArg some h3, trivial⟩
          have hM0 := hM; replace hM := hM0.dropApp hn
          exact gy_val rfl (r_eqlBt hS rfl rfl (by kernel_rfl) Try.underlying39 Try.underlying5 sz5 (fun _ _ => rfl)) ⟨⟨rfl, rfl⟩, (fun _ h => by cases h), hM0⟩
        · intro S V Bl X a w hp hs hR hX hS hM hn
          have h4 : V 4 = .bool true := (hR 4 rfl).1
          replace hS := hS.to [(37, .bool true)] ⟨congrArg some h4, trivial⟩
          have hM0 := hM; replace hM := hM0.dropApp hn
          exact gy_val rfl (r_move hS rfl) ⟨⟨rfl, rfl⟩, (fun _ h => by cases h), hM0⟩
        · intro S V Bl X a w hp hs hR hX hS hM hn
          have h5 : V 5 = .bool true := (hR 5 rfl).1
          replace hS := hS.to [(38, .bool true), (6, ptr b22 0)] ⟨congrArg some h5, rfl, trivial⟩
          have hM0 := hM; replace hM := hM0.dropApp hn
          exact gy_valg hS rfl rfl rfl rfl (r_move hS rfl) ⟨⟨rfl, rfl⟩, (fun _ h => by cases h), hM0⟩
        · intro S V Bl X a w hp hs hR hX hS hM hn
          have h5 : V 5 = .bool true := (hR 5 rfl).1
          have h6 : V 6 = ptr b22 0 := (hR 6 rfl).1
          replace hS := hS.to [(38, .bool true), (39, ptr b22 0)] ⟨congrArg some h5, congrArg some h6, trivial⟩
          have hM0 := hM; replace hM := hM0.dropApp hn
          exact gy_pureg hS rfl rfl rfl rfl (sum_t _ _ _ (hM.block (j := 1) rfl) (by omega)) hM0 fun w' hM' => ⟨⟨rfl, rfl⟩, (fun _ h => by cases h), hM'⟩
        · intro S V Bl X a w hp hs hR hX hS hM hn
          have h5 : V 5 = .bool true := (hR 5 rfl).1
          replace hS := hS.to [(38, .bool true), (7, ptr b7 0)] ⟨congrArg some h5, rfl, trivial⟩
          have hM0 := hM; replace hM := hM0.dropApp hn
          exact gy_valg hS rfl rfl rfl rfl (r_loadAll hS hM rfl (j := 0) rfl Try.underlying39 rfl sz39 cells_len) ⟨⟨rfl, rfl⟩, (fun _ h => by cases h), hM0⟩
        · intro S V Bl X a w hp hs hR hX hS hM hn
          have h5 : V 5 = .bool true := (hR 5 rfl).1
          have h7 : V 7 = .agg (cB 64 (flatB (HS.zero.puts f m).sum.s)).toArray := (hR 7 rfl).1
          have h8 : V 8 = .agg (cB 64 (flatB (HS.zero.puts f m).sum.s)).toArray := (hR 8 rfl).1
          replace hS := hS.to [(38, .bool true), (40, .agg (cB 64 (flatB (HS.zero.puts f m).sum.s)).toArray), (41, .agg (cB 64 (flatB (HS.zero.puts f m).sum.s)).toArray)] ⟨congrArg some h5, congrArg some h7, congrArg some h8, trivial⟩
          have hM0 := hM; replace hM := hM0.dropApp hn
          exact gy_valg hS rfl rfl rfl rfl (r_eqlBt hS rfl rfl (by kernel_rfl) Try.underlying39 Try.underlying5 sz5 (fun _ _ => rfl)) ⟨⟨rfl, rfl⟩, (fun _ h => by cases h), hM0⟩
        · intro S V Bl X a w hp hs hR hX hS hM hn
          have h5 : V 5 = .bool true := (hR 5 rfl).1
          have h9 : V 9 = .bool true := (hR 9 rfl).1
          replace hS := hS.to [(38, .bool true), (42, .bool true)] ⟨congrArg some h5, congrArg some h9, trivial⟩
          have hM0 := hM; replace hM := hM0.dropApp hn
          exact gy_val rfl (r_pick hS rfl rfl) ⟨⟨rfl, rfl⟩, (fun _ h => by cases h), hM0⟩
        · intro S V Bl X a w hp hs hR hX hS hM hn
          have h10 : V 10 = .bool true := (hR 10 rfl).1
          replace hS := hS.to [(43, .bool true)] ⟨congrArg some h10, trivial⟩
          have hM0 := hM; replace hM := hM0.dropApp hn
          exact gy_val rfl (r_move hS rfl) ⟨⟨rfl, rfl⟩, (fun _ h => by cases h), hM0⟩
        · intro S V Bl X a w hp hs hR hX hS hM hn
          have h11 : V 11 = .bool true := (hR 11 rfl).1
          replace hS := hS.to [(44, .bool true), (6, ptr b22 0)] ⟨congrArg some h11, rfl, trivial⟩
          have hM0 := hM; replace hM := hM0.dropApp hn
          exact gy_valg hS rfl rfl rfl rfl (r_move hS rfl) ⟨⟨rfl, rfl⟩, (fun _ h => by cases h), hM0⟩
        · intro S V Bl X a w hp hs hR hX hS hM hn
          have h11 : V 11 = .bool true := (hR 11 rfl).1
          have h12 : V 12 = ptr b22 0 := (hR 12 rfl).1
          replace hS := hS.to [(44, .bool true), (45, ptr b22 0)] ⟨congrArg some h11, congrArg some h12, trivial⟩
          have hM0 := hM; replace hM := hM0.dropApp hn
          exact gy_pureg hS rfl rfl rfl rfl (count_ok _ _ _ _ (hM.block (j := 1) rfl)) hM0 fun w' hM' => ⟨⟨rfl, rfl⟩, (fun _ h => by cases h), hM'⟩
        · intro S V Bl X a w hp hs hR hX hS hM hn
          have h11 : V 11 = .bool true := (hR 11 rfl).1
          replace hS := hS.to [(44, .bool true), (0, v0)] ⟨congrArg some h11, rfl, trivial⟩
          have hM0 := hM; replace hM := hM0.dropApp hn
          exact gy_valg hS rfl rfl rfl rfl (r_move hS rfl) ⟨⟨rfl, rfl⟩, (fun _ h => by cases h), hM0⟩
        · intro S V Bl X a w hp hs hR hX hS hM hn
          have h11 : V 11 = .bool true := (hR 11 rfl).1
          have h14 : V 14 = v0 := (hR 14 rfl).1
          replace hS := hS.to [(44, .bool true), (47, v0)] ⟨congrArg some h11, congrArg some h14, trivial⟩
          have hM0 := hM; replace hM := hM0.dropApp hn
          exact gy_valg hS rfl rfl rfl rfl (r_lenR hS rfl (hr.keepGe hM ⟨hb7, hb22, trivial⟩) Try.underlying22) ⟨⟨rfl, rfl⟩, (fun _ h => by cases h), hM0⟩
      clear hS hM; intro V Bl a w hR hN hS hM
      replace hM := hM.dropApp (fun e he => by obtain ⟨i, hi, he⟩ := List.mem_flatMap.1 he; exact hN i (List.mem_range.1 hi) e he)
      have v11 : V 11 = .bool true := (hR 11 (by decide)).1
      have v13 : V 13 = N (HS.zero.puts f m).n := (hR 13 (by decide)).1
      have v15 : V 15 = N m := (hR 15 (by decide)).1
      replace hS := hS.to [(44, .bool true), (46, N (HS.zero.puts f m).n), (48, N m), (7, ptr b7 0), (0, v0), (6, ptr b22 0)] ⟨congrArg some v11, congrArg some v13, congrArg some v15, rfl, rfl, rfl, trivial⟩
      clear hR hN v11 v13 v15; clear V Bl
      refine s_valg hS (by decide) rfl rfl rfl rfl rfl (r_bv hS rfl rfl gN (b_eqlNt hpn)) ?_; clear hS; intro a hS
      refine s_val hS (by decide) rfl rfl (r_pick hS rfl rfl) ?_; clear hS; intro a hS
      refine s_val hS (by decide) rfl rfl (r_assign hS rfl) ?_; clear hS; intro a hS
      refine s_nil ?_
      refine k_seq ?_
      refine c_ret ?_
      exact k_res1 hS rfl (RV.tmp rfl) ⟨rfl, hM.done ⟨hb7, hb22, trivial⟩⟩
end Go.Proofs.Ytfojllcccncdbaa
