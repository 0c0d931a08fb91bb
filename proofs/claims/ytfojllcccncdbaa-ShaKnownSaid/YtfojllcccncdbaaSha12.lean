/- The walks of the laws of chapter 8. Printed by a program of mine (walk.py). -/
import Derived.Test.YtfojllcccncdbaaSha9
import Derived.Test.YtfojllcccncdbaaSha11
import Derived.Test.YtfojllcccncdbaaSymStr
import Derived.Test.YtfojllcccncdbaaSymRch
namespace Go.Proofs.Ytfojllcccncdbaa
open Go Go.Sym
attribute [local irreducible] sstep wordsTo HS.puts be flatB numTo num HS.many ovr cat zs HS.sum

theorem row1s {w0 w : World} {L : List Blk} {j b : Nat} {t : TypeId} {v0 : Value} (hM : Mem w0 w L) (hj : L[j]? = some ⟨b, t, [v0]⟩) : Rd w (.slice (some ⟨b, 0, none⟩) 1 1) 1 (fun _ => v0) := rd_row (m := 1) (F := fun _ => v0) hM hj
theorem row2s {w0 w : World} {L : List Blk} {j b : Nat} {t : TypeId} {v0 v1 : Value} (hM : Mem w0 w L) (hj : L[j]? = some ⟨b, t, [v0, v1]⟩) : Rd w (.slice (some ⟨b, 0, none⟩) 2 2) 2 (sel v0 v1 v1) := rd_row (m := 2) (F := sel v0 v1 v1) hM hj
theorem row3s {w0 w : World} {L : List Blk} {j b : Nat} {t : TypeId} {v0 v1 v2 : Value} (hM : Mem w0 w L) (hj : L[j]? = some ⟨b, t, [v0, v1, v2]⟩) : Rd w (.slice (some ⟨b, 0, none⟩) 3 3) 3 (sel v0 v1 v2) := rd_row (m := 3) (F := sel v0 v1 v2) hM hj
theorem of_nil (w : World) : Pure Try.prog 28 #[.slice none 0 0] w (.agg (cB 64 (flatB HS.zero.sum.s)).toArray) := by
  have h := of_ok w (Rd.nil w (fun _ => .slice none 0 0)) (ms := fun _ => 0) (fs := fun _ _ => 0) (fun i hi => absurd hi (Nat.not_lt_zero i)) (by decide) (by decide)
  rwa [HS.many] at h
theorem of1_ok (w : World) {v v0 : Value} {m : Nat} {f : Nat → BitVec 8} (hr : Rd w v 1 (fun _ => v0)) (h0 : Rd w v0 m (fun j => B (f j))) (hm : m < 1000000) : Pure Try.prog 28 #[v] w (.agg (cB 64 (flatB (HS.zero.puts f m).sum.s)).toArray) := by
  have h := of_ok w hr (ms := fun _ => m) (fs := fun _ => f) (fun i hi => h0) (by show 0 + m < _; omega) (by decide)
  rwa [many1] at h
theorem of2_ok (w : World) {v v0 v1 : Value} {m k : Nat} {f g : Nat → BitVec 8} (hr : Rd w v 2 (sel v0 v1 v1)) (h0 : Rd w v0 m (fun j => B (f j))) (h1 : Rd w v1 k (fun j => B (g j))) (hm : m < 1000000) (hk : k < 1000000) :
    Pure Try.prog 28 #[v] w (.agg (cB 64 (flatB ((HS.zero.puts f m).puts g k).sum.s)).toArray) := by
  have h := of_ok w hr (ms := sel m k k) (fs := sel f g g) (fun i hi => by
    match i, hi with
    | 0, _ => exact h0
    | 1, _ => exact h1) (by show 0 + m + k < _; omega) (by decide)
  rwa [many2] at h
theorem of3_ok (w : World) {v v0 v1 v2 : Value} {m k l : Nat} {f g e : Nat → BitVec 8} (hr : Rd w v 3 (sel v0 v1 v2)) (h0 : Rd w v0 m (fun j => B (f j))) (h1 : Rd w v1 k (fun j => B (g j))) (h2 : Rd w v2 l (fun j => B (e j))) (hm : m < 1000000) (hk : k < 1000000) (hl : l < 1000000) :
    Pure Try.prog 28 #[v] w (.agg (cB 64 (flatB (HS.zero.puts (cat (cat f m g) (m + k) e) (m + k + l)).sum.s)).toArray) := by
  have h := of_ok w hr (ms := sel m k l) (fs := sel f g e) (fun i hi => by
    match i, hi with
    | 0, _ => exact h0
    | 1, _ => exact h1
    | 2, _ => exact h2) (by show 0 + m + k + l < _; omega) (by decide)
  rwa [many3] at h
theorem rof1_ok (w : World) {u : Value} {m : Nat} {f : Nat → BitVec 8} (hr : Rd w u m (fun i => B (f i))) (hm : m < 1000000) : Pure Try.prog 29 #[u] w (.agg (cB 64 (flatB (HS.zero.puts f m).sum.s)).toArray) := by
  rw [of_sum]; exact rof_ok w hr hm
theorem rfrom1_ok (w : World) {u : Value} {f : Nat → BitVec 8} (hr : Rd w u 200 (fun i => B (f i))) : Pure Try.prog 41 #[u] w (.agg (cB 64 (flatB (loadH f).sum.s)).toArray) := by
  rw [from_sum]; exact rfrom_ok w hr
theorem hbld_zero (w : World) : (Instr.build 56 ([] : List (Nat × Value)).toArray).run Try.prog w = .ok (.agg (hH false ⟨fun _ => 0, 0, fun _ => 0⟩).toArray) w := by kernel_rfl
theorem rmid_nil (w : World) : Fresh Try.prog 36 #[.slice none 0 0] w 5 (cB 200 (midF HS.zero)) := by
  have h := rmid_ok w (Rd.nil w (fun i => B ((fun _ => 0#8) i))) (by decide)
  rwa [HS.puts] at h
theorem write_z (w0 : World) (b : Nat) {v : Value} {m : Nat} {f : Nat → BitVec 8} (hb : w0.heap[b]? = some (.cells (hH false ⟨fun _ => 0, 0, fun _ => 0⟩).toArray 56 (0, 0))) (hr : Rd w0 v m (fun i => B (f i))) (hne : 0 < m → rb v ≠ b) (hm : m < 1000000) : Wrote Try.prog 34 #[ptr b 0, v] w0 b 56 (hH true (HS.zero.puts f m)) (.tuple #[]) := by
  have h := write_ok w0 b false ⟨fun _ => 0, 0, fun _ => 0⟩ hb hr hne (by have e : (asH false ⟨fun _ => 0, 0, fun _ => 0⟩).n = 0 := rfl
                                                                          rw [e]; omega)
  exact h
theorem sumnilZ {Z : HS} (hZ : Z = HS.zero) (w : World) : Pure Try.prog 31 #[.pointer none] w (.agg (cB 64 (flatB Z.sum.s)).toArray) := by rw [hZ]; exact sumnil_ok w
theorem of_nilZ {Z : HS} (hZ : Z = HS.zero) (w : World) : Pure Try.prog 28 #[.slice none 0 0] w (.agg (cB 64 (flatB Z.sum.s)).toArray) := by rw [hZ]; exact of_nil w
theorem midnilZ {Z : HS} (hZ : Z = HS.zero) (w : World) : NewRow Try.prog 35 #[.pointer none] w 5 200 (fun i => B (midF Z i)) := by rw [hZ]; exact midnil_ok w
theorem rmidnilZ {Z : HS} (hZ : Z = HS.zero) (w : World) : Fresh Try.prog 36 #[.slice none 0 0] w 5 (cB 200 (midF Z)) := by rw [hZ]; exact rmid_nil w
theorem row68_1 {x0 : Value} (h0 : isS x0) : BuildsRow Try.prog 68 22 1 [(0, x0)] [x0] := by
  obtain ⟨a0, n0, c0, rfl⟩ := h0
  intro _; kernel_rfl
theorem row68_3 {x0 x1 x2 : Value} (h0 : isS x0) (h1 : isS x1) (h2 : isS x2) : BuildsRow Try.prog 68 22 3 [(0, x0), (1, x1), (2, x2)] [x0, x1, x2] := by
  obtain ⟨a0, n0, c0, rfl⟩ := h0
  obtain ⟨a1, n1, c1, rfl⟩ := h1
  obtain ⟨a2, n2, c2, rfl⟩ := h2
  intro _; kernel_rfl

set_option maxRecDepth 100000 in
theorem alive_ok  (w0 : World) : Pure Try.prog 27 #[] w0 (.bool true) := by
  refine ⟨by kernel_rfl, ?_⟩
  refine calls_sym Try.func27 rfl (by kernel_rfl) ?_
  intro a hS
  have hM : Mem w0 w0 [] := Mem.refl w0
  refine c_seq ?_
  refine c_region ?_
  refine s_val hS (by decide) rfl rfl (r_assign hS rfl) ?_; clear hS; intro a hS
  refine s_nil ?_
  refine k_seq ?_
  refine c_seq ?_
  refine c_region ?_
  refine s_pure hS hM (by decide) (vs := [_]) rfl (of_nil _) ?_; clear hS hM; intro a w hS hM
  refine s_alloc hS hM (by decide) zero39 ?_; clear hS hM; intro a b1 w hb1 hS hM
  refine s_storeAll hS hM rfl rfl (j := 0) rfl sz39 cells_len cells_len cB_one ?_; clear hS hM; intro a w hS hM
  refine s_nil ?_
  refine k_seq ?_
  refine c_seq ?_
  refine c_region ?_
  refine s_val hS (by decide) rfl rfl (r_index0 hS rfl (show ev _ _ = some (.int .i64 ((0 : Nat) : Int)) from rfl) Try.underlying39 sz5 (by decide)) ?_; clear hS; intro a hS
  refine s_val hS (by decide) rfl rfl (r_load hS hM rfl (j := 0) rfl Try.underlying5 rfl (cells_get (by omega))) ?_; clear hS; intro a hS
  refine s_val hS (by decide) rfl rfl (r_bv hS rfl (show ev _ _ = some (B 207#8) from rfl) gB (b_eqlBt alive_at.1)) ?_; clear hS; intro a hS
  refine s_val hS (by decide) rfl rfl (r_move hS rfl) ?_; clear hS; intro a hS
  refine s_valg hS (by decide) rfl rfl rfl rfl rfl (r_index0 hS rfl (show ev _ _ = some (.int .i64 ((1 : Nat) : Int)) from rfl) Try.underlying39 sz5 (by decide)) ?_; clear hS; intro a hS
  refine s_valg hS (by decide) rfl rfl rfl rfl rfl (r_load hS hM rfl (j := 0) rfl Try.underlying5 rfl (cells_get (by omega))) ?_; clear hS; intro a hS
  refine s_valg hS (by decide) rfl rfl rfl rfl rfl (r_bv hS rfl (show ev _ _ = some (B 131#8) from rfl) gB (b_eqlBt alive_at.2.1)) ?_; clear hS; intro a hS
  refine s_val hS (by decide) rfl rfl (r_pick hS rfl rfl) ?_; clear hS; intro a hS
  refine s_val hS (by decide) rfl rfl (r_move hS rfl) ?_; clear hS; intro a hS
  refine s_valg hS (by decide) rfl rfl rfl rfl rfl (r_index0 hS rfl (show ev _ _ = some (.int .i64 ((2 : Nat) : Int)) from rfl) Try.underlying39 sz5 (by decide)) ?_; clear hS; intro a hS
  refine s_valg hS (by decide) rfl rfl rfl rfl rfl (r_load hS hM rfl (j := 0) rfl Try.underlying5 rfl (cells_get (by omega))) ?_; clear hS; intro a hS
  refine s_valg hS (by decide) rfl rfl rfl rfl rfl (r_bv hS rfl (show ev _ _ = some (B 225#8) from rfl) gB (b_eqlBt alive_at.2.2.1)) ?_; clear hS; intro a hS
  refine s_val hS (by decide) rfl rfl (r_pick hS rfl rfl) ?_; clear hS; intro a hS
  refine s_val hS (by decide) rfl rfl (r_move hS rfl) ?_; clear hS; intro a hS
  refine s_valg hS (by decide) rfl rfl rfl rfl rfl (r_index0 hS rfl (show ev _ _ = some (.int .i64 ((3 : Nat) : Int)) from rfl) Try.underlying39 sz5 (by decide)) ?_; clear hS; intro a hS
  refine s_valg hS (by decide) rfl rfl rfl rfl rfl (r_load hS hM rfl (j := 0) rfl Try.underlying5 rfl (cells_get (by omega))) ?_; clear hS; intro a hS
  refine s_valg hS (by decide) rfl rfl rfl rfl rfl (r_bv hS rfl (show ev _ _ = some (B 53#8) from rfl) gB (b_eqlBt alive_at.2.2.2)) ?_; clear hS; intro a hS
  refine s_val hS (by decide) rfl rfl (r_pick hS rfl rfl) ?_; clear hS; intro a hS
  refine s_val hS (by decide) rfl rfl (r_assign hS rfl) ?_; clear hS; intro a hS
  refine s_nil ?_
  refine k_seq ?_
  refine c_ret ?_
  exact k_res1 hS rfl (RV.tmp rfl) ⟨rfl, hM.done ⟨hb1, trivial⟩⟩

set_option maxRecDepth 100000 in
theorem shaTells_ok (w0 : World) {v0 v1 v2 : Value} {m1 m2 m3 : Nat} {f1 f2 f3 : Nat → BitVec 8} (hr1 : Rd w0 v0 m1 (fun i => B (f1 i))) (hr2 : Rd w0 v1 m2 (fun i => B (f2 i))) (hr3 : Rd w0 v2 m3 (fun i => B (f3 i))) : Pure Try.prog 8 #[v0, v1, v2] w0 (.bool true) := by
  refine ⟨by kernel_rfl, ?_⟩
  refine calls_sym Try.func8 rfl (by kernel_rfl) ?_
  intro a hS
  have hM : Mem w0 w0 [] := Mem.refl w0
  refine c_seq ?_
  refine c_region ?_
  refine s_val hS (by decide) rfl rfl (r_assign hS rfl) ?_; clear hS; intro a hS
  refine s_nil ?_
  refine k_seq ?_
  refine c_seq ?_
  refine c_region ?_
  refine s_pure hS hM (by decide) rfl (alive_ok _) ?_; clear hS hM; intro a w hS hM
  refine s_val hS (by decide) rfl rfl (r_assign hS rfl) ?_; clear hS; intro a hS
  refine s_nil ?_
  refine k_seq ?_
  refine c_seq ?_
  refine c_seq ?_
  refine c_region ?_
  refine s_val hS (by decide) rfl rfl (r_move hS rfl) ?_; clear hS; intro a hS
  refine s_val hS (by decide) rfl rfl (r_not hS rfl) ?_; clear hS; intro a hS
  refine s_val hS (by decide) rfl rfl (r_move hS rfl) ?_; clear hS; intro a hS
  refine s_valg hS (by decide) rfl rfl rfl rfl rfl (r_move hS rfl) ?_; clear hS; intro a hS
  refine s_valg hS (by decide) rfl rfl rfl rfl rfl (r_lenR hS rfl (hr1.keepGe hM trivial) Try.underlying22) ?_; clear hS; intro a hS
  refine s_valgb hS (by decide) rfl rfl rfl rfl rfl (r_bv hS rfl (show ev _ _ = some (N 400) from rfl) gN (b_gtrN _ _ _)) (fun hc => ?_) (fun hc => ?_)
  · clear hS; intro a hS; skip
    refine s_val hS (by decide) rfl rfl (r_pick hS rfl rfl) ?_; clear hS; intro a hS
    refine s_val hS (by decide) rfl rfl (r_move hS rfl) ?_; clear hS; intro a hS
    refine s_skip hS (by decide) rfl rfl rfl rfl rfl ?_; clear hS; intro a hS
    refine s_skip hS (by decide) rfl rfl rfl rfl rfl ?_; clear hS; intro a hS
    refine s_skip hS (by decide) rfl rfl rfl rfl rfl ?_; clear hS; intro a hS
    refine s_val hS (by decide) rfl rfl (r_pick hS rfl rfl) ?_; clear hS; intro a hS
    refine s_val hS (by decide) rfl rfl (r_move hS rfl) ?_; clear hS; intro a hS
    refine s_skip hS (by decide) rfl rfl rfl rfl rfl ?_; clear hS; intro a hS
    refine s_skip hS (by decide) rfl rfl rfl rfl rfl ?_; clear hS; intro a hS
    refine s_skip hS (by decide) rfl rfl rfl rfl rfl ?_; clear hS; intro a hS
    refine s_val hS (by decide) rfl rfl (r_pick hS rfl rfl) ?_; clear hS; intro a hS
    refine s_nil ?_
    refine k_seq ?_
    refine c_true hS rfl rfl ?_
    refine c_seq ?_
    refine c_region ?_
    refine s_val hS (by decide) rfl rfl (r_move hS rfl) ?_; clear hS; intro a hS
    refine s_val hS (by decide) rfl rfl (r_assign hS rfl) ?_; clear hS; intro a hS
    refine s_nil ?_
    refine k_seq ?_
    refine c_ret ?_
    refine k_thenr ?_
    exact k_res1 hS rfl (RV.tmp rfl) ⟨rfl, by first | exact hM | exact (Mem.dropRight (L := [_, _, _, _]) hM ho.ge).done ⟨by assumption, by assumption, by assumption, by assumption, trivial⟩⟩
  · clear hS; intro a hS; have h15 := of_decide_eq_false hc
    refine s_val hS (by decide) rfl rfl (r_pick hS rfl rfl) ?_; clear hS; intro a hS
    refine s_val hS (by decide) rfl rfl (r_move hS rfl) ?_; clear hS; intro a hS
    refine s_valg hS (by decide) rfl rfl rfl rfl rfl (r_move hS rfl) ?_; clear hS; intro a hS
    refine s_valg hS (by decide) rfl rfl rfl rfl rfl (r_lenR hS rfl (hr2.keepGe hM trivial) Try.underlying22) ?_; clear hS; intro a hS
    refine s_valgb hS (by decide) rfl rfl rfl rfl rfl (r_bv hS rfl (show ev _ _ = some (N 400) from rfl) gN (b_gtrN _ _ _)) (fun hc => ?_) (fun hc => ?_)
    · clear hS; intro a hS; skip
      refine s_val hS (by decide) rfl rfl (r_pick hS rfl rfl) ?_; clear hS; intro a hS
      refine s_val hS (by decide) rfl rfl (r_move hS rfl) ?_; clear hS; intro a hS
      refine s_skip hS (by decide) rfl rfl rfl rfl rfl ?_; clear hS; intro a hS
      refine s_skip hS (by decide) rfl rfl rfl rfl rfl ?_; clear hS; intro a hS
      refine s_skip hS (by decide) rfl rfl rfl rfl rfl ?_; clear hS; intro a hS
      refine s_val hS (by decide) rfl rfl (r_pick hS rfl rfl) ?_; clear hS; intro a hS
      refine s_nil ?_
      refine k_seq ?_
      refine c_true hS rfl rfl ?_
      refine c_seq ?_
      refine c_region ?_
      refine s_val hS (by decide) rfl rfl (r_move hS rfl) ?_; clear hS; intro a hS
      refine s_val hS (by decide) rfl rfl (r_assign hS rfl) ?_; clear hS; intro a hS
      refine s_nil ?_
      refine k_seq ?_
      refine c_ret ?_
      refine k_thenr ?_
      exact k_res1 hS rfl (RV.tmp rfl) ⟨rfl, by first | exact hM | exact (Mem.dropRight (L := [_, _, _, _]) hM ho.ge).done ⟨by assumption, by assumption, by assumption, by assumption, trivial⟩⟩
    · clear hS; intro a hS; have h20 := of_decide_eq_false hc
      refine s_val hS (by decide) rfl rfl (r_pick hS rfl rfl) ?_; clear hS; intro a hS
      refine s_val hS (by decide) rfl rfl (r_move hS rfl) ?_; clear hS; intro a hS
      refine s_valg hS (by decide) rfl rfl rfl rfl rfl (r_move hS rfl) ?_; clear hS; intro a hS
      refine s_valg hS (by decide) rfl rfl rfl rfl rfl (r_lenR hS rfl (hr3.keepGe hM trivial) Try.underlying22) ?_; clear hS; intro a hS
      refine s_valgb hS (by decide) rfl rfl rfl rfl rfl (r_bv hS rfl (show ev _ _ = some (N 400) from rfl) gN (b_gtrN _ _ _)) (fun hc => ?_) (fun hc => ?_)
      · clear hS; intro a hS; skip
        refine s_val hS (by decide) rfl rfl (r_pick hS rfl rfl) ?_; clear hS; intro a hS
        refine s_nil ?_
        refine k_seq ?_
        refine c_true hS rfl rfl ?_
        refine c_seq ?_
        refine c_region ?_
        refine s_val hS (by decide) rfl rfl (r_move hS rfl) ?_; clear hS; intro a hS
        refine s_val hS (by decide) rfl rfl (r_assign hS rfl) ?_; clear hS; intro a hS
        refine s_nil ?_
        refine k_seq ?_
        refine c_ret ?_
        refine k_thenr ?_
        exact k_res1 hS rfl (RV.tmp rfl) ⟨rfl, by first | exact hM | exact (Mem.dropRight (L := [_, _, _, _]) hM ho.ge).done ⟨by assumption, by assumption, by assumption, by assumption, trivial⟩⟩
      · clear hS; intro a hS; have h25 := of_decide_eq_false hc
        refine s_val hS (by decide) rfl rfl (r_pick hS rfl rfl) ?_; clear hS; intro a hS
        refine s_nil ?_
        refine k_seq ?_
        refine c_false hS rfl rfl ?_
        refine c_skip ?_
        refine k_seq ?_
        refine c_seq ?_
        refine c_region ?_
        refine s_val hS (by decide) rfl rfl (r_move hS rfl) ?_; clear hS; intro a hS
        refine s_append hS [] (Lx := []) hM (by decide) rfl rfl elem22 Own.nil ((hr1.keepGe hM trivial).src Try.underlying22 (fun _ _ => rfl)) (by show 0 + m1 ≤ _; omega) ?_; clear hS hM; intro a w v Lx ho hS hM
        replace ho := ho.congr (cB_nil m1 f1)
        refine s_val hS (by decide) rfl rfl (r_move hS rfl) ?_; clear hS; intro a hS
        refine s_append hS [] (Lx := Lx) hM (by decide) rfl rfl elem22 ho ((hr2.keepGe hM (allGe_of ho.ge)).src Try.underlying22 (fun _ _ => rfl)) (by rw [show (cB m1 f1).length = m1 from cells_len]; omega) ?_; clear hS hM ho; intro a w v Lx ho hS hM
        replace ho := ho.congr (cB_cat _ _ _ _)
        refine s_val hS (by decide) rfl rfl (r_move hS rfl) ?_; clear hS; intro a hS
        refine s_append hS [] (Lx := Lx) hM (by decide) rfl rfl elem22 ho ((hr3.keepGe hM (allGe_of ho.ge)).src Try.underlying22 (fun _ _ => rfl)) (by rw [show (cB (m1 + m2) (cat f1 m1 f2)).length = m1 + m2 from cells_len]; omega) ?_; clear hS hM ho; intro a w v Lx ho hS hM
        replace ho := ho.congr (cB_cat _ _ _ _)
        refine s_val hS (by decide) rfl rfl (r_assign hS rfl) ?_; clear hS; intro a hS
        refine s_nil ?_
        refine k_seq ?_
        refine c_seq ?_
        refine c_region ?_
        refine s_val hS (by decide) rfl rfl (r_move hS rfl) ?_; clear hS; intro a hS
        refine s_buildSlice hS hM (by decide) (vs := [(0, _)]) rfl (row68_1 (hr1.keepGe hM (allGe_of ho.ge)).isS) ?_; clear hS hM; intro a b35 w hb35 hS hM
        refine s_pure hS hM (by decide) rfl (of1_ok _ (row1s hM (j := 0) rfl) (hr1.keepGe hM ⟨hb35, allGe_of ho.ge⟩) (by omega)) ?_; clear hS hM; intro a w hS hM
        refine s_val hS (by decide) rfl rfl (r_move hS rfl) ?_; clear hS; intro a hS
        refine s_pure hS hM (by decide) rfl (rof1_ok _ (hr1.keepGe hM ⟨hb35, allGe_of ho.ge⟩) (by omega)) ?_; clear hS hM; intro a w hS hM
        refine s_val hS (by decide) rfl rfl (r_eqlBt hS rfl rfl (by kernel_rfl) Try.underlying39 Try.underlying5 sz5 (fun _ _ => rfl)) ?_; clear hS; intro a hS
        refine s_val hS (by decide) rfl rfl (r_move hS rfl) ?_; clear hS; intro a hS
        refine s_valg hS (by decide) rfl rfl rfl rfl rfl (r_move hS rfl) ?_; clear hS; intro a hS
        refine s_valg hS (by decide) rfl rfl rfl rfl rfl (r_move hS rfl) ?_; clear hS; intro a hS
        refine s_valg hS (by decide) rfl rfl rfl rfl rfl (r_move hS rfl) ?_; clear hS; intro a hS
        refine s_buildSliceg hS hM (by decide) (vs := [(0, _), (1, _), (2, _)]) rfl rfl rfl rfl (row68_3 (hr1.keepGe hM ⟨hb35, allGe_of ho.ge⟩).isS (hr2.keepGe hM ⟨hb35, allGe_of ho.ge⟩).isS (hr3.keepGe hM ⟨hb35, allGe_of ho.ge⟩).isS) ?_; clear hS hM; intro a b44 w hb44 hS hM
        refine s_pureg hS hM (by decide) rfl rfl rfl rfl (of3_ok _ (row3s hM (j := 0) rfl) (hr1.keepGe hM ⟨hb44, hb35, allGe_of ho.ge⟩) (hr2.keepGe hM ⟨hb44, hb35, allGe_of ho.ge⟩) (hr3.keepGe hM ⟨hb44, hb35, allGe_of ho.ge⟩) (by omega) (by omega) (by omega)) ?_; clear hS hM; intro a w hS hM
        refine s_valg hS (by decide) rfl rfl rfl rfl rfl (r_move hS rfl) ?_; clear hS; intro a hS
        refine s_pureg hS hM (by decide) rfl rfl rfl rfl (rof1_ok _ (ho.rdCells (L := [_, _]) hM) (by omega)) ?_; clear hS hM; intro a w hS hM
        refine s_valg hS (by decide) rfl rfl rfl rfl rfl (r_eqlBt hS rfl rfl (by kernel_rfl) Try.underlying39 Try.underlying5 sz5 (fun _ _ => rfl)) ?_; clear hS; intro a hS
        refine s_val hS (by decide) rfl rfl (r_pick hS rfl rfl) ?_; clear hS; intro a hS
        refine s_val hS (by decide) rfl rfl (r_move hS rfl) ?_; clear hS; intro a hS
        refine s_valg hS (by decide) rfl rfl rfl rfl rfl (r_move hS rfl) ?_; clear hS; intro a hS
        refine s_buildSliceg hS hM (by decide) (vs := [(0, _)]) rfl rfl rfl rfl (row68_1 (ho.rdCells (L := [_, _]) hM).isS) ?_; clear hS hM; intro a b52 w hb52 hS hM
        refine s_pureg hS hM (by decide) rfl rfl rfl rfl (of1_ok _ (row1s hM (j := 0) rfl) (ho.rdCells (L := [_, _, _]) hM) (by omega)) ?_; clear hS hM; intro a w hS hM
        refine s_valg hS (by decide) rfl rfl rfl rfl rfl (r_move hS rfl) ?_; clear hS; intro a hS
        refine s_valg hS (by decide) rfl rfl rfl rfl rfl (r_move hS rfl) ?_; clear hS; intro a hS
        refine s_valg hS (by decide) rfl rfl rfl rfl rfl (r_move hS rfl) ?_; clear hS; intro a hS
        refine s_buildSliceg hS hM (by decide) (vs := [(0, _), (1, _), (2, _)]) rfl rfl rfl rfl (row68_3 (hr1.keepGe hM ⟨hb52, hb44, hb35, allGe_of ho.ge⟩).isS (hr2.keepGe hM ⟨hb52, hb44, hb35, allGe_of ho.ge⟩).isS (hr3.keepGe hM ⟨hb52, hb44, hb35, allGe_of ho.ge⟩).isS) ?_; clear hS hM; intro a b57 w hb57 hS hM
        refine s_pureg hS hM (by decide) rfl rfl rfl rfl (of3_ok _ (row3s hM (j := 0) rfl) (hr1.keepGe hM ⟨hb57, hb52, hb44, hb35, allGe_of ho.ge⟩) (hr2.keepGe hM ⟨hb57, hb52, hb44, hb35, allGe_of ho.ge⟩) (hr3.keepGe hM ⟨hb57, hb52, hb44, hb35, allGe_of ho.ge⟩) (by omega) (by omega) (by omega)) ?_; clear hS hM; intro a w hS hM
        refine s_valg hS (by decide) rfl rfl rfl rfl rfl (r_eqlBt hS rfl rfl (by kernel_rfl) Try.underlying39 Try.underlying5 sz5 (fun _ _ => rfl)) ?_; clear hS; intro a hS
        refine s_val hS (by decide) rfl rfl (r_pick hS rfl rfl) ?_; clear hS; intro a hS
        refine s_val hS (by decide) rfl rfl (r_assign hS rfl) ?_; clear hS; intro a hS
        refine s_nil ?_
        refine k_seq ?_
        refine c_ret ?_
        exact k_res1 hS rfl (RV.tmp rfl) ⟨rfl, by first | exact hM | exact (Mem.dropRight (L := [_, _, _, _]) hM ho.ge).done ⟨by assumption, by assumption, by assumption, by assumption, trivial⟩⟩

set_option maxRecDepth 100000 in
theorem shaParts_ok (w0 : World) {v0 v1 : Value} {m mc : Nat} {f : Nat → BitVec 8} {g : Nat → Int} (hr : Rd w0 v0 m (fun i => B (f i))) (hr2 : Rd w0 v1 mc (fun i => .int .i64 (g i))) : Pure Try.prog 10 #[v0, v1] w0 (.bool true) := by
  have hz : HS.zero.n = 0 := rfl
  have hpn : (HS.zero.puts f m).n = m := (HS.puts_n _ _ _).trans (Nat.zero_add m)
  refine ⟨by kernel_rfl, ?_⟩
  refine calls_sym Try.func10 rfl (by kernel_rfl) ?_
  intro a hS
  have hM : Mem w0 w0 [] := Mem.refl w0
  refine c_seq ?_
  refine c_region ?_
  refine s_val hS (by decide) rfl rfl (r_assign hS rfl) ?_; clear hS; intro a hS
  refine s_nil ?_
  refine k_seq ?_
  refine c_seq ?_
  refine c_region ?_
  refine s_pure hS hM (by decide) rfl (alive_ok _) ?_; clear hS hM; intro a w hS hM
  refine s_val hS (by decide) rfl rfl (r_assign hS rfl) ?_; clear hS; intro a hS
  refine s_nil ?_
  refine k_seq ?_
  refine c_seq ?_
  refine c_seq ?_
  refine c_region ?_
  refine s_val hS (by decide) rfl rfl (r_move hS rfl) ?_; clear hS; intro a hS
  refine s_val hS (by decide) rfl rfl (r_not hS rfl) ?_; clear hS; intro a hS
  refine s_val hS (by decide) rfl rfl (r_move hS rfl) ?_; clear hS; intro a hS
  refine s_valg hS (by decide) rfl rfl rfl rfl rfl (r_move hS rfl) ?_; clear hS; intro a hS
  refine s_valg hS (by decide) rfl rfl rfl rfl rfl (r_lenR hS rfl (hr.keepGe hM trivial) Try.underlying22) ?_; clear hS; intro a hS
  refine s_valg hS (by decide) rfl rfl rfl rfl rfl (r_bv hS rfl (show ev _ _ = some (N 700) from rfl) gN (b_gtrN _ _ _)) ?_; clear hS; intro a hS
  refine s_valb hS (by decide) rfl rfl (r_pick hS rfl rfl) (fun hc => ?_) (fun hc => ?_)
  · clear hS; intro a hS; skip
    refine s_val hS (by decide) rfl rfl (r_move hS rfl) ?_; clear hS; intro a hS
    refine s_skip hS (by decide) rfl rfl rfl rfl rfl ?_; clear hS; intro a hS
    refine s_skip hS (by decide) rfl rfl rfl rfl rfl ?_; clear hS; intro a hS
    refine s_skip hS (by decide) rfl rfl rfl rfl rfl ?_; clear hS; intro a hS
    refine s_val hS (by decide) rfl rfl (r_pick hS rfl rfl) ?_; clear hS; intro a hS
    refine s_nil ?_
    refine k_seq ?_
    refine c_true hS rfl rfl ?_
    refine c_seq ?_
    refine c_region ?_
    refine s_val hS (by decide) rfl rfl (r_move hS rfl) ?_; clear hS; intro a hS
    refine s_val hS (by decide) rfl rfl (r_assign hS rfl) ?_; clear hS; intro a hS
    refine s_nil ?_
    refine k_seq ?_
    refine c_ret ?_
    refine k_thenr ?_
    exact k_res1 hS rfl (RV.tmp rfl) ⟨rfl, hM.done trivial⟩
  · clear hS; intro a hS; have h15 := of_decide_eq_false hc
    refine s_val hS (by decide) rfl rfl (r_move hS rfl) ?_; clear hS; intro a hS
    refine s_valg hS (by decide) rfl rfl rfl rfl rfl (r_move hS rfl) ?_; clear hS; intro a hS
    refine s_valg hS (by decide) rfl rfl rfl rfl rfl (r_lenR hS rfl (hr2.keepGe hM trivial) Try.underlying46) ?_; clear hS; intro a hS
    refine s_valgb hS (by decide) rfl rfl rfl rfl rfl (r_bv hS rfl (show ev _ _ = some (N 100) from rfl) gN (b_gtrN _ _ _)) (fun hc => ?_) (fun hc => ?_)
    · clear hS; intro a hS; skip
      refine s_val hS (by decide) rfl rfl (r_pick hS rfl rfl) ?_; clear hS; intro a hS
      refine s_nil ?_
      refine k_seq ?_
      refine c_true hS rfl rfl ?_
      refine c_seq ?_
      refine c_region ?_
      refine s_val hS (by decide) rfl rfl (r_move hS rfl) ?_; clear hS; intro a hS
      refine s_val hS (by decide) rfl rfl (r_assign hS rfl) ?_; clear hS; intro a hS
      refine s_nil ?_
      refine k_seq ?_
      refine c_ret ?_
      refine k_thenr ?_
      exact k_res1 hS rfl (RV.tmp rfl) ⟨rfl, hM.done trivial⟩
    · clear hS; intro a hS; have h19 := of_decide_eq_false hc
      refine s_val hS (by decide) rfl rfl (r_pick hS rfl rfl) ?_; clear hS; intro a hS
      refine s_nil ?_
      refine k_seq ?_
      refine c_false hS rfl rfl ?_
      refine c_skip ?_
      refine k_seq ?_
      refine c_seq ?_
      refine c_region ?_
      refine s_newobj hS hM (by decide) rfl (new_ok _) ?_; clear hS hM; intro a w b22 hb22 hS hM
      refine s_val hS (by decide) rfl rfl (r_assign hS rfl) ?_; clear hS; intro a hS
      refine s_nil ?_
      refine k_seq ?_
      refine c_seq ?_
      refine c_seq ?_
      refine c_region ?_
      refine s_val hS (by decide) rfl rfl (r_move hS rfl) ?_; clear hS; intro a hS
      refine s_val hS (by decide) rfl rfl (r_ptrNil hS rfl rfl Try.underlying47) ?_; clear hS; intro a hS
      refine s_nil ?_
      refine k_seq ?_
      refine c_false hS rfl rfl ?_
      refine c_skip ?_
      refine k_seq ?_
      refine c_seq ?_
      refine c_region ?_
      refine s_val hS (by decide) rfl rfl (r_move hS rfl) ?_; clear hS; intro a hS
      refine s_pure hS hM (by decide) rfl (sum_t _ _ _ (hM.block (j := 0) rfl) (by omega)) ?_; clear hS hM; intro a w hS hM
      refine s_nil ?_
      refine k_seq ?_
      refine c_seq ?_
      refine c_region ?_
      refine s_val hS (by decide) rfl rfl (r_move hS rfl) ?_; clear hS; intro a hS
      refine s_val hS (by decide) rfl rfl (r_move hS rfl) ?_; clear hS; intro a hS
      refine s_val hS (by decide) rfl rfl (r_move hS rfl) ?_; clear hS; intro a hS
      refine s_wrote hS hM (by decide) rfl (j := 0) rfl (parts_ok _ _ _ (hM.block (j := 0) rfl) (hr.keepGe hM ⟨hb22, trivial⟩) (fun q => Nat.ne_of_lt (Nat.lt_of_lt_of_le (hr.lt q) hb22)) (hr2.keepGe hM ⟨hb22, trivial⟩) (fun q => Nat.ne_of_lt (Nat.lt_of_lt_of_le (hr2.lt q) hb22)) (by omega) (by omega)) ?_; clear hS hM; intro a w hS hM
      refine s_nil ?_
      refine k_seq ?_
      refine c_seq ?_
      refine c_region ?_
      refine s_val hS (by decide) rfl rfl (r_move hS rfl) ?_; clear hS; intro a hS
      refine s_pure hS hM (by decide) rfl (sum_t _ _ _ (hM.block (j := 0) rfl) (by omega)) ?_; clear hS hM; intro a w hS hM
      refine s_alloc hS hM (by decide) zero39 ?_; clear hS hM; intro a b7 w hb7 hS hM
      refine s_storeAll hS hM rfl rfl (j := 0) rfl sz39 cells_len cells_len cB_one ?_; clear hS hM; intro a w hS hM
      refine s_nil ?_
      refine k_seq ?_
      refine c_seq ?_
      refine c_mplan 16 [262143, 131071, 65535, 20479, 4095, 8191, 4095, 2047, 1023, 511, 63, 127, 63, 31, 15, 6, 2, 0, 0] [⟨b7, 39, cB 64 (flatB (HS.zero.puts f m).sum.s)⟩, ⟨b22, 56, hH true (HS.zero.puts f m)⟩] [(7, ptr b7 0), (0, v0), (6, ptr b22 0)] (fun i v B => match i with | 0 => v = .agg (cB 64 (flatB (HS.zero.puts f m).sum.s)).toArray ∧ B = [] | 1 => v = v0 ∧ B = [] | 2 => Own w0.heap.size 22 v (cells 1 (fun _ => v0)) B | 3 => v = .agg (cB 64 (flatB (HS.zero.puts f m).sum.s)).toArray ∧ B = [] | 4 => v = .bool true ∧ B = [] | 5 => v = .bool true ∧ B = [] | 6 => v = ptr b22 0 ∧ B = [] | 7 => v = .agg (cB 64 (flatB (HS.zero.puts f m).sum.s)).toArray ∧ B = [] | 8 => v = .agg (cB 64 (flatB (HS.zero.puts f m).sum.s)).toArray ∧ B = [] | 9 => v = .bool true ∧ B = [] | 10 => v = .bool true ∧ B = [] | 11 => v = .bool true ∧ B = [] | 12 => v = ptr b22 0 ∧ B = [] | 13 => v = N (HS.zero.puts f m).n ∧ B = [] | 14 => v = v0 ∧ B = [] | 15 => v = N m ∧ B = [] | _ => True) (by kernel_rfl) (by kernel_rfl) (by kernel_rfl) hS ⟨rfl, rfl, rfl, trivial⟩ hM ?_ ?_
      · clear hS hM
        refine ⟨?_, ?_, ?_, ?_, ?_, ?_, ?_, ?_, ?_, ?_, ?_, ?_, ?_, ?_, ?_, ?_, trivial⟩
        · intro V Bl X a w hR hX hS hM hn
          replace hS := hS.to [(7, ptr b7 0)] ⟨rfl, trivial⟩
          have hM0 := hM; replace hM := hM0.dropApp hn
          exact gy_val rfl (r_loadAll hS hM rfl (j := 0) rfl Try.underlying39 rfl sz39 cells_len) ⟨⟨rfl, rfl⟩, (fun _ h => by cases h), hM0⟩
        · intro V Bl X a w hR hX hS hM hn
          replace hS := hS.to [(0, v0)] ⟨rfl, trivial⟩
          have hM0 := hM; replace hM := hM0.dropApp hn
          exact gy_val rfl (r_move hS rfl) ⟨⟨rfl, rfl⟩, (fun _ h => by cases h), hM0⟩
        · intro V Bl X a w hR hX hS hM hn
          have h1 : V 1 = v0 := (hR 1 rfl).1
          replace hS := hS.to [(34, v0)] ⟨congrArg some h1, trivial⟩
          have hM0 := hM; replace hM := hM0.dropApp hn
          exact gy_build hS (vs := [(0, _)]) rfl (row68_1 (hr.keepGe hM ⟨hb7, hb22, trivial⟩).isS) rfl hM0 fun v Lx w' ho hM' => ⟨ho, ho.ge, hM'⟩
        · intro V Bl X a w hR hX hS hM hn
          replace hS := hS.to [(35, V 2)] ⟨rfl, trivial⟩
          have hr2 := Own.rdIn (show Own w0.heap.size 22 (V 2) (cells 1 (fun _ => v0)) (Bl 2) from hR 2 rfl) (hX 2 rfl) hM
          have hM0 := hM; replace hM := hM0.dropApp hn
          exact gy_pure hS rfl (of1_ok _ hr2 (hr.keepGe hM ⟨hb7, hb22, trivial⟩) (by omega)) hM0 fun w' hM' => ⟨⟨rfl, rfl⟩, (fun _ h => by cases h), hM'⟩
        · intro V Bl X a w hR hX hS hM hn
          have h0 : V 0 = .agg (cB 64 (flatB (HS.zero.puts f m).sum.s)).toArray := (hR 0 rfl).1
          have h3 : V 3 = .agg (cB 64 (flatB (HS.zero.puts f m).sum.s)).toArray := (hR 3 rfl).1
          replace hS := hS.to [(33, .agg (cB 64 (flatB (HS.zero.puts f m).sum.s)).toArray), (36, .agg (cB 64 (flatB (HS.zero.puts f m).sum.s)).toArray)] ⟨congrArg some h0, congrArg some h3, trivial⟩
          have hM0 := hM; replace hM := hM0.dropApp hn
          exact gy_val rfl (r_eqlBt hS rfl rfl (by kernel_rfl) Try.underlying39 Try.underlying5 sz5 (fun _ _ => rfl)) ⟨⟨rfl, rfl⟩, (fun _ h => by cases h), hM0⟩
        · intro V Bl X a w hR hX hS hM hn
          have h4 : V 4 = .bool true := (hR 4 rfl).1
          replace hS := hS.to [(37, .bool true)] ⟨congrArg some h4, trivial⟩
          have hM0 := hM; replace hM := hM0.dropApp hn
          exact gy_val rfl (r_move hS rfl) ⟨⟨rfl, rfl⟩, (fun _ h => by cases h), hM0⟩
        · intro V Bl X a w hR hX hS hM hn
          have h5 : V 5 = .bool true := (hR 5 rfl).1
          replace hS := hS.to [(38, .bool true), (6, ptr b22 0)] ⟨congrArg some h5, rfl, trivial⟩
          have hM0 := hM; replace hM := hM0.dropApp hn
          exact gy_valg hS rfl rfl rfl rfl (r_move hS rfl) ⟨⟨rfl, rfl⟩, (fun _ h => by cases h), hM0⟩
        · intro V Bl X a w hR hX hS hM hn
          have h5 : V 5 = .bool true := (hR 5 rfl).1
          have h6 : V 6 = ptr b22 0 := (hR 6 rfl).1
          replace hS := hS.to [(38, .bool true), (39, ptr b22 0)] ⟨congrArg some h5, congrArg some h6, trivial⟩
          have hM0 := hM; replace hM := hM0.dropApp hn
          exact gy_pureg hS rfl rfl rfl rfl (sum_t _ _ _ (hM.block (j := 1) rfl) (by omega)) hM0 fun w' hM' => ⟨⟨rfl, rfl⟩, (fun _ h => by cases h), hM'⟩
        · intro V Bl X a w hR hX hS hM hn
          have h5 : V 5 = .bool true := (hR 5 rfl).1
          replace hS := hS.to [(38, .bool true), (7, ptr b7 0)] ⟨congrArg some h5, rfl, trivial⟩
          have hM0 := hM; replace hM := hM0.dropApp hn
          exact gy_valg hS rfl rfl rfl rfl (r_loadAll hS hM rfl (j := 0) rfl Try.underlying39 rfl sz39 cells_len) ⟨⟨rfl, rfl⟩, (fun _ h => by cases h), hM0⟩
        · intro V Bl X a w hR hX hS hM hn
          have h5 : V 5 = .bool true := (hR 5 rfl).1
          have h7 : V 7 = .agg (cB 64 (flatB (HS.zero.puts f m).sum.s)).toArray := (hR 7 rfl).1
          have h8 : V 8 = .agg (cB 64 (flatB (HS.zero.puts f m).sum.s)).toArray := (hR 8 rfl).1
          replace hS := hS.to [(38, .bool true), (40, .agg (cB 64 (flatB (HS.zero.puts f m).sum.s)).toArray), (41, .agg (cB 64 (flatB (HS.zero.puts f m).sum.s)).toArray)] ⟨congrArg some h5, congrArg some h7, congrArg some h8, trivial⟩
          have hM0 := hM; replace hM := hM0.dropApp hn
          exact gy_valg hS rfl rfl rfl rfl (r_eqlBt hS rfl rfl (by kernel_rfl) Try.underlying39 Try.underlying5 sz5 (fun _ _ => rfl)) ⟨⟨rfl, rfl⟩, (fun _ h => by cases h), hM0⟩
        · intro V Bl X a w hR hX hS hM hn
          have h5 : V 5 = .bool true := (hR 5 rfl).1
          have h9 : V 9 = .bool true := (hR 9 rfl).1
          replace hS := hS.to [(38, .bool true), (42, .bool true)] ⟨congrArg some h5, congrArg some h9, trivial⟩
          have hM0 := hM; replace hM := hM0.dropApp hn
          exact gy_val rfl (r_pick hS rfl rfl) ⟨⟨rfl, rfl⟩, (fun _ h => by cases h), hM0⟩
        · intro V Bl X a w hR hX hS hM hn
          have h10 : V 10 = .bool true := (hR 10 rfl).1
          replace hS := hS.to [(43, .bool true)] ⟨congrArg some h10, trivial⟩
          have hM0 := hM; replace hM := hM0.dropApp hn
          exact gy_val rfl (r_move hS rfl) ⟨⟨rfl, rfl⟩, (fun _ h => by cases h), hM0⟩
        · intro V Bl X a w hR hX hS hM hn
          have h11 : V 11 = .bool true := (hR 11 rfl).1
          replace hS := hS.to [(44, .bool true), (6, ptr b22 0)] ⟨congrArg some h11, rfl, trivial⟩
          have hM0 := hM; replace hM := hM0.dropApp hn
          exact gy_valg hS rfl rfl rfl rfl (r_move hS rfl) ⟨⟨rfl, rfl⟩, (fun _ h => by cases h), hM0⟩
        · intro V Bl X a w hR hX hS hM hn
          have h11 : V 11 = .bool true := (hR 11 rfl).1
          have h12 : V 12 = ptr b22 0 := (hR 12 rfl).1
          replace hS := hS.to [(44, .bool true), (45, ptr b22 0)] ⟨congrArg some h11, congrArg some h12, trivial⟩
          have hM0 := hM; replace hM := hM0.dropApp hn
          exact gy_pureg hS rfl rfl rfl rfl (count_ok _ _ _ _ (hM.block (j := 1) rfl)) hM0 fun w' hM' => ⟨⟨rfl, rfl⟩, (fun _ h => by cases h), hM'⟩
        · intro V Bl X a w hR hX hS hM hn
          have h11 : V 11 = .bool true := (hR 11 rfl).1
          replace hS := hS.to [(44, .bool true), (0, v0)] ⟨congrArg some h11, rfl, trivial⟩
          have hM0 := hM; replace hM := hM0.dropApp hn
          exact gy_valg hS rfl rfl rfl rfl (r_move hS rfl) ⟨⟨rfl, rfl⟩, (fun _ h => by cases h), hM0⟩
        · intro V Bl X a w hR hX hS hM hn
          have h11 : V 11 = .bool true := (hR 11 rfl).1
          have h14 : V 14 = v0 := (hR 14 rfl).1
          replace hS := hS.to [(44, .bool true), (47, v0)] ⟨congrArg some h11, congrArg some h14, trivial⟩
          have hM0 := hM; replace hM := hM0.dropApp hn
          exact gy_valg hS rfl rfl rfl rfl (r_lenR hS rfl (hr.keepGe hM ⟨hb7, hb22, trivial⟩) Try.underlying22) ⟨⟨rfl, rfl⟩, (fun _ h => by cases h), hM0⟩
      clear hS hM; intro V Bl a w hR hN hS hM
      replace hM := hM.dropApp (fun e he => by obtain ⟨i, hi, he⟩ := List.mem_flatMap.1 he; exact hN i (List.mem_range.1 hi) e he)
      have v11 : V 11 = .bool true := (hR 11 (by decide)).1
      have v13 : V 13 = N (HS.zero.puts f m).n := (hR 13 (by decide)).1
      have v15 : V 15 = N m := (hR 15 (by decide)).1
      replace hS := hS.to [(44, .bool true), (46, N (HS.zero.puts f m).n), (48, N m), (7, ptr b7 0), (0, v0), (6, ptr b22 0)] ⟨congrArg some v11, congrArg some v13, congrArg some v15, rfl, rfl, rfl, trivial⟩
      clear hR hN v11 v13 v15; clear V Bl
      refine s_valg hS (by decide) rfl rfl rfl rfl rfl (r_bv hS rfl rfl gN (b_eqlNt hpn)) ?_; clear hS; intro a hS
      refine s_val hS (by decide) rfl rfl (r_pick hS rfl rfl) ?_; clear hS; intro a hS
      refine s_val hS (by decide) rfl rfl (r_assign hS rfl) ?_; clear hS; intro a hS
      refine s_nil ?_
      refine k_seq ?_
      refine c_ret ?_
      exact k_res1 hS rfl (RV.tmp rfl) ⟨rfl, hM.done ⟨hb7, hb22, trivial⟩⟩

set_option maxRecDepth 100000 in
theorem shaNone_ok (w0 : World) {v0 : Value} {m : Nat} {f : Nat → BitVec 8} (hr : Rd w0 v0 m (fun i => B (f i))) : Pure Try.prog 11 #[v0] w0 (.bool true) := by
  obtain ⟨Z, hZ⟩ : ∃ Z, Z = HS.zero := ⟨_, rfl⟩
  have hz : HS.zero.n = 0 := rfl
  have hpn : (HS.zero.puts f m).n = m := (HS.puts_n _ _ _).trans (Nat.zero_add m)
  refine ⟨by kernel_rfl, ?_⟩
  refine calls_sym Try.func11 rfl (by kernel_rfl) ?_
  intro a hS
  have hM : Mem w0 w0 [] := Mem.refl w0
  refine c_seq ?_
  refine c_region ?_
  refine s_val hS (by decide) rfl rfl (r_assign hS rfl) ?_; clear hS; intro a hS
  refine s_nil ?_
  refine k_seq ?_
  refine c_seq ?_
  refine c_region ?_
  refine s_pure hS hM (by decide) rfl (alive_ok _) ?_; clear hS hM; intro a w hS hM
  refine s_val hS (by decide) rfl rfl (r_assign hS rfl) ?_; clear hS; intro a hS
  refine s_nil ?_
  refine k_seq ?_
  refine c_seq ?_
  refine c_seq ?_
  refine c_region ?_
  refine s_val hS (by decide) rfl rfl (r_move hS rfl) ?_; clear hS; intro a hS
  refine s_val hS (by decide) rfl rfl (r_not hS rfl) ?_; clear hS; intro a hS
  refine s_val hS (by decide) rfl rfl (r_move hS rfl) ?_; clear hS; intro a hS
  refine s_valg hS (by decide) rfl rfl rfl rfl rfl (r_move hS rfl) ?_; clear hS; intro a hS
  refine s_valg hS (by decide) rfl rfl rfl rfl rfl (r_lenR hS rfl (hr.keepGe hM trivial) Try.underlying22) ?_; clear hS; intro a hS
  refine s_valgb hS (by decide) rfl rfl rfl rfl rfl (r_bv hS rfl (show ev _ _ = some (N 300) from rfl) gN (b_gtrN _ _ _)) (fun hc => ?_) (fun hc => ?_)
  · clear hS; intro a hS; skip
    refine s_val hS (by decide) rfl rfl (r_pick hS rfl rfl) ?_; clear hS; intro a hS
    refine s_nil ?_
    refine k_seq ?_
    refine c_true hS rfl rfl ?_
    refine c_seq ?_
    refine c_region ?_
    refine s_val hS (by decide) rfl rfl (r_move hS rfl) ?_; clear hS; intro a hS
    refine s_val hS (by decide) rfl rfl (r_assign hS rfl) ?_; clear hS; intro a hS
    refine s_nil ?_
    refine k_seq ?_
    refine c_ret ?_
    refine k_thenr ?_
    exact k_res1 hS rfl (RV.tmp rfl) ⟨rfl, hM.done trivial⟩
  · clear hS; intro a hS; have h12 := of_decide_eq_false hc
    refine s_val hS (by decide) rfl rfl (r_pick hS rfl rfl) ?_; clear hS; intro a hS
    refine s_nil ?_
    refine k_seq ?_
    refine c_false hS rfl rfl ?_
    refine c_skip ?_
    refine k_seq ?_
    refine c_seq ?_
    refine c_region ?_
    refine s_val hS (by decide) rfl rfl (r_assign hS rfl) ?_; clear hS; intro a hS
    refine s_nil ?_
    refine k_seq ?_
    refine c_seq ?_
    refine c_region ?_
    refine s_val hS (by decide) rfl rfl (r_move hS rfl) ?_; clear hS; intro a hS
    refine s_val hS (by decide) rfl rfl (r_move hS rfl) ?_; clear hS; intro a hS
    refine s_pure hS hM (by decide) rfl (writenil_ok _ _) ?_; clear hS hM; intro a w hS hM
    refine s_nil ?_
    refine k_seq ?_
    refine c_seq ?_
    refine c_region ?_
    refine s_val hS (by decide) rfl rfl (r_build hS rfl (hbld_zero)) ?_; clear hS; intro a hS
    refine s_box hS hM (by decide) rfl rfl ?_; clear hS hM; intro a b19 w hb19 hS hM
    refine s_val hS (by decide) rfl rfl (r_assign hS rfl) ?_; clear hS; intro a hS
    refine s_nil ?_
    refine k_seq ?_
    refine c_seq ?_
    refine c_region ?_
    refine s_val hS (by decide) rfl rfl (r_move hS rfl) ?_; clear hS; intro a hS
    refine s_val hS (by decide) rfl rfl (r_move hS rfl) ?_; clear hS; intro a hS
    refine s_wrote hS hM (by decide) rfl (j := 0) rfl (write_z _ _ (hM.block (j := 0) rfl) (hr.keepGe hM ⟨hb19, trivial⟩) (fun q => Nat.ne_of_lt (Nat.lt_of_lt_of_le (hr.lt q) hb19)) (by omega)) ?_; clear hS hM; intro a w hS hM
    refine s_nil ?_
    refine k_seq ?_
    refine c_seq ?_
    refine c_mplan 30 [4294967295, 2147483647, 1073741823, 335544319, 67108863, 134217727, 67108863, 33554431, 16777215, 8388607, 4194303, 1310719, 262143, 524287, 262143, 131071, 65535, 32767, 12287, 4095, 4095, 2047, 1023, 511, 255, 127, 63, 31, 15, 7, 3, 1, 0] [⟨b19, 56, hH true (HS.zero.puts f m)⟩] [(4, .pointer none), (5, ptr b19 0), (0, v0)] (fun i v B => match i with | 0 => v = .pointer none ∧ B = [] | 1 => v = N 0 ∧ B = [] | 2 => v = .bool true ∧ B = [] | 3 => v = .bool true ∧ B = [] | 4 => v = .pointer none ∧ B = [] | 5 => v = .agg (cB 64 (flatB Z.sum.s)).toArray ∧ B = [] | 6 => v = .agg (cB 64 (flatB Z.sum.s)).toArray ∧ B = [] | 7 => v = .bool true ∧ B = [] | 8 => v = .bool true ∧ B = [] | 9 => v = .bool true ∧ B = [] | 10 => v = .pointer none ∧ B = [] | 11 => Own w0.heap.size 5 v (cB 200 (midF Z)) B | 12 => v = SV (bl 200 (midF Z)) ∧ B = [] | 13 => Own w0.heap.size 5 v (cB 200 (midF Z)) B | 14 => v = SV (bl 200 (midF Z)) ∧ B = [] | 15 => v = .bool true ∧ B = [] | 16 => v = .bool true ∧ B = [] | 17 => v = .bool true ∧ B = [] | 18 => v = ptr b19 0 ∧ B = [] | 19 => v = .agg (cB 64 (flatB (HS.zero.puts f m).sum.s)).toArray ∧ B = [] | 20 => v = v0 ∧ B = [] | 21 => Own w0.heap.size 22 v (cells 1 (fun _ => v0)) B | 22 => v = .agg (cB 64 (flatB (HS.zero.puts f m).sum.s)).toArray ∧ B = [] | 23 => v = .bool true ∧ B = [] | 24 => v = .bool true ∧ B = [] | 25 => v = .bool true ∧ B = [] | 26 => v = ptr b19 0 ∧ B = [] | 27 => v = N (HS.zero.puts f m).n ∧ B = [] | 28 => v = v0 ∧ B = [] | 29 => v = N m ∧ B = [] | _ => True) (by kernel_rfl) (by kernel_rfl) (by kernel_rfl) hS ⟨rfl, rfl, rfl, trivial⟩ hM ?_ ?_
    · clear hS hM
      refine ⟨?_, ?_, ?_, ?_, ?_, ?_, ?_, ?_, ?_, ?_, ?_, ?_, ?_, ?_, ?_, ?_, ?_, ?_, ?_, ?_, ?_, ?_, ?_, ?_, ?_, ?_, ?_, ?_, ?_, ?_, trivial⟩
      · intro V Bl X a w hR hX hS hM hn
        replace hS := hS.to [(4, .pointer none)] ⟨rfl, trivial⟩
        have hM0 := hM; replace hM := hM0.dropApp hn
        exact gy_val rfl (r_move hS rfl) ⟨⟨rfl, rfl⟩, (fun _ h => by cases h), hM0⟩
      · intro V Bl X a w hR hX hS hM hn
        have h0 : V 0 = .pointer none := (hR 0 rfl).1
        replace hS := hS.to [(23, .pointer none)] ⟨congrArg some h0, trivial⟩
        have hM0 := hM; replace hM := hM0.dropApp hn
        exact gy_pure hS rfl (countnil_ok _) hM0 fun w' hM' => ⟨⟨rfl, rfl⟩, (fun _ h => by cases h), hM'⟩
      · intro V Bl X a w hR hX hS hM hn
        have h1 : V 1 = N 0 := (hR 1 rfl).1
        replace hS := hS.to [(24, N 0)] ⟨congrArg some h1, trivial⟩
        have hM0 := hM; replace hM := hM0.dropApp hn
        exact gy_val rfl (r_bv hS rfl (show ev _ _ = some (N 0) from rfl) gN (b_eqlNt rfl)) ⟨⟨rfl, rfl⟩, (fun _ h => by cases h), hM0⟩
      · intro V Bl X a w hR hX hS hM hn
        have h2 : V 2 = .bool true := (hR 2 rfl).1
        replace hS := hS.to [(25, .bool true)] ⟨congrArg some h2, trivial⟩
        have hM0 := hM; replace hM := hM0.dropApp hn
        exact gy_val rfl (r_move hS rfl) ⟨⟨rfl, rfl⟩, (fun _ h => by cases h), hM0⟩
      · intro V Bl X a w hR hX hS hM hn
        have h3 : V 3 = .bool true := (hR 3 rfl).1
        replace hS := hS.to [(26, .bool true), (4, .pointer none)] ⟨congrArg some h3, rfl, trivial⟩
        have hM0 := hM; replace hM := hM0.dropApp hn
        exact gy_valg hS rfl rfl rfl rfl (r_move hS rfl) ⟨⟨rfl, rfl⟩, (fun _ h => by cases h), hM0⟩
      · intro V Bl X a w hR hX hS hM hn
        have h3 : V 3 = .bool true := (hR 3 rfl).1
        have h4 : V 4 = .pointer none := (hR 4 rfl).1
        replace hS := hS.to [(26, .bool true), (27, .pointer none)] ⟨congrArg some h3, congrArg some h4, trivial⟩
        have hM0 := hM; replace hM := hM0.dropApp hn
        exact gy_pureg hS rfl rfl rfl rfl (sumnilZ hZ _) hM0 fun w' hM' => ⟨⟨rfl, rfl⟩, (fun _ h => by cases h), hM'⟩
      · intro V Bl X a w hR hX hS hM hn
        have h3 : V 3 = .bool true := (hR 3 rfl).1
        replace hS := hS.to [(26, .bool true)] ⟨congrArg some h3, trivial⟩
        have hM0 := hM; replace hM := hM0.dropApp hn
        exact gy_pureg hS (vs := [_]) rfl rfl rfl rfl (of_nilZ hZ _) hM0 fun w' hM' => ⟨⟨rfl, rfl⟩, (fun _ h => by cases h), hM'⟩
      · intro V Bl X a w hR hX hS hM hn
        have h3 : V 3 = .bool true := (hR 3 rfl).1
        have h5 : V 5 = .agg (cB 64 (flatB Z.sum.s)).toArray := (hR 5 rfl).1
        have h6 : V 6 = .agg (cB 64 (flatB Z.sum.s)).toArray := (hR 6 rfl).1
        replace hS := hS.to [(26, .bool true), (28, .agg (cB 64 (flatB Z.sum.s)).toArray), (29, .agg (cB 64 (flatB Z.sum.s)).toArray)] ⟨congrArg some h3, congrArg some h5, congrArg some h6, trivial⟩
        have hM0 := hM; replace hM := hM0.dropApp hn
        exact gy_valg hS rfl rfl rfl rfl (r_eqlBt hS rfl rfl (by kernel_rfl) Try.underlying39 Try.underlying5 sz5 (fun _ _ => rfl)) ⟨⟨rfl, rfl⟩, (fun _ h => by cases h), hM0⟩
      · intro V Bl X a w hR hX hS hM hn
        have h3 : V 3 = .bool true := (hR 3 rfl).1
        have h7 : V 7 = .bool true := (hR 7 rfl).1
        replace hS := hS.to [(26, .bool true), (30, .bool true)] ⟨congrArg some h3, congrArg some h7, trivial⟩
        have hM0 := hM; replace hM := hM0.dropApp hn
        exact gy_val rfl (r_pick hS rfl rfl) ⟨⟨rfl, rfl⟩, (fun _ h => by cases h), hM0⟩
      · intro V Bl X a w hR hX hS hM hn
        have h8 : V 8 = .bool true := (hR 8 rfl).1
        replace hS := hS.to [(31, .bool true)] ⟨congrArg some h8, trivial⟩
        have hM0 := hM; replace hM := hM0.dropApp hn
        exact gy_val rfl (r_move hS rfl) ⟨⟨rfl, rfl⟩, (fun _ h => by cases h), hM0⟩
      · intro V Bl X a w hR hX hS hM hn
        have h9 : V 9 = .bool true := (hR 9 rfl).1
        replace hS := hS.to [(32, .bool true), (4, .pointer none)] ⟨congrArg some h9, rfl, trivial⟩
        have hM0 := hM; replace hM := hM0.dropApp hn
        exact gy_valg hS rfl rfl rfl rfl (r_move hS rfl) ⟨⟨rfl, rfl⟩, (fun _ h => by cases h), hM0⟩
      · intro V Bl X a w hR hX hS hM hn
        have h9 : V 9 = .bool true := (hR 9 rfl).1
        have h10 : V 10 = .pointer none := (hR 10 rfl).1
        replace hS := hS.to [(32, .bool true), (33, .pointer none)] ⟨congrArg some h9, congrArg some h10, trivial⟩
        have hM0 := hM; replace hM := hM0.dropApp hn
        exact gy_freshg hS rfl rfl rfl rfl (NewRow.fresh (midnilZ hZ _)) hM0 fun v Lx w' ho hM' => ⟨ho, ho.ge, hM'⟩
      · intro V Bl X a w hR hX hS hM hn
        have h9 : V 9 = .bool true := (hR 9 rfl).1
        replace hS := hS.to [(32, .bool true), (34, V 11)] ⟨congrArg some h9, rfl, trivial⟩
        have hr11 := Own.rdIn (show Own w0.heap.size 5 (V 11) (cB 200 (midF Z)) (Bl 11) from hR 11 rfl) (hX 11 rfl) hM
        have hM0 := hM; replace hM := hM0.dropApp hn
        exact gy_valg hS rfl rfl rfl rfl (r_convS hS rfl hr11 Try.underlying22 Try.underlying5 Try.underlying9) ⟨⟨rfl, rfl⟩, (fun _ h => by cases h), hM0⟩
      · intro V Bl X a w hR hX hS hM hn
        have h9 : V 9 = .bool true := (hR 9 rfl).1
        replace hS := hS.to [(32, .bool true)] ⟨congrArg some h9, trivial⟩
        have hM0 := hM; replace hM := hM0.dropApp hn
        exact gy_freshg hS (vs := [_]) rfl rfl rfl rfl (rmidnilZ hZ _) hM0 fun v Lx w' ho hM' => ⟨ho, ho.ge, hM'⟩
      · intro V Bl X a w hR hX hS hM hn
        have h9 : V 9 = .bool true := (hR 9 rfl).1
        replace hS := hS.to [(32, .bool true), (36, V 13)] ⟨congrArg some h9, rfl, trivial⟩
        have hr13 := Own.rdIn (show Own w0.heap.size 5 (V 13) (cB 200 (midF Z)) (Bl 13) from hR 13 rfl) (hX 13 rfl) hM
        have hM0 := hM; replace hM := hM0.dropApp hn
        exact gy_valg hS rfl rfl rfl rfl (r_convS hS rfl hr13 Try.underlying22 Try.underlying5 Try.underlying9) ⟨⟨rfl, rfl⟩, (fun _ h => by cases h), hM0⟩
      · intro V Bl X a w hR hX hS hM hn
        have h9 : V 9 = .bool true := (hR 9 rfl).1
        have h12 : V 12 = SV (bl 200 (midF Z)) := (hR 12 rfl).1
        have h14 : V 14 = SV (bl 200 (midF Z)) := (hR 14 rfl).1
        replace hS := hS.to [(32, .bool true), (35, SV (bl 200 (midF Z))), (37, SV (bl 200 (midF Z)))] ⟨congrArg some h9, congrArg some h12, congrArg some h14, trivial⟩
        have hM0 := hM; replace hM := hM0.dropApp hn
        exact gy_valg hS rfl rfl rfl rfl (r_eqlST hS rfl rfl rfl) ⟨⟨rfl, rfl⟩, (fun _ h => by cases h), hM0⟩
      · intro V Bl X a w hR hX hS hM hn
        have h9 : V 9 = .bool true := (hR 9 rfl).1
        have h15 : V 15 = .bool true := (hR 15 rfl).1
        replace hS := hS.to [(32, .bool true), (38, .bool true)] ⟨congrArg some h9, congrArg some h15, trivial⟩
        have hM0 := hM; replace hM := hM0.dropApp hn
        exact gy_val rfl (r_pick hS rfl rfl) ⟨⟨rfl, rfl⟩, (fun _ h => by cases h), hM0⟩
      · intro V Bl X a w hR hX hS hM hn
        have h16 : V 16 = .bool true := (hR 16 rfl).1
        replace hS := hS.to [(39, .bool true)] ⟨congrArg some h16, trivial⟩
        have hM0 := hM; replace hM := hM0.dropApp hn
        exact gy_val rfl (r_move hS rfl) ⟨⟨rfl, rfl⟩, (fun _ h => by cases h), hM0⟩
      · intro V Bl X a w hR hX hS hM hn
        have h17 : V 17 = .bool true := (hR 17 rfl).1
        replace hS := hS.to [(40, .bool true), (5, ptr b19 0)] ⟨congrArg some h17, rfl, trivial⟩
        have hM0 := hM; replace hM := hM0.dropApp hn
        exact gy_valg hS rfl rfl rfl rfl (r_move hS rfl) ⟨⟨rfl, rfl⟩, (fun _ h => by cases h), hM0⟩
      · intro V Bl X a w hR hX hS hM hn
        have h17 : V 17 = .bool true := (hR 17 rfl).1
        have h18 : V 18 = ptr b19 0 := (hR 18 rfl).1
        replace hS := hS.to [(40, .bool true), (41, ptr b19 0)] ⟨congrArg some h17, congrArg some h18, trivial⟩
        have hM0 := hM; replace hM := hM0.dropApp hn
        exact gy_pureg hS rfl rfl rfl rfl (sum_t _ _ _ (hM.block (j := 0) rfl) (by omega)) hM0 fun w' hM' => ⟨⟨rfl, rfl⟩, (fun _ h => by cases h), hM'⟩
      · intro V Bl X a w hR hX hS hM hn
        have h17 : V 17 = .bool true := (hR 17 rfl).1
        replace hS := hS.to [(40, .bool true), (0, v0)] ⟨congrArg some h17, rfl, trivial⟩
        have hM0 := hM; replace hM := hM0.dropApp hn
        exact gy_valg hS rfl rfl rfl rfl (r_move hS rfl) ⟨⟨rfl, rfl⟩, (fun _ h => by cases h), hM0⟩
      · intro V Bl X a w hR hX hS hM hn
        have h17 : V 17 = .bool true := (hR 17 rfl).1
        have h20 : V 20 = v0 := (hR 20 rfl).1
        replace hS := hS.to [(40, .bool true), (43, v0)] ⟨congrArg some h17, congrArg some h20, trivial⟩
        have hM0 := hM; replace hM := hM0.dropApp hn
        exact gy_buildg hS (vs := [(0, _)]) rfl rfl rfl rfl (row68_1 (hr.keepGe hM ⟨hb19, trivial⟩).isS) rfl hM0 fun v Lx w' ho hM' => ⟨ho, ho.ge, hM'⟩
      · intro V Bl X a w hR hX hS hM hn
        have h17 : V 17 = .bool true := (hR 17 rfl).1
        replace hS := hS.to [(40, .bool true), (44, V 21)] ⟨congrArg some h17, rfl, trivial⟩
        have hr21 := Own.rdIn (show Own w0.heap.size 22 (V 21) (cells 1 (fun _ => v0)) (Bl 21) from hR 21 rfl) (hX 21 rfl) hM
        have hM0 := hM; replace hM := hM0.dropApp hn
        exact gy_pureg hS rfl rfl rfl rfl (of1_ok _ hr21 (hr.keepGe hM ⟨hb19, trivial⟩) (by omega)) hM0 fun w' hM' => ⟨⟨rfl, rfl⟩, (fun _ h => by cases h), hM'⟩
      · intro V Bl X a w hR hX hS hM hn
        have h17 : V 17 = .bool true := (hR 17 rfl).1
        have h19 : V 19 = .agg (cB 64 (flatB (HS.zero.puts f m).sum.s)).toArray := (hR 19 rfl).1
        have h22 : V 22 = .agg (cB 64 (flatB (HS.zero.puts f m).sum.s)).toArray := (hR 22 rfl).1
        replace hS := hS.to [(40, .bool true), (42, .agg (cB 64 (flatB (HS.zero.puts f m).sum.s)).toArray), (45, .agg (cB 64 (flatB (HS.zero.puts f m).sum.s)).toArray)] ⟨congrArg some h17, congrArg some h19, congrArg some h22, trivial⟩
        have hM0 := hM; replace hM := hM0.dropApp hn
        exact gy_valg hS rfl rfl rfl rfl (r_eqlBt hS rfl rfl (by kernel_rfl) Try.underlying39 Try.underlying5 sz5 (fun _ _ => rfl)) ⟨⟨rfl, rfl⟩, (fun _ h => by cases h), hM0⟩
      · intro V Bl X a w hR hX hS hM hn
        have h17 : V 17 = .bool true := (hR 17 rfl).1
        have h23 : V 23 = .bool true := (hR 23 rfl).1
        replace hS := hS.to [(40, .bool true), (46, .bool true)] ⟨congrArg some h17, congrArg some h23, trivial⟩
        have hM0 := hM; replace hM := hM0.dropApp hn
        exact gy_val rfl (r_pick hS rfl rfl) ⟨⟨rfl, rfl⟩, (fun _ h => by cases h), hM0⟩
      · intro V Bl X a w hR hX hS hM hn
        have h24 : V 24 = .bool true := (hR 24 rfl).1
        replace hS := hS.to [(47, .bool true)] ⟨congrArg some h24, trivial⟩
        have hM0 := hM; replace hM := hM0.dropApp hn
        exact gy_val rfl (r_move hS rfl) ⟨⟨rfl, rfl⟩, (fun _ h => by cases h), hM0⟩
      · intro V Bl X a w hR hX hS hM hn
        have h25 : V 25 = .bool true := (hR 25 rfl).1
        replace hS := hS.to [(48, .bool true), (5, ptr b19 0)] ⟨congrArg some h25, rfl, trivial⟩
        have hM0 := hM; replace hM := hM0.dropApp hn
        exact gy_valg hS rfl rfl rfl rfl (r_move hS rfl) ⟨⟨rfl, rfl⟩, (fun _ h => by cases h), hM0⟩
      · intro V Bl X a w hR hX hS hM hn
        have h25 : V 25 = .bool true := (hR 25 rfl).1
        have h26 : V 26 = ptr b19 0 := (hR 26 rfl).1
        replace hS := hS.to [(48, .bool true), (49, ptr b19 0)] ⟨congrArg some h25, congrArg some h26, trivial⟩
        have hM0 := hM; replace hM := hM0.dropApp hn
        exact gy_pureg hS rfl rfl rfl rfl (count_ok _ _ _ _ (hM.block (j := 0) rfl)) hM0 fun w' hM' => ⟨⟨rfl, rfl⟩, (fun _ h => by cases h), hM'⟩
      · intro V Bl X a w hR hX hS hM hn
        have h25 : V 25 = .bool true := (hR 25 rfl).1
        replace hS := hS.to [(48, .bool true), (0, v0)] ⟨congrArg some h25, rfl, trivial⟩
        have hM0 := hM; replace hM := hM0.dropApp hn
        exact gy_valg hS rfl rfl rfl rfl (r_move hS rfl) ⟨⟨rfl, rfl⟩, (fun _ h => by cases h), hM0⟩
      · intro V Bl X a w hR hX hS hM hn
        have h25 : V 25 = .bool true := (hR 25 rfl).1
        have h28 : V 28 = v0 := (hR 28 rfl).1
        replace hS := hS.to [(48, .bool true), (51, v0)] ⟨congrArg some h25, congrArg some h28, trivial⟩
        have hM0 := hM; replace hM := hM0.dropApp hn
        exact gy_valg hS rfl rfl rfl rfl (r_lenR hS rfl (hr.keepGe hM ⟨hb19, trivial⟩) Try.underlying22) ⟨⟨rfl, rfl⟩, (fun _ h => by cases h), hM0⟩
    clear hS hM; intro V Bl a w hR hN hS hM
    replace hM := hM.dropApp (fun e he => by obtain ⟨i, hi, he⟩ := List.mem_flatMap.1 he; exact hN i (List.mem_range.1 hi) e he)
    have v25 : V 25 = .bool true := (hR 25 (by decide)).1
    have v27 : V 27 = N (HS.zero.puts f m).n := (hR 27 (by decide)).1
    have v29 : V 29 = N m := (hR 29 (by decide)).1
    replace hS := hS.to [(48, .bool true), (50, N (HS.zero.puts f m).n), (52, N m), (4, .pointer none), (5, ptr b19 0), (0, v0)] ⟨congrArg some v25, congrArg some v27, congrArg some v29, rfl, rfl, rfl, trivial⟩
    clear hR hN v25 v27 v29; clear V Bl
    refine s_valg hS (by decide) rfl rfl rfl rfl rfl (r_bv hS rfl rfl gN (b_eqlNt hpn)) ?_; clear hS; intro a hS
    refine s_val hS (by decide) rfl rfl (r_pick hS rfl rfl) ?_; clear hS; intro a hS
    refine s_val hS (by decide) rfl rfl (r_assign hS rfl) ?_; clear hS; intro a hS
    refine s_nil ?_
    refine k_seq ?_
    refine c_ret ?_
    exact k_res1 hS rfl (RV.tmp rfl) ⟨rfl, hM.done ⟨hb19, trivial⟩⟩
end Go.Proofs.Ytfojllcccncdbaa
