/- The walks of the first primes and of the laws of chapter 6. Printed by a program of mine (walk.py). -/
import Derived.Test.YtedlgmjpifokdaaRo4
import Derived.Test.YtedlgmjpifokdaaRo6
namespace Go.Proofs.Ytedlgmjpifokdaa
open Go Go.Sym
attribute [local irreducible] limb dig sr rt sqG cuG sqU cuU cnt pv pvN chk nd

theorem sz29 : (Try.prog.info? 29).map (·.size) = some 8 := by kernel_rfl
theorem sz31 : (Try.prog.info? 31).map (·.size) = some 80 := by kernel_rfl
theorem zero29 : Zero Try.prog 29 (cU 8 (fun _ => 0)) := fun _ => by kernel_rfl
theorem zero31 : Zero Try.prog 31 (cU 80 (fun _ => 0)) := fun _ => by kernel_rfl
theorem build29 (x0 x1 x2 x3 x4 x5 x6 x7 : BitVec 64) (w : World) : (Instr.build 29 ([(0, U x0), (1, U x1), (2, U x2), (3, U x3), (4, U x4), (5, U x5), (6, U x6), (7, U x7)] : List (Nat × Value)).toArray).run Try.prog w = .ok (.agg (cU 8 (lst 0 [x0, x1, x2, x3, x4, x5, x6, x7])).toArray) w := by kernel_rfl
theorem build31 (x0 x1 x2 x3 x4 x5 x6 x7 x8 x9 x10 x11 x12 x13 x14 x15 x16 x17 x18 x19 x20 x21 x22 x23 x24 x25 x26 x27 x28 x29 x30 x31 x32 x33 x34 x35 x36 x37 x38 x39 x40 x41 x42 x43 x44 x45 x46 x47 x48 x49 x50 x51 x52 x53 x54 x55 x56 x57 x58 x59 x60 x61 x62 x63 x64 x65 x66 x67 x68 x69 x70 x71 x72 x73 x74 x75 x76 x77 x78 x79 : BitVec 64) (w : World) : (Instr.build 31 ([(0, U x0), (1, U x1), (2, U x2), (3, U x3), (4, U x4), (5, U x5), (6, U x6), (7, U x7), (8, U x8), (9, U x9), (10, U x10), (11, U x11), (12, U x12), (13, U x13), (14, U x14), (15, U x15), (16, U x16), (17, U x17), (18, U x18), (19, U x19), (20, U x20), (21, U x21), (22, U x22), (23, U x23), (24, U x24), (25, U x25), (26, U x26), (27, U x27), (28, U x28), (29, U x29), (30, U x30), (31, U x31), (32, U x32), (33, U x33), (34, U x34), (35, U x35), (36, U x36), (37, U x37), (38, U x38), (39, U x39), (40, U x40), (41, U x41), (42, U x42), (43, U x43), (44, U x44), (45, U x45), (46, U x46), (47, U x47), (48, U x48), (49, U x49), (50, U x50), (51, U x51), (52, U x52), (53, U x53), (54, U x54), (55, U x55), (56, U x56), (57, U x57), (58, U x58), (59, U x59), (60, U x60), (61, U x61), (62, U x62), (63, U x63), (64, U x64), (65, U x65), (66, U x66), (67, U x67), (68, U x68), (69, U x69), (70, U x70), (71, U x71), (72, U x72), (73, U x73), (74, U x74), (75, U x75), (76, U x76), (77, U x77), (78, U x78), (79, U x79)] : List (Nat × Value)).toArray).run Try.prog w = .ok (.agg (cU 80 (lst 0 [x0, x1, x2, x3, x4, x5, x6, x7, x8, x9, x10, x11, x12, x13, x14, x15, x16, x17, x18, x19, x20, x21, x22, x23, x24, x25, x26, x27, x28, x29, x30, x31, x32, x33, x34, x35, x36, x37, x38, x39, x40, x41, x42, x43, x44, x45, x46, x47, x48, x49, x50, x51, x52, x53, x54, x55, x56, x57, x58, x59, x60, x61, x62, x63, x64, x65, x66, x67, x68, x69, x70, x71, x72, x73, x74, x75, x76, x77, x78, x79])).toArray) w := by kernel_rfl
theorem row26_1 (x0 : BitVec 64) : BuildsRow Try.prog 26 22 1 [(0, U x0)] [U x0] := fun _ => by kernel_rfl

set_option maxRecDepth 100000 in
theorem begin_ok  (w0 : World) : Pure Try.prog 15 #[] w0 (.agg (cU 8 bgn).toArray) := by
  refine ⟨by kernel_rfl, ?_⟩
  refine calls_sym Try.func15 rfl (by kernel_rfl) ?_
  intro a hS
  have hM : Mem w0 w0 [] := Mem.refl w0
  refine c_seq ?_
  refine c_region ?_
  refine s_alloc hS hM (by decide) zero29 ?_; clear hS hM; intro a b0 w hb0 hS hM
  refine s_nil ?_
  refine k_seq ?_
  refine c_seq ?_
  refine c_region ?_
  refine s_val hS (by decide) rfl rfl (r_build hS (vs := [(0, U 7640891576956012808#64), (1, U 13503953896175478587#64), (2, U 4354685564936845355#64), (3, U 11912009170470909681#64), (4, U 5840696475078001361#64), (5, U 11170449401992604703#64), (6, U 2270897969802886507#64), (7, U 6620516959819538809#64)]) rfl (build29 _ _ _ _ _ _ _ _)) ?_; clear hS; intro a hS
  refine s_storeAll hS hM rfl rfl (j := 0) rfl sz29 cells_len cells_len cU_one ?_; clear hS hM; intro a w hS hM
  refine s_nil ?_
  refine k_seq ?_
  refine c_ret ?_
  exact k_res1 hS rfl (RV.row rfl (hM.have_ _ (mem_of_get (j := 0) rfl)) Try.underlying29 rfl (by rw [sz29]; exact congrArg some cells_len.symm)) ⟨rfl, hM.done ⟨hb0, trivial⟩⟩

set_option maxRecDepth 100000 in
theorem rbegin_ok  (w0 : World) : Pure Try.prog 16 #[] w0 (.agg (cU 8 bgn).toArray) := by
  refine ⟨by kernel_rfl, ?_⟩
  refine calls_sym Try.func16 rfl (by kernel_rfl) ?_
  intro a hS
  have hM : Mem w0 w0 [] := Mem.refl w0
  refine c_seq ?_
  refine c_region ?_
  refine s_alloc hS hM (by decide) zero29 ?_; clear hS hM; intro a b0 w hb0 hS hM
  refine s_nil ?_
  refine k_seq ?_
  refine c_seq ?_
  refine c_region ?_
  refine s_val hS (by decide) rfl rfl (r_build hS (vs := [(0, U 7640891576956012808#64), (1, U 13503953896175478587#64), (2, U 4354685564936845355#64), (3, U 11912009170470909681#64), (4, U 5840696475078001361#64), (5, U 11170449401992604703#64), (6, U 2270897969802886507#64), (7, U 6620516959819538809#64)]) rfl (build29 _ _ _ _ _ _ _ _)) ?_; clear hS; intro a hS
  refine s_storeAll hS hM rfl rfl (j := 0) rfl sz29 cells_len cells_len cU_one ?_; clear hS hM; intro a w hS hM
  refine s_nil ?_
  refine k_seq ?_
  refine c_ret ?_
  exact k_res1 hS rfl (RV.row rfl (hM.have_ _ (mem_of_get (j := 0) rfl)) Try.underlying29 rfl (by rw [sz29]; exact congrArg some cells_len.symm)) ⟨rfl, hM.done ⟨hb0, trivial⟩⟩

set_option maxRecDepth 100000 in
theorem rounds_ok  (w0 : World) : Pure Try.prog 17 #[] w0 (.agg (cU 80 rk).toArray) := by
  refine ⟨by kernel_rfl, ?_⟩
  refine calls_sym Try.func17 rfl (by kernel_rfl) ?_
  intro a hS
  have hM : Mem w0 w0 [] := Mem.refl w0
  refine c_seq ?_
  refine c_region ?_
  refine s_alloc hS hM (by decide) zero31 ?_; clear hS hM; intro a b0 w hb0 hS hM
  refine s_nil ?_
  refine k_seq ?_
  refine c_seq ?_
  refine c_region ?_
  refine s_val hS (by decide) rfl rfl (r_build hS (vs := [(0, U 4794697086780616226#64), (1, U 8158064640168781261#64), (2, U 13096744586834688815#64), (3, U 16840607885511220156#64), (4, U 4131703408338449720#64), (5, U 6480981068601479193#64), (6, U 10538285296894168987#64), (7, U 12329834152419229976#64), (8, U 15566598209576043074#64), (9, U 1334009975649890238#64), (10, U 2608012711638119052#64), (11, U 6128411473006802146#64), (12, U 8268148722764581231#64), (13, U 9286055187155687089#64), (14, U 11230858885718282805#64), (15, U 13951009754708518548#64), (16, U 16472876342353939154#64), (17, U 17275323862435702243#64), (18, U 1135362057144423861#64), (19, U 2597628984639134821#64), (20, U 3308224258029322869#64), (21, U 5365058923640841347#64), (22, U 6679025012923562964#64), (23, U 8573033837759648693#64), (24, U 10970295158949994411#64), (25, U 12119686244451234320#64), (26, U 12683024718118986047#64), (27, U 13788192230050041572#64), (28, U 14330467153632333762#64), (29, U 15395433587784984357#64), (30, U 489312712824947311#64), (31, U 1452737877330783856#64), (32, U 2861767655752347644#64), (33, U 3322285676063803686#64), (34, U 5560940570517711597#64), (35, U 5996557281743188959#64), (36, U 7280758554555802590#64), (37, U 8532644243296465576#64), (38, U 9350256976987008742#64), (39, U 10552545826968843579#64), (40, U 11727347734174303076#64), (41, U 12113106623233404929#64), (42, U 14000437183269869457#64), (43, U 14369950271660146224#64), (44, U 15101387698204529176#64), (45, U 15463397548674623760#64), (46, U 17586052441742319658#64), (47, U 1182934255886127544#64), (48, U 1847814050463011016#64), (49, U 2177327727835720531#64), (50, U 2830643537854262169#64), (51, U 3796741975233480872#64), (52, U 4115178125766777443#64), (53, U 5681478168544905931#64), (54, U 6601373596472566643#64), (55, U 7507060721942968483#64), (56, U 8399075790359081724#64), (57, U 8693463985226723168#64), (58, U 9568029438360202098#64), (59, U 10144078919501101548#64), (60, U 10430055236837252648#64), (61, U 11840083180663258601#64), (62, U 13761210420658862357#64), (63, U 14299343276471374635#64), (64, U 14566680578165727644#64), (65, U 15097957966210449927#64), (66, U 16922976911328602910#64), (67, U 17689382322260857208#64), (68, U 500013540394364858#64), (69, U 748580250866718886#64), (70, U 1242879168328830382#64), (71, U 1977374033974150939#64), (72, U 2944078676154940804#64), (73, U 3659926193048069267#64), (74, U 4368137639120453308#64), (75, U 4836135668995329356#64), (76, U 5532061633213252278#64), (77, U 6448918945643986474#64), (78, U 6902733635092675308#64), (79, U 7801388544844847127#64)]) rfl (build31 _ _ _ _ _ _ _ _ _ _ _ _ _ _ _ _ _ _ _ _ _ _ _ _ _ _ _ _ _ _ _ _ _ _ _ _ _ _ _ _ _ _ _ _ _ _ _ _ _ _ _ _ _ _ _ _ _ _ _ _ _ _ _ _ _ _ _ _ _ _ _ _ _ _ _ _ _ _ _ _)) ?_; clear hS; intro a hS
  refine s_storeAll hS hM rfl rfl (j := 0) rfl sz31 cells_len cells_len cU_one ?_; clear hS hM; intro a w hS hM
  refine s_nil ?_
  refine k_seq ?_
  refine c_ret ?_
  exact k_res1 hS rfl (RV.row rfl (hM.have_ _ (mem_of_get (j := 0) rfl)) Try.underlying31 rfl (by rw [sz31]; exact congrArg some cells_len.symm)) ⟨rfl, hM.done ⟨hb0, trivial⟩⟩

set_option maxRecDepth 100000 in
theorem rrounds_ok  (w0 : World) : Pure Try.prog 18 #[] w0 (.agg (cU 80 rk).toArray) := by
  refine ⟨by kernel_rfl, ?_⟩
  refine calls_sym Try.func18 rfl (by kernel_rfl) ?_
  intro a hS
  have hM : Mem w0 w0 [] := Mem.refl w0
  refine c_seq ?_
  refine c_region ?_
  refine s_alloc hS hM (by decide) zero31 ?_; clear hS hM; intro a b0 w hb0 hS hM
  refine s_nil ?_
  refine k_seq ?_
  refine c_seq ?_
  refine c_region ?_
  refine s_val hS (by decide) rfl rfl (r_build hS (vs := [(0, U 4794697086780616226#64), (1, U 8158064640168781261#64), (2, U 13096744586834688815#64), (3, U 16840607885511220156#64), (4, U 4131703408338449720#64), (5, U 6480981068601479193#64), (6, U 10538285296894168987#64), (7, U 12329834152419229976#64), (8, U 15566598209576043074#64), (9, U 1334009975649890238#64), (10, U 2608012711638119052#64), (11, U 6128411473006802146#64), (12, U 8268148722764581231#64), (13, U 9286055187155687089#64), (14, U 11230858885718282805#64), (15, U 13951009754708518548#64), (16, U 16472876342353939154#64), (17, U 17275323862435702243#64), (18, U 1135362057144423861#64), (19, U 2597628984639134821#64), (20, U 3308224258029322869#64), (21, U 5365058923640841347#64), (22, U 6679025012923562964#64), (23, U 8573033837759648693#64), (24, U 10970295158949994411#64), (25, U 12119686244451234320#64), (26, U 12683024718118986047#64), (27, U 13788192230050041572#64), (28, U 14330467153632333762#64), (29, U 15395433587784984357#64), (30, U 489312712824947311#64), (31, U 1452737877330783856#64), (32, U 2861767655752347644#64), (33, U 3322285676063803686#64), (34, U 5560940570517711597#64), (35, U 5996557281743188959#64), (36, U 7280758554555802590#64), (37, U 8532644243296465576#64), (38, U 9350256976987008742#64), (39, U 10552545826968843579#64), (40, U 11727347734174303076#64), (41, U 12113106623233404929#64), (42, U 14000437183269869457#64), (43, U 14369950271660146224#64), (44, U 15101387698204529176#64), (45, U 15463397548674623760#64), (46, U 17586052441742319658#64), (47, U 1182934255886127544#64), (48, U 1847814050463011016#64), (49, U 2177327727835720531#64), (50, U 2830643537854262169#64), (51, U 3796741975233480872#64), (52, U 4115178125766777443#64), (53, U 5681478168544905931#64), (54, U 6601373596472566643#64), (55, U 7507060721942968483#64), (56, U 8399075790359081724#64), (57, U 8693463985226723168#64), (58, U 9568029438360202098#64), (59, U 10144078919501101548#64), (60, U 10430055236837252648#64), (61, U 11840083180663258601#64), (62, U 13761210420658862357#64), (63, U 14299343276471374635#64), (64, U 14566680578165727644#64), (65, U 15097957966210449927#64), (66, U 16922976911328602910#64), (67, U 17689382322260857208#64), (68, U 500013540394364858#64), (69, U 748580250866718886#64), (70, U 1242879168328830382#64), (71, U 1977374033974150939#64), (72, U 2944078676154940804#64), (73, U 3659926193048069267#64), (74, U 4368137639120453308#64), (75, U 4836135668995329356#64), (76, U 5532061633213252278#64), (77, U 6448918945643986474#64), (78, U 6902733635092675308#64), (79, U 7801388544844847127#64)]) rfl (build31 _ _ _ _ _ _ _ _ _ _ _ _ _ _ _ _ _ _ _ _ _ _ _ _ _ _ _ _ _ _ _ _ _ _ _ _ _ _ _ _ _ _ _ _ _ _ _ _ _ _ _ _ _ _ _ _ _ _ _ _ _ _ _ _ _ _ _ _ _ _ _ _ _ _ _ _ _ _ _ _)) ?_; clear hS; intro a hS
  refine s_storeAll hS hM rfl rfl (j := 0) rfl sz31 cells_len cells_len cU_one ?_; clear hS hM; intro a w hS hM
  refine s_nil ?_
  refine k_seq ?_
  refine c_ret ?_
  exact k_res1 hS rfl (RV.row rfl (hM.have_ _ (mem_of_get (j := 0) rfl)) Try.underlying31 rfl (by rw [sz31]; exact congrArg some cells_len.symm)) ⟨rfl, hM.done ⟨hb0, trivial⟩⟩

set_option maxRecDepth 100000 in
theorem primes_ok (n : Int) (w0 : World) : Fresh Try.prog 13 #[.int .i64 n] w0 22 (prC (pn n)) := by
  refine ⟨by kernel_rfl, ?_⟩
  refine calls_sym Try.func13 rfl (by kernel_rfl) ?_
  intro a hS
  have hM : Mem w0 w0 [] := Mem.refl w0
  refine c_seq ?_
  refine c_region ?_
  refine s_val hS (by decide) rfl rfl (r_assign hS rfl) ?_; clear hS; intro a hS
  refine s_nil ?_
  refine k_seq ?_
  refine c_scope ?_
  refine c_seq ?_
  refine c_region ?_
  refine s_val hS (by decide) rfl rfl (r_move hS rfl) ?_; clear hS; intro a hS
  refine s_val hS (by decide) rfl rfl (r_min hS rfl (show ev _ _ = some (N 100) from rfl) rfl) ?_; clear hS; intro a hS
  refine s_val hS (by decide) rfl rfl (r_max hS (show ev _ _ = some (N 0) from rfl) rfl (pn_max' n)) ?_; clear hS; intro a hS
  refine s_val hS (by decide) rfl rfl (r_assign hS rfl) ?_; clear hS; intro a hS
  refine s_nil ?_
  refine k_seq ?_
  refine c_seq ?_
  refine c_region ?_
  refine s_val hS (by decide) rfl rfl (r_assign hS rfl) ?_; clear hS; intro a hS
  refine s_nil ?_
  refine k_seq ?_
  refine c_seq ?_
  refine c_label ?_
  refine k_seq ?_
  refine c_seq ?_
  refine c_seq ?_
  refine c_region ?_
  refine s_val hS (by decide) rfl rfl (r_assign hS (show ev _ _ = some (U 2#64) from rfl)) ?_; clear hS; intro a hS
  refine s_nil ?_
  refine k_seq ?_
  refine c_block ?_
  refine c_loop (σ := Nat × Value × List Blk) (fun s a w => (2 ≤ s.1 ∧ s.1 ≤ 542 ∧ cnt s.1 ≤ pn n ∧ Own w0.heap.size 22 s.2.1 (prC (cnt s.1)) s.2.2) ∧ Slots a 32 (env [(0, N (pn n)), (3, s.2.1), (4, U (BitVec.ofNat 64 s.1))]) ∧ Mem w0 w (s.2.2)) (fun s => 542 - s.1) (2, .slice none 0 0, []) ⟨⟨by decide, by decide, by rw [cnt_two]; exact Nat.zero_le _, by rw [cnt_two]; exact Own.nil⟩, hS.to _ ⟨rfl, rfl, rfl, trivial⟩, hM⟩ ?_
  clear hS hM; rintro ⟨p, v, Lx⟩ a w ⟨hk, hS, hM⟩
  obtain ⟨hp2, hp5, hpn, ho⟩ := hk; dsimp only at hp2 hp5 hpn ho hS hM
  refine c_seq ?_
  refine c_seq ?_
  refine c_region ?_
  refine s_val hS (by decide) rfl rfl (r_move hS rfl) ?_; clear hS; intro a hS
  refine s_val hS (by decide) rfl rfl (r_lenR hS rfl (own_pr (L := []) rfl ho hM) Try.underlying26) ?_; clear hS; intro a hS
  refine s_val hS (by decide) rfl rfl (r_move hS rfl) ?_; clear hS; intro a hS
  refine s_val hS (by decide) rfl rfl (r_bv hS rfl rfl gN (b_lssN _ _ _)) ?_; clear hS; intro a hS
  refine s_nil ?_
  refine k_seq ?_
  refine c_cond hS rfl (fun hc => ?_) (fun hc => ?_)
  · have hk1 := of_decide_eq_true hc; have hp6 : p < 542 := lt542 hp5 hk1 (pn_le n)
    refine c_skip ?_
    refine k_seq ?_
    refine c_seq ?_
    refine c_block ?_
    refine c_seq ?_
    refine c_seq ?_
    refine c_region ?_
    refine s_val hS (by decide) rfl rfl (r_move hS rfl) ?_; clear hS; intro a hS
    refine s_val hS (by decide) rfl rfl (r_lenR hS rfl (own_pr (L := []) rfl ho hM) Try.underlying26) ?_; clear hS; intro a hS
    refine s_val hS (by decide) rfl rfl (r_move hS (show ev _ _ = some (N 0) from rfl)) ?_; clear hS; intro a hS
    refine s_nil ?_
    refine k_seq ?_
    refine c_block ?_
    refine c_loop (σ := Nat) (fun i a w => (i ≤ cnt p ∧ ∀ k, k < i → ¬ p % pvN k = 0) ∧ Slots a 32 (env [(0, N (pn n)), (3, v), (4, U (BitVec.ofNat 64 p)), (16, v), (17, N (cnt p)), (18, N i)]) ∧ Mem w0 w (Lx)) (fun i => cnt p - i) (0) ⟨⟨Nat.zero_le _, fun k hk => absurd hk (Nat.not_lt_zero k)⟩, hS.to _ ⟨rfl, rfl, rfl, rfl, rfl, rfl, trivial⟩, hM⟩ ?_
    clear hS hM; rintro i a w ⟨hk, hS, hM⟩
    have hc100 := cnt_le p
    refine c_seq ?_
    refine c_region ?_
    refine s_val hS (by decide) rfl rfl (r_bv hS rfl rfl gN (b_lssN _ _ _)) ?_; clear hS; intro a hS
    refine s_nil ?_
    refine k_seq ?_
    refine c_seq ?_
    refine c_cond hS rfl (fun hc => ?_) (fun hc => ?_)
    · have hk2 := of_decide_eq_true hc
      refine c_skip ?_
      refine k_seq ?_
      refine c_seq ?_
      refine c_block ?_
      refine c_seq ?_
      refine c_region ?_
      refine s_val hS (by decide) rfl rfl (r_indexR hS rfl (own_pr (L := []) rfl ho hM) rfl Try.underlying26 sz22 (by omega)) ?_; clear hS; intro a hS
      refine s_val hS (by decide) rfl rfl (r_loadR hS rfl (own_pr (L := []) rfl ho hM) (by omega) Try.underlying22 rfl) ?_; clear hS; intro a hS
      refine s_val hS (by decide) rfl rfl (r_assign hS rfl) ?_; clear hS; intro a hS
      refine s_nil ?_
      refine k_seq ?_
      refine c_seq ?_
      refine c_region ?_
      refine s_val hS (by decide) rfl rfl (r_move hS rfl) ?_; clear hS; intro a hS
      refine s_val hS (by decide) rfl rfl (r_move hS rfl) ?_; clear hS; intro a hS
      refine s_val hS (by decide) rfl rfl (r_bv hS rfl rfl gU (b_remU _ _ _ (pv_ne (by have := cnt_le p; omega)))) ?_; clear hS; intro a hS
      refine s_val hS (by decide) rfl rfl (r_bv hS rfl (show ev _ _ = some (U 0#64) from rfl) gU (b_eqlU _ _ _)) ?_; clear hS; intro a hS
      refine s_nil ?_
      refine k_seq ?_
      refine c_cond hS rfl (fun hc => ?_) (fun hc => ?_)
      · have hmod : p % pvN i = 0 := (mod_pv (by omega) (by have := cnt_le p; omega)).1 (of_decide_eq_true hc); have hck := chk_no hk2 hmod
        refine c_exit ?_
        refine k_iny rfl ?_
        refine k_thenx ?_
        refine k_thenx ?_
        refine k_iny rfl ?_
        refine k_thenx ?_
        refine k_inx ?_
        refine k_seq ?_
        refine c_region ?_
        refine s_val hS (by decide) rfl rfl (r_move hS rfl) ?_; clear hS; intro a hS
        refine s_val hS (by decide) rfl rfl (r_bv hS rfl (show ev _ _ = some (U 1#64) from rfl) gU (b_addU _ _ _)) ?_; clear hS; intro a hS
        refine s_val hS (by decide) rfl rfl (r_assign hS rfl) ?_; clear hS; intro a hS
        refine s_nil ?_
        refine k_then ?_
        refine ⟨(p + 1, _, _), (by show 542 - (p + 1) < 542 - p; omega), (by first | exact ⟨(by show 2 ≤ p + 1; omega), (by show p + 1 ≤ 542; omega), (by show cnt (p + 1) ≤ pn n; rw [prime_no hp2 hp6 hck]; exact hpn), ho.congr (by rw [prime_no hp2 hp6 hck])⟩ | exact ⟨(by show 2 ≤ p + 1; omega), (by show p + 1 ≤ 542; omega), (by show cnt (p + 1) ≤ pn n; rw [(prime_yes hp2 hp6 hck).2]; exact hk1), ho.congr (prC_next hp2 hp6 hck)⟩), hS.to _ ⟨rfl, rfl, congrArg (fun q => some (U q)) (u_succ _), trivial⟩, (by first | exact hM | exact hM.drop hb29)⟩
      · have hmod : ¬ p % pvN i = 0 := fun e => of_decide_eq_false hc ((mod_pv (by omega) (by have := cnt_le p; omega)).2 e)
        refine c_skip ?_
        refine k_in ?_
        refine k_seq ?_
        refine c_region ?_
        refine s_val hS (by decide) rfl rfl (r_bv hS rfl (show ev _ _ = some (N 1) from rfl) gN (b_addN _ _ _ (by omega))) ?_; clear hS; intro a hS
        refine s_val hS (by decide) rfl rfl (r_move hS rfl) ?_; clear hS; intro a hS
        refine s_nil ?_
        refine k_then ?_
        refine ⟨i + 1, by omega, ⟨hk2, fun k h => by rcases Nat.lt_or_ge k i with q | q; exact hk.2 k q; rw [show k = i by omega]; exact hmod⟩, hS.to _ ⟨rfl, rfl, rfl, rfl, rfl, rfl, trivial⟩, hM⟩
    · obtain rfl : i = cnt p := (by have := of_decide_eq_false hc; omega); have hck := chk_yes hk.2
      refine c_exit ?_
      refine k_thenx ?_
      refine k_thenx ?_
      refine k_inx ?_
      refine k_seq ?_
      refine c_region ?_
      refine s_val hS (by decide) rfl rfl (r_move hS rfl) ?_; clear hS; intro a hS
      refine s_val hS (by decide) rfl rfl (r_move hS rfl) ?_; clear hS; intro a hS
      refine s_buildSlice hS hM (by decide) (vs := [(0, U _)]) rfl (row26_1 _) ?_; clear hS hM; intro a b29 w hb29 hS hM
      refine s_append hS [_] (Lx := Lx) hM (by decide) rfl rfl elem26 ho ((row1 hM).src Try.underlying26 (fun _ _ => rfl)) (by rw [show (prC (cnt p)).length = cnt p from cells_len]; have := cnt_le p; omega) ?_; clear hS hM ho; intro a w v Lx ho hS hM
      refine s_val hS (by decide) rfl rfl (r_assign hS rfl) ?_; clear hS; intro a hS
      refine s_nil ?_
      refine k_in ?_
      refine k_seq ?_
      refine c_region ?_
      refine s_val hS (by decide) rfl rfl (r_move hS rfl) ?_; clear hS; intro a hS
      refine s_val hS (by decide) rfl rfl (r_bv hS rfl (show ev _ _ = some (U 1#64) from rfl) gU (b_addU _ _ _)) ?_; clear hS; intro a hS
      refine s_val hS (by decide) rfl rfl (r_assign hS rfl) ?_; clear hS; intro a hS
      refine s_nil ?_
      refine k_then ?_
      refine ⟨(p + 1, _, _), (by show 542 - (p + 1) < 542 - p; omega), (by first | exact ⟨(by show 2 ≤ p + 1; omega), (by show p + 1 ≤ 542; omega), (by show cnt (p + 1) ≤ pn n; rw [prime_no hp2 hp6 hck]; exact hpn), ho.congr (by rw [prime_no hp2 hp6 hck])⟩ | exact ⟨(by show 2 ≤ p + 1; omega), (by show p + 1 ≤ 542; omega), (by show cnt (p + 1) ≤ pn n; rw [(prime_yes hp2 hp6 hck).2]; exact hk1), ho.congr (prC_next hp2 hp6 hck)⟩), hS.to _ ⟨rfl, rfl, congrArg (fun q => some (U q)) (u_succ _), trivial⟩, (by first | exact hM | exact hM.drop hb29)⟩
  · have hend : cnt p = pn n := by have := of_decide_eq_false hc; omega
    refine c_exit ?_
    refine k_thenx ?_
    refine k_thenx ?_
    refine k_inx ?_
    refine k_seq ?_
    refine c_seq ?_
    refine c_region ?_
    refine s_val hS (by decide) rfl rfl (r_move hS rfl) ?_; clear hS; intro a hS
    refine s_val hS (by decide) rfl rfl (r_assign hS rfl) ?_; clear hS; intro a hS
    refine s_nil ?_
    refine k_seq ?_
    refine c_ret ?_
    refine k_scr ?_
    exact k_res1 hS rfl (RV.tmp rfl) ⟨_, _, rfl, ho.congr (by rw [hend]), hM⟩

set_option maxRecDepth 100000 in
theorem rprimes_ok (n : Int) (w0 : World) : Fresh Try.prog 14 #[.int .i64 n] w0 22 (prC (pn n)) := by
  refine ⟨by kernel_rfl, ?_⟩
  refine calls_sym Try.func14 rfl (by kernel_rfl) ?_
  intro a hS
  have hM : Mem w0 w0 [] := Mem.refl w0
  refine c_seq ?_
  refine c_region ?_
  refine s_val hS (by decide) rfl rfl (r_assign hS rfl) ?_; clear hS; intro a hS
  refine s_nil ?_
  refine k_seq ?_
  refine c_seq ?_
  refine c_seq ?_
  refine c_region ?_
  refine s_val hS (by decide) rfl rfl (r_move hS rfl) ?_; clear hS; intro a hS
  refine s_val hS (by decide) rfl rfl (r_bv hS rfl (show ev _ _ = some (.int .i64 (100)) from rfl) gZ (b_gtrZ _ _ _)) ?_; clear hS; intro a hS
  refine s_nil ?_
  refine k_seq ?_
  refine c_cond hS rfl (fun hc => ?_) (fun hc => ?_)
  · have h9 := of_decide_eq_true hc
    refine c_region ?_
    refine s_val hS (by decide) rfl rfl (r_assign hS (show ev _ _ = some (N 100) from rfl)) ?_; clear hS; intro a hS
    refine s_nil ?_
    refine k_seq ?_
    refine c_seq ?_
    refine c_region ?_
    refine s_val hS (by decide) rfl rfl (r_assign hS rfl) ?_; clear hS; intro a hS
    refine s_nil ?_
    refine k_seq ?_
    refine c_seq ?_
    refine c_seq ?_
    refine c_region ?_
    refine s_val hS (by decide) rfl rfl (r_assign hS (show ev _ _ = some (U 2#64) from rfl)) ?_; clear hS; intro a hS
    refine s_nil ?_
    refine k_seq ?_
    refine c_block ?_
    refine c_loop (σ := Nat × Value × List Blk) (fun s a w => (2 ≤ s.1 ∧ s.1 ≤ 542 ∧ cnt s.1 ≤ pn n ∧ Own w0.heap.size 22 s.2.1 (prC (cnt s.1)) s.2.2) ∧ Slots a 33 (env [(0, .int .i64 (mn n)), (3, s.2.1), (4, U (BitVec.ofNat 64 s.1))]) ∧ Mem w0 w (s.2.2)) (fun s => 542 - s.1) (2, .slice none 0 0, []) ⟨⟨by decide, by decide, by rw [cnt_two]; exact Nat.zero_le _, by rw [cnt_two]; exact Own.nil⟩, hS.to _ ⟨congrArg (fun q => some (Value.int .i64 q)) (by unfold mn; split <;> omega), rfl, rfl, trivial⟩, hM⟩ ?_
    clear hS hM; rintro ⟨p, v, Lx⟩ a w ⟨hk, hS, hM⟩
    obtain ⟨hp2, hp5, hpn, ho⟩ := hk; dsimp only at hp2 hp5 hpn ho hS hM
    refine c_seq ?_
    refine c_seq ?_
    refine c_region ?_
    refine s_val hS (by decide) rfl rfl (r_move hS rfl) ?_; clear hS; intro a hS
    refine s_val hS (by decide) rfl rfl (r_lenR hS rfl (own_pr (L := []) rfl ho hM) Try.underlying26) ?_; clear hS; intro a hS
    refine s_val hS (by decide) rfl rfl (r_move hS rfl) ?_; clear hS; intro a hS
    refine s_val hS (by decide) rfl rfl (r_bv hS rfl rfl gZ (b_lssZ _ _ _)) ?_; clear hS; intro a hS
    refine s_nil ?_
    refine k_seq ?_
    refine c_cond hS rfl (fun hc => ?_) (fun hc => ?_)
    · have hk1 := (mn_pn n _).1 (of_decide_eq_true hc); have hp6 : p < 542 := lt542 hp5 hk1 (pn_le n)
      refine c_skip ?_
      refine k_seq ?_
      refine c_seq ?_
      refine c_block ?_
      refine c_seq ?_
      refine c_region ?_
      refine s_val hS (by decide) rfl rfl (r_assign hS rfl) ?_; clear hS; intro a hS
      refine s_nil ?_
      refine k_seq ?_
      refine c_seq ?_
      refine c_seq ?_
      refine c_region ?_
      refine s_val hS (by decide) rfl rfl (r_assign hS (show ev _ _ = some (U 2#64) from rfl)) ?_; clear hS; intro a hS
      refine s_nil ?_
      refine k_seq ?_
      refine c_block ?_
      refine c_loop (σ := Nat) (fun d a w => (2 ≤ d ∧ d ≤ p) ∧ Slots a 33 (env [(0, .int .i64 (mn n)), (3, v), (4, U (BitVec.ofNat 64 p)), (5, .bool (nd p d)), (6, U (BitVec.ofNat 64 d))]) ∧ Mem w0 w (Lx)) (fun d => p - d) (2) ⟨⟨Nat.le_refl _, hp2⟩, hS.to _ ⟨rfl, rfl, rfl, congrArg (fun q => some (Value.bool q)) (nd_two p).symm, rfl, trivial⟩, hM⟩ ?_
      clear hS hM; rintro d a w ⟨hk, hS, hM⟩
      refine c_seq ?_
      refine c_seq ?_
      refine c_region ?_
      refine s_val hS (by decide) rfl rfl (r_move hS rfl) ?_; clear hS; intro a hS
      refine s_val hS (by decide) rfl rfl (r_move hS rfl) ?_; clear hS; intro a hS
      refine s_val hS (by decide) rfl rfl (r_bv hS rfl rfl gU (b_lssU _ _ _)) ?_; clear hS; intro a hS
      refine s_nil ?_
      refine k_seq ?_
      refine c_cond hS rfl (fun hc => ?_) (fun hc => ?_)
      · have hk2 : d < p := by have := of_decide_eq_true hc; rwa [ofNat_toNat_lt (by omega), ofNat_toNat_lt (by omega)] at this
        refine c_skip ?_
        refine k_seq ?_
        refine c_seq ?_
        refine c_block ?_
        cases hnd : nd p d
        · rw [hnd] at hS
          refine c_region ?_
          refine s_val hS (by decide) rfl rfl (r_move hS rfl) ?_; clear hS; intro a hS
          refine s_val hS (by decide) rfl rfl (r_move hS rfl) ?_; clear hS; intro a hS
          refine s_skip hS (by decide) rfl rfl rfl rfl rfl ?_; clear hS; intro a hS
          refine s_skip hS (by decide) rfl rfl rfl rfl rfl ?_; clear hS; intro a hS
          refine s_skip hS (by decide) rfl rfl rfl rfl rfl ?_; clear hS; intro a hS
          refine s_skip hS (by decide) rfl rfl rfl rfl rfl ?_; clear hS; intro a hS
          refine s_val hS (by decide) rfl rfl (r_pick hS rfl rfl) ?_; clear hS; intro a hS
          refine s_val hS (by decide) rfl rfl (r_assign hS rfl) ?_; clear hS; intro a hS
          refine s_nil ?_
          refine k_in ?_
          refine k_seq ?_
          refine c_region ?_
          refine s_val hS (by decide) rfl rfl (r_move hS rfl) ?_; clear hS; intro a hS
          refine s_val hS (by decide) rfl rfl (r_bv hS rfl (show ev _ _ = some (U 1#64) from rfl) gU (b_addU _ _ _)) ?_; clear hS; intro a hS
          refine s_val hS (by decide) rfl rfl (r_assign hS rfl) ?_; clear hS; intro a hS
          refine s_nil ?_
          refine k_then ?_
          refine ⟨d + 1, by omega, ⟨by omega, hk2⟩, hS.to _ ⟨rfl, rfl, rfl, (by rw [nd_succ hk.1 (by omega) (by omega), hnd]; rfl), congrArg (fun q => some (U q)) (u_succ _), trivial⟩, hM⟩
        · rw [hnd] at hS
          refine c_region ?_
          refine s_val hS (by decide) rfl rfl (r_move hS rfl) ?_; clear hS; intro a hS
          refine s_val hS (by decide) rfl rfl (r_move hS rfl) ?_; clear hS; intro a hS
          refine s_valg hS (by decide) rfl rfl rfl rfl rfl (r_move hS rfl) ?_; clear hS; intro a hS
          refine s_valg hS (by decide) rfl rfl rfl rfl rfl (r_move hS rfl) ?_; clear hS; intro a hS
          refine s_valg hS (by decide) rfl rfl rfl rfl rfl (r_bv hS rfl rfl gU (b_remU _ _ _ (ofNat_ne hk.1 (by omega)))) ?_; clear hS; intro a hS
          refine s_valg hS (by decide) rfl rfl rfl rfl rfl (r_bv hS rfl (show ev _ _ = some (U 0#64) from rfl) gU (b_neqU _ _ _)) ?_; clear hS; intro a hS
          refine s_val hS (by decide) rfl rfl (r_pick hS rfl rfl) ?_; clear hS; intro a hS
          refine s_val hS (by decide) rfl rfl (r_assign hS rfl) ?_; clear hS; intro a hS
          refine s_nil ?_
          refine k_in ?_
          refine k_seq ?_
          refine c_region ?_
          refine s_val hS (by decide) rfl rfl (r_move hS rfl) ?_; clear hS; intro a hS
          refine s_val hS (by decide) rfl rfl (r_bv hS rfl (show ev _ _ = some (U 1#64) from rfl) gU (b_addU _ _ _)) ?_; clear hS; intro a hS
          refine s_val hS (by decide) rfl rfl (r_assign hS rfl) ?_; clear hS; intro a hS
          refine s_nil ?_
          refine k_then ?_
          refine ⟨d + 1, by omega, ⟨by omega, hk2⟩, hS.to _ ⟨rfl, rfl, rfl, (by rw [nd_succ hk.1 (by omega) (by omega), hnd]; rfl), congrArg (fun q => some (U q)) (u_succ _), trivial⟩, hM⟩
      · have hk2 : d = p := (by have := of_decide_eq_false hc; rw [ofNat_toNat_lt (by omega), ofNat_toNat_lt (by omega)] at this; omega); rw [hk2] at hS
        refine c_exit ?_
        refine k_thenx ?_
        refine k_thenx ?_
        refine k_inx ?_
        refine k_seq ?_
        refine c_seq ?_
        refine c_region ?_
        refine s_val hS (by decide) rfl rfl (r_move hS rfl) ?_; clear hS; intro a hS
        refine s_nil ?_
        refine k_seq ?_
        refine c_cond hS rfl (fun hc => ?_) (fun hc => ?_)
        · have hck : chk p = true := by rw [← nd_chk hp2 hp6]; exact hc
          refine c_region ?_
          refine s_val hS (by decide) rfl rfl (r_move hS rfl) ?_; clear hS; intro a hS
          refine s_val hS (by decide) rfl rfl (r_move hS rfl) ?_; clear hS; intro a hS
          refine s_buildSlice hS hM (by decide) (vs := [(0, U _)]) rfl (row26_1 _) ?_; clear hS hM; intro a b30 w hb30 hS hM
          refine s_append hS [_] (Lx := Lx) hM (by decide) rfl rfl elem26 ho ((row1 hM).src Try.underlying26 (fun _ _ => rfl)) (by rw [show (prC (cnt p)).length = cnt p from cells_len]; have := cnt_le p; omega) ?_; clear hS hM ho; intro a w v Lx ho hS hM
          refine s_val hS (by decide) rfl rfl (r_assign hS rfl) ?_; clear hS; intro a hS
          refine s_nil ?_
          refine k_in ?_
          refine k_seq ?_
          refine c_region ?_
          refine s_val hS (by decide) rfl rfl (r_move hS rfl) ?_; clear hS; intro a hS
          refine s_val hS (by decide) rfl rfl (r_bv hS rfl (show ev _ _ = some (U 1#64) from rfl) gU (b_addU _ _ _)) ?_; clear hS; intro a hS
          refine s_val hS (by decide) rfl rfl (r_assign hS rfl) ?_; clear hS; intro a hS
          refine s_nil ?_
          refine k_then ?_
          refine ⟨(p + 1, _, _), (by show 542 - (p + 1) < 542 - p; omega), (by first | exact ⟨(by show 2 ≤ p + 1; omega), (by show p + 1 ≤ 542; omega), (by show cnt (p + 1) ≤ pn n; rw [prime_no hp2 hp6 hck]; exact hpn), ho.congr (by rw [prime_no hp2 hp6 hck])⟩ | exact ⟨(by show 2 ≤ p + 1; omega), (by show p + 1 ≤ 542; omega), (by show cnt (p + 1) ≤ pn n; rw [(prime_yes hp2 hp6 hck).2]; exact hk1), ho.congr (prC_next hp2 hp6 hck)⟩), hS.to _ ⟨rfl, rfl, congrArg (fun q => some (U q)) (u_succ _), trivial⟩, (by first | exact hM | exact hM.drop hb30)⟩
        · have hck : chk p = false := by rw [← nd_chk hp2 hp6]; exact hc
          refine c_skip ?_
          refine k_in ?_
          refine k_seq ?_
          refine c_region ?_
          refine s_val hS (by decide) rfl rfl (r_move hS rfl) ?_; clear hS; intro a hS
          refine s_val hS (by decide) rfl rfl (r_bv hS rfl (show ev _ _ = some (U 1#64) from rfl) gU (b_addU _ _ _)) ?_; clear hS; intro a hS
          refine s_val hS (by decide) rfl rfl (r_assign hS rfl) ?_; clear hS; intro a hS
          refine s_nil ?_
          refine k_then ?_
          refine ⟨(p + 1, _, _), (by show 542 - (p + 1) < 542 - p; omega), (by first | exact ⟨(by show 2 ≤ p + 1; omega), (by show p + 1 ≤ 542; omega), (by show cnt (p + 1) ≤ pn n; rw [prime_no hp2 hp6 hck]; exact hpn), ho.congr (by rw [prime_no hp2 hp6 hck])⟩ | exact ⟨(by show 2 ≤ p + 1; omega), (by show p + 1 ≤ 542; omega), (by show cnt (p + 1) ≤ pn n; rw [(prime_yes hp2 hp6 hck).2]; exact hk1), ho.congr (prC_next hp2 hp6 hck)⟩), hS.to _ ⟨rfl, rfl, congrArg (fun q => some (U q)) (u_succ _), trivial⟩, (by first | exact hM | exact hM.drop hb30)⟩
    · have hend : cnt p = pn n := by have h8 := of_decide_eq_false hc; rw [mn_pn] at h8; omega
      refine c_exit ?_
      refine k_thenx ?_
      refine k_thenx ?_
      refine k_inx ?_
      refine k_seq ?_
      refine c_seq ?_
      refine c_region ?_
      refine s_val hS (by decide) rfl rfl (r_move hS rfl) ?_; clear hS; intro a hS
      refine s_val hS (by decide) rfl rfl (r_assign hS rfl) ?_; clear hS; intro a hS
      refine s_nil ?_
      refine k_seq ?_
      refine c_ret ?_
      exact k_res1 hS rfl (RV.tmp rfl) ⟨_, _, rfl, ho.congr (by rw [hend]), hM⟩
  · have h9 := of_decide_eq_false hc
    refine c_skip ?_
    refine k_seq ?_
    refine c_seq ?_
    refine c_region ?_
    refine s_val hS (by decide) rfl rfl (r_assign hS rfl) ?_; clear hS; intro a hS
    refine s_nil ?_
    refine k_seq ?_
    refine c_seq ?_
    refine c_seq ?_
    refine c_region ?_
    refine s_val hS (by decide) rfl rfl (r_assign hS (show ev _ _ = some (U 2#64) from rfl)) ?_; clear hS; intro a hS
    refine s_nil ?_
    refine k_seq ?_
    refine c_block ?_
    refine c_loop (σ := Nat × Value × List Blk) (fun s a w => (2 ≤ s.1 ∧ s.1 ≤ 542 ∧ cnt s.1 ≤ pn n ∧ Own w0.heap.size 22 s.2.1 (prC (cnt s.1)) s.2.2) ∧ Slots a 33 (env [(0, .int .i64 (mn n)), (3, s.2.1), (4, U (BitVec.ofNat 64 s.1))]) ∧ Mem w0 w (s.2.2)) (fun s => 542 - s.1) (2, .slice none 0 0, []) ⟨⟨by decide, by decide, by rw [cnt_two]; exact Nat.zero_le _, by rw [cnt_two]; exact Own.nil⟩, hS.to _ ⟨congrArg (fun q => some (Value.int .i64 q)) (by unfold mn; split <;> omega), rfl, rfl, trivial⟩, hM⟩ ?_
    clear hS hM; rintro ⟨p, v, Lx⟩ a w ⟨hk, hS, hM⟩
    obtain ⟨hp2, hp5, hpn, ho⟩ := hk; dsimp only at hp2 hp5 hpn ho hS hM
    refine c_seq ?_
    refine c_seq ?_
    refine c_region ?_
    refine s_val hS (by decide) rfl rfl (r_move hS rfl) ?_; clear hS; intro a hS
    refine s_val hS (by decide) rfl rfl (r_lenR hS rfl (own_pr (L := []) rfl ho hM) Try.underlying26) ?_; clear hS; intro a hS
    refine s_val hS (by decide) rfl rfl (r_move hS rfl) ?_; clear hS; intro a hS
    refine s_val hS (by decide) rfl rfl (r_bv hS rfl rfl gZ (b_lssZ _ _ _)) ?_; clear hS; intro a hS
    refine s_nil ?_
    refine k_seq ?_
    refine c_cond hS rfl (fun hc => ?_) (fun hc => ?_)
    · have hk1 := (mn_pn n _).1 (of_decide_eq_true hc); have hp6 : p < 542 := lt542 hp5 hk1 (pn_le n)
      refine c_skip ?_
      refine k_seq ?_
      refine c_seq ?_
      refine c_block ?_
      refine c_seq ?_
      refine c_region ?_
      refine s_val hS (by decide) rfl rfl (r_assign hS rfl) ?_; clear hS; intro a hS
      refine s_nil ?_
      refine k_seq ?_
      refine c_seq ?_
      refine c_seq ?_
      refine c_region ?_
      refine s_val hS (by decide) rfl rfl (r_assign hS (show ev _ _ = some (U 2#64) from rfl)) ?_; clear hS; intro a hS
      refine s_nil ?_
      refine k_seq ?_
      refine c_block ?_
      refine c_loop (σ := Nat) (fun d a w => (2 ≤ d ∧ d ≤ p) ∧ Slots a 33 (env [(0, .int .i64 (mn n)), (3, v), (4, U (BitVec.ofNat 64 p)), (5, .bool (nd p d)), (6, U (BitVec.ofNat 64 d))]) ∧ Mem w0 w (Lx)) (fun d => p - d) (2) ⟨⟨Nat.le_refl _, hp2⟩, hS.to _ ⟨rfl, rfl, rfl, congrArg (fun q => some (Value.bool q)) (nd_two p).symm, rfl, trivial⟩, hM⟩ ?_
      clear hS hM; rintro d a w ⟨hk, hS, hM⟩
      refine c_seq ?_
      refine c_seq ?_
      refine c_region ?_
      refine s_val hS (by decide) rfl rfl (r_move hS rfl) ?_; clear hS; intro a hS
      refine s_val hS (by decide) rfl rfl (r_move hS rfl) ?_; clear hS; intro a hS
      refine s_val hS (by decide) rfl rfl (r_bv hS rfl rfl gU (b_lssU _ _ _)) ?_; clear hS; intro a hS
      refine s_nil ?_
      refine k_seq ?_
      refine c_cond hS rfl (fun hc => ?_) (fun hc => ?_)
      · have hk2 : d < p := by have := of_decide_eq_true hc; rwa [ofNat_toNat_lt (by omega), ofNat_toNat_lt (by omega)] at this
        refine c_skip ?_
        refine k_seq ?_
        refine c_seq ?_
        refine c_block ?_
        cases hnd : nd p d
        · rw [hnd] at hS
          refine c_region ?_
          refine s_val hS (by decide) rfl rfl (r_move hS rfl) ?_; clear hS; intro a hS
          refine s_val hS (by decide) rfl rfl (r_move hS rfl) ?_; clear hS; intro a hS
          refine s_skip hS (by decide) rfl rfl rfl rfl rfl ?_; clear hS; intro a hS
          refine s_skip hS (by decide) rfl rfl rfl rfl rfl ?_; clear hS; intro a hS
          refine s_skip hS (by decide) rfl rfl rfl rfl rfl ?_; clear hS; intro a hS
          refine s_skip hS (by decide) rfl rfl rfl rfl rfl ?_; clear hS; intro a hS
          refine s_val hS (by decide) rfl rfl (r_pick hS rfl rfl) ?_; clear hS; intro a hS
          refine s_val hS (by decide) rfl rfl (r_assign hS rfl) ?_; clear hS; intro a hS
          refine s_nil ?_
          refine k_in ?_
          refine k_seq ?_
          refine c_region ?_
          refine s_val hS (by decide) rfl rfl (r_move hS rfl) ?_; clear hS; intro a hS
          refine s_val hS (by decide) rfl rfl (r_bv hS rfl (show ev _ _ = some (U 1#64) from rfl) gU (b_addU _ _ _)) ?_; clear hS; intro a hS
          refine s_val hS (by decide) rfl rfl (r_assign hS rfl) ?_; clear hS; intro a hS
          refine s_nil ?_
          refine k_then ?_
          refine ⟨d + 1, by omega, ⟨by omega, hk2⟩, hS.to _ ⟨rfl, rfl, rfl, (by rw [nd_succ hk.1 (by omega) (by omega), hnd]; rfl), congrArg (fun q => some (U q)) (u_succ _), trivial⟩, hM⟩
        · rw [hnd] at hS
          refine c_region ?_
          refine s_val hS (by decide) rfl rfl (r_move hS rfl) ?_; clear hS; intro a hS
          refine s_val hS (by decide) rfl rfl (r_move hS rfl) ?_; clear hS; intro a hS
          refine s_valg hS (by decide) rfl rfl rfl rfl rfl (r_move hS rfl) ?_; clear hS; intro a hS
          refine s_valg hS (by decide) rfl rfl rfl rfl rfl (r_move hS rfl) ?_; clear hS; intro a hS
          refine s_valg hS (by decide) rfl rfl rfl rfl rfl (r_bv hS rfl rfl gU (b_remU _ _ _ (ofNat_ne hk.1 (by omega)))) ?_; clear hS; intro a hS
          refine s_valg hS (by decide) rfl rfl rfl rfl rfl (r_bv hS rfl (show ev _ _ = some (U 0#64) from rfl) gU (b_neqU _ _ _)) ?_; clear hS; intro a hS
          refine s_val hS (by decide) rfl rfl (r_pick hS rfl rfl) ?_; clear hS; intro a hS
          refine s_val hS (by decide) rfl rfl (r_assign hS rfl) ?_; clear hS; intro a hS
          refine s_nil ?_
          refine k_in ?_
          refine k_seq ?_
          refine c_region ?_
          refine s_val hS (by decide) rfl rfl (r_move hS rfl) ?_; clear hS; intro a hS
          refine s_val hS (by decide) rfl rfl (r_bv hS rfl (show ev _ _ = some (U 1#64) from rfl) gU (b_addU _ _ _)) ?_; clear hS; intro a hS
          refine s_val hS (by decide) rfl rfl (r_assign hS rfl) ?_; clear hS; intro a hS
          refine s_nil ?_
          refine k_then ?_
          refine ⟨d + 1, by omega, ⟨by omega, hk2⟩, hS.to _ ⟨rfl, rfl, rfl, (by rw [nd_succ hk.1 (by omega) (by omega), hnd]; rfl), congrArg (fun q => some (U q)) (u_succ _), trivial⟩, hM⟩
      · have hk2 : d = p := (by have := of_decide_eq_false hc; rw [ofNat_toNat_lt (by omega), ofNat_toNat_lt (by omega)] at this; omega); rw [hk2] at hS
        refine c_exit ?_
        refine k_thenx ?_
        refine k_thenx ?_
        refine k_inx ?_
        refine k_seq ?_
        refine c_seq ?_
        refine c_region ?_
        refine s_val hS (by decide) rfl rfl (r_move hS rfl) ?_; clear hS; intro a hS
        refine s_nil ?_
        refine k_seq ?_
        refine c_cond hS rfl (fun hc => ?_) (fun hc => ?_)
        · have hck : chk p = true := by rw [← nd_chk hp2 hp6]; exact hc
          refine c_region ?_
          refine s_val hS (by decide) rfl rfl (r_move hS rfl) ?_; clear hS; intro a hS
          refine s_val hS (by decide) rfl rfl (r_move hS rfl) ?_; clear hS; intro a hS
          refine s_buildSlice hS hM (by decide) (vs := [(0, U _)]) rfl (row26_1 _) ?_; clear hS hM; intro a b30 w hb30 hS hM
          refine s_append hS [_] (Lx := Lx) hM (by decide) rfl rfl elem26 ho ((row1 hM).src Try.underlying26 (fun _ _ => rfl)) (by rw [show (prC (cnt p)).length = cnt p from cells_len]; have := cnt_le p; omega) ?_; clear hS hM ho; intro a w v Lx ho hS hM
          refine s_val hS (by decide) rfl rfl (r_assign hS rfl) ?_; clear hS; intro a hS
          refine s_nil ?_
          refine k_in ?_
          refine k_seq ?_
          refine c_region ?_
          refine s_val hS (by decide) rfl rfl (r_move hS rfl) ?_; clear hS; intro a hS
          refine s_val hS (by decide) rfl rfl (r_bv hS rfl (show ev _ _ = some (U 1#64) from rfl) gU (b_addU _ _ _)) ?_; clear hS; intro a hS
          refine s_val hS (by decide) rfl rfl (r_assign hS rfl) ?_; clear hS; intro a hS
          refine s_nil ?_
          refine k_then ?_
          refine ⟨(p + 1, _, _), (by show 542 - (p + 1) < 542 - p; omega), (by first | exact ⟨(by show 2 ≤ p + 1; omega), (by show p + 1 ≤ 542; omega), (by show cnt (p + 1) ≤ pn n; rw [prime_no hp2 hp6 hck]; exact hpn), ho.congr (by rw [prime_no hp2 hp6 hck])⟩ | exact ⟨(by show 2 ≤ p + 1; omega), (by show p + 1 ≤ 542; omega), (by show cnt (p + 1) ≤ pn n; rw [(prime_yes hp2 hp6 hck).2]; exact hk1), ho.congr (prC_next hp2 hp6 hck)⟩), hS.to _ ⟨rfl, rfl, congrArg (fun q => some (U q)) (u_succ _), trivial⟩, (by first | exact hM | exact hM.drop hb30)⟩
        · have hck : chk p = false := by rw [← nd_chk hp2 hp6]; exact hc
          refine c_skip ?_
          refine k_in ?_
          refine k_seq ?_
          refine c_region ?_
          refine s_val hS (by decide) rfl rfl (r_move hS rfl) ?_; clear hS; intro a hS
          refine s_val hS (by decide) rfl rfl (r_bv hS rfl (show ev _ _ = some (U 1#64) from rfl) gU (b_addU _ _ _)) ?_; clear hS; intro a hS
          refine s_val hS (by decide) rfl rfl (r_assign hS rfl) ?_; clear hS; intro a hS
          refine s_nil ?_
          refine k_then ?_
          refine ⟨(p + 1, _, _), (by show 542 - (p + 1) < 542 - p; omega), (by first | exact ⟨(by show 2 ≤ p + 1; omega), (by show p + 1 ≤ 542; omega), (by show cnt (p + 1) ≤ pn n; rw [prime_no hp2 hp6 hck]; exact hpn), ho.congr (by rw [prime_no hp2 hp6 hck])⟩ | exact ⟨(by show 2 ≤ p + 1; omega), (by show p + 1 ≤ 542; omega), (by show cnt (p + 1) ≤ pn n; rw [(prime_yes hp2 hp6 hck).2]; exact hk1), ho.congr (prC_next hp2 hp6 hck)⟩), hS.to _ ⟨rfl, rfl, congrArg (fun q => some (U q)) (u_succ _), trivial⟩, (by first | exact hM | exact hM.drop hb30)⟩
    · have hend : cnt p = pn n := by have h8 := of_decide_eq_false hc; rw [mn_pn] at h8; omega
      refine c_exit ?_
      refine k_thenx ?_
      refine k_thenx ?_
      refine k_inx ?_
      refine k_seq ?_
      refine c_seq ?_
      refine c_region ?_
      refine s_val hS (by decide) rfl rfl (r_move hS rfl) ?_; clear hS; intro a hS
      refine s_val hS (by decide) rfl rfl (r_assign hS rfl) ?_; clear hS; intro a hS
      refine s_nil ?_
      refine k_seq ?_
      refine c_ret ?_
      exact k_res1 hS rfl (RV.tmp rfl) ⟨_, _, rfl, ho.congr (by rw [hend]), hM⟩

set_option maxRecDepth 100000 in
theorem alive6_ok  (w0 : World) : Pure Try.prog 8 #[] w0 (.bool true) := by
  refine ⟨by kernel_rfl, ?_⟩
  refine calls_sym Try.func8 rfl (by kernel_rfl) ?_
  intro a hS
  have hM : Mem w0 w0 [] := Mem.refl w0
  refine c_seq ?_
  refine c_region ?_
  refine s_val hS (by decide) rfl rfl (r_assign hS rfl) ?_; clear hS; intro a hS
  refine s_nil ?_
  refine k_seq ?_
  refine c_seq ?_
  refine c_region ?_
  refine s_pure hS hM (by decide) (vs := [U 2#64]) rfl (square_ok _ _) ?_; clear hS hM; intro a w hS hM
  refine s_val hS (by decide) rfl rfl (r_bv hS rfl (show ev _ _ = some (U 7640891576956012808#64) from rfl) gU (b_eqlUt alive1)) ?_; clear hS; intro a hS
  refine s_val hS (by decide) rfl rfl (r_move hS rfl) ?_; clear hS; intro a hS
  refine s_pureg hS hM (by decide) (vs := [U 2#64]) rfl rfl rfl rfl (cube_ok _ _) ?_; clear hS hM; intro a w hS hM
  refine s_valg hS (by decide) rfl rfl rfl rfl rfl (r_bv hS rfl (show ev _ _ = some (U 4794697086780616226#64) from rfl) gU (b_eqlUt alive2)) ?_; clear hS; intro a hS
  refine s_val hS (by decide) rfl rfl (r_pick hS rfl rfl) ?_; clear hS; intro a hS
  refine s_val hS (by decide) rfl rfl (r_move hS rfl) ?_; clear hS; intro a hS
  refine s_freshg hS hM (by decide) (vs := [N 3]) rfl rfl rfl rfl (primes_ok _ _) ?_; clear hS hM; intro a w v8 L8 ho8 hS hM
  have hr8 := ho8.rdFront hM; replace hM := hM.forget ho8.ge
  refine s_valg hS (by decide) rfl rfl rfl rfl rfl (r_lenR hS rfl hr8 Try.underlying26) ?_; clear hS; intro a hS
  refine s_valg hS (by decide) rfl rfl rfl rfl rfl (r_bv hS rfl (show ev _ _ = some (N 3) from rfl) gN (b_eqlNt pn_3)) ?_; clear hS; intro a hS
  refine s_val hS (by decide) rfl rfl (r_pick hS rfl rfl) ?_; clear hS; intro a hS
  refine s_val hS (by decide) rfl rfl (r_assign hS rfl) ?_; clear hS; intro a hS
  refine s_nil ?_
  refine k_seq ?_
  refine c_ret ?_
  exact k_res1 hS rfl (RV.tmp rfl) ⟨rfl, hM.done trivial⟩

set_option maxRecDepth 100000 in
theorem rootsTell_ok (p : BitVec 64) (w0 : World) : Pure Try.prog 3 #[U p] w0 (.bool true) := by
  refine ⟨by kernel_rfl, ?_⟩
  refine calls_sym Try.func3 rfl (by kernel_rfl) ?_
  intro a hS
  have hM : Mem w0 w0 [] := Mem.refl w0
  refine c_seq ?_
  refine c_region ?_
  refine s_val hS (by decide) rfl rfl (r_assign hS rfl) ?_; clear hS; intro a hS
  refine s_nil ?_
  refine k_seq ?_
  refine c_seq ?_
  refine c_region ?_
  refine s_pure hS hM (by decide) rfl (alive6_ok _) ?_; clear hS hM; intro a w hS hM
  refine s_val hS (by decide) rfl rfl (r_assign hS rfl) ?_; clear hS; intro a hS
  refine s_nil ?_
  refine k_seq ?_
  refine c_seq ?_
  refine c_region ?_
  refine s_val hS (by decide) rfl rfl (r_move hS rfl) ?_; clear hS; intro a hS
  refine s_val hS (by decide) rfl rfl (r_move hS rfl) ?_; clear hS; intro a hS
  refine s_valg hS (by decide) rfl rfl rfl rfl rfl (r_move hS rfl) ?_; clear hS; intro a hS
  refine s_pureg hS hM (by decide) rfl rfl rfl rfl (square_ok _ _) ?_; clear hS hM; intro a w hS hM
  refine s_valg hS (by decide) rfl rfl rfl rfl rfl (r_move hS rfl) ?_; clear hS; intro a hS
  refine s_pureg hS hM (by decide) rfl rfl rfl rfl (rsquare_ok _ _) ?_; clear hS hM; intro a w hS hM
  refine s_valg hS (by decide) rfl rfl rfl rfl rfl (r_bv hS rfl rfl gU (b_eqlUt rfl)) ?_; clear hS; intro a hS
  refine s_val hS (by decide) rfl rfl (r_pick hS rfl rfl) ?_; clear hS; intro a hS
  refine s_val hS (by decide) rfl rfl (r_move hS rfl) ?_; clear hS; intro a hS
  refine s_valg hS (by decide) rfl rfl rfl rfl rfl (r_move hS rfl) ?_; clear hS; intro a hS
  refine s_pureg hS hM (by decide) rfl rfl rfl rfl (cube_ok _ _) ?_; clear hS hM; intro a w hS hM
  refine s_valg hS (by decide) rfl rfl rfl rfl rfl (r_move hS rfl) ?_; clear hS; intro a hS
  refine s_pureg hS hM (by decide) rfl rfl rfl rfl (rcube_ok _ _) ?_; clear hS hM; intro a w hS hM
  refine s_valg hS (by decide) rfl rfl rfl rfl rfl (r_bv hS rfl rfl gU (b_eqlUt rfl)) ?_; clear hS; intro a hS
  refine s_val hS (by decide) rfl rfl (r_pick hS rfl rfl) ?_; clear hS; intro a hS
  refine s_val hS (by decide) rfl rfl (r_assign hS rfl) ?_; clear hS; intro a hS
  refine s_nil ?_
  refine k_seq ?_
  refine c_ret ?_
  exact k_res1 hS rfl (RV.tmp rfl) ⟨rfl, hM.done trivial⟩

set_option maxRecDepth 100000 in
theorem rootsWhole_ok (n : BitVec 64) (w0 : World) : Pure Try.prog 5 #[U n] w0 (.bool true) := by
  refine ⟨by kernel_rfl, ?_⟩
  refine calls_sym Try.func5 rfl (by kernel_rfl) ?_
  intro a hS
  have hM : Mem w0 w0 [] := Mem.refl w0
  refine c_seq ?_
  refine c_region ?_
  refine s_val hS (by decide) rfl rfl (r_assign hS rfl) ?_; clear hS; intro a hS
  refine s_nil ?_
  refine k_seq ?_
  refine c_seq ?_
  refine c_region ?_
  refine s_pure hS hM (by decide) rfl (alive6_ok _) ?_; clear hS hM; intro a w hS hM
  refine s_val hS (by decide) rfl rfl (r_assign hS rfl) ?_; clear hS; intro a hS
  refine s_nil ?_
  refine k_seq ?_
  refine c_seq ?_
  refine c_region ?_
  refine s_val hS (by decide) rfl rfl (r_move hS rfl) ?_; clear hS; intro a hS
  refine s_val hS (by decide) rfl rfl (r_bv hS rfl (show ev _ _ = some (U 65535#64) from rfl) gU (b_andU _ _ _)) ?_; clear hS; intro a hS
  refine s_val hS (by decide) rfl rfl (r_assign hS rfl) ?_; clear hS; intro a hS
  refine s_nil ?_
  refine k_seq ?_
  refine c_seq ?_
  refine c_region ?_
  refine s_val hS (by decide) rfl rfl (r_move hS rfl) ?_; clear hS; intro a hS
  refine s_val hS (by decide) rfl rfl (r_bv hS rfl (show ev _ _ = some (U 1023#64) from rfl) gU (b_andU _ _ _)) ?_; clear hS; intro a hS
  refine s_val hS (by decide) rfl rfl (r_assign hS rfl) ?_; clear hS; intro a hS
  refine s_nil ?_
  refine k_seq ?_
  refine c_seq ?_
  refine c_region ?_
  refine s_val hS (by decide) rfl rfl (r_move hS rfl) ?_; clear hS; intro a hS
  refine s_val hS (by decide) rfl rfl (r_move hS rfl) ?_; clear hS; intro a hS
  refine s_valg hS (by decide) rfl rfl rfl rfl rfl (r_move hS rfl) ?_; clear hS; intro a hS
  refine s_valg hS (by decide) rfl rfl rfl rfl rfl (r_move hS rfl) ?_; clear hS; intro a hS
  refine s_valg hS (by decide) rfl rfl rfl rfl rfl (r_bv hS rfl rfl gU (b_mulU _ _ _)) ?_; clear hS; intro a hS
  refine s_pureg hS hM (by decide) rfl rfl rfl rfl (square_ok _ _) ?_; clear hS hM; intro a w hS hM
  refine s_valg hS (by decide) rfl rfl rfl rfl rfl (r_bv hS rfl (show ev _ _ = some (U 0#64) from rfl) gU (b_eqlUt (whole_sq n))) ?_; clear hS; intro a hS
  refine s_val hS (by decide) rfl rfl (r_pick hS rfl rfl) ?_; clear hS; intro a hS
  refine s_val hS (by decide) rfl rfl (r_move hS rfl) ?_; clear hS; intro a hS
  refine s_valg hS (by decide) rfl rfl rfl rfl rfl (r_move hS rfl) ?_; clear hS; intro a hS
  refine s_valg hS (by decide) rfl rfl rfl rfl rfl (r_move hS rfl) ?_; clear hS; intro a hS
  refine s_valg hS (by decide) rfl rfl rfl rfl rfl (r_bv hS rfl rfl gU (b_mulU _ _ _)) ?_; clear hS; intro a hS
  refine s_valg hS (by decide) rfl rfl rfl rfl rfl (r_move hS rfl) ?_; clear hS; intro a hS
  refine s_valg hS (by decide) rfl rfl rfl rfl rfl (r_bv hS rfl rfl gU (b_mulU _ _ _)) ?_; clear hS; intro a hS
  refine s_pureg hS hM (by decide) rfl rfl rfl rfl (cube_ok _ _) ?_; clear hS hM; intro a w hS hM
  refine s_valg hS (by decide) rfl rfl rfl rfl rfl (r_bv hS rfl (show ev _ _ = some (U 0#64) from rfl) gU (b_eqlUt (whole_cu n))) ?_; clear hS; intro a hS
  refine s_val hS (by decide) rfl rfl (r_pick hS rfl rfl) ?_; clear hS; intro a hS
  refine s_val hS (by decide) rfl rfl (r_move hS rfl) ?_; clear hS; intro a hS
  refine s_valg hS (by decide) rfl rfl rfl rfl rfl (r_move hS rfl) ?_; clear hS; intro a hS
  refine s_valg hS (by decide) rfl rfl rfl rfl rfl (r_bv hS rfl (show ev _ _ = some (U 4294967296#64) from rfl) gU (b_orU _ _ _)) ?_; clear hS; intro a hS
  refine s_pureg hS hM (by decide) rfl rfl rfl rfl (square_ok _ _) ?_; clear hS hM; intro a w hS hM
  refine s_valg hS (by decide) rfl rfl rfl rfl rfl (r_bv hS rfl (show ev _ _ = some (U 0#64) from rfl) gU (b_eqlUt (great_sq n))) ?_; clear hS; intro a hS
  refine s_val hS (by decide) rfl rfl (r_pick hS rfl rfl) ?_; clear hS; intro a hS
  refine s_val hS (by decide) rfl rfl (r_move hS rfl) ?_; clear hS; intro a hS
  refine s_valg hS (by decide) rfl rfl rfl rfl rfl (r_move hS rfl) ?_; clear hS; intro a hS
  refine s_valg hS (by decide) rfl rfl rfl rfl rfl (r_bv hS rfl (show ev _ _ = some (U 4294967296#64) from rfl) gU (b_orU _ _ _)) ?_; clear hS; intro a hS
  refine s_pureg hS hM (by decide) rfl rfl rfl rfl (cube_ok _ _) ?_; clear hS hM; intro a w hS hM
  refine s_valg hS (by decide) rfl rfl rfl rfl rfl (r_bv hS rfl (show ev _ _ = some (U 0#64) from rfl) gU (b_eqlUt (great_cu n))) ?_; clear hS; intro a hS
  refine s_val hS (by decide) rfl rfl (r_pick hS rfl rfl) ?_; clear hS; intro a hS
  refine s_val hS (by decide) rfl rfl (r_assign hS rfl) ?_; clear hS; intro a hS
  refine s_nil ?_
  refine k_seq ?_
  refine c_ret ?_
  exact k_res1 hS rfl (RV.tmp rfl) ⟨rfl, hM.done trivial⟩

set_option maxRecDepth 100000 in
theorem rootsNear_ok (n : BitVec 64) (w0 : World) : Pure Try.prog 6 #[U n] w0 (.bool true) := by
  refine ⟨by kernel_rfl, ?_⟩
  refine calls_sym Try.func6 rfl (by kernel_rfl) ?_
  intro a hS
  have hM : Mem w0 w0 [] := Mem.refl w0
  refine c_seq ?_
  refine c_region ?_
  refine s_val hS (by decide) rfl rfl (r_assign hS rfl) ?_; clear hS; intro a hS
  refine s_nil ?_
  refine k_seq ?_
  refine c_seq ?_
  refine c_region ?_
  refine s_pure hS hM (by decide) rfl (alive6_ok _) ?_; clear hS hM; intro a w hS hM
  refine s_val hS (by decide) rfl rfl (r_assign hS rfl) ?_; clear hS; intro a hS
  refine s_nil ?_
  refine k_seq ?_
  refine c_seq ?_
  refine c_region ?_
  refine s_val hS (by decide) rfl rfl (r_move hS rfl) ?_; clear hS; intro a hS
  refine s_val hS (by decide) rfl rfl (r_bv hS rfl (show ev _ _ = some (U 65534#64) from rfl) gU (b_andU _ _ _)) ?_; clear hS; intro a hS
  refine s_val hS (by decide) rfl rfl (r_assign hS rfl) ?_; clear hS; intro a hS
  refine s_nil ?_
  refine k_seq ?_
  refine c_seq ?_
  refine c_region ?_
  refine s_val hS (by decide) rfl rfl (r_move hS rfl) ?_; clear hS; intro a hS
  refine s_val hS (by decide) rfl rfl (r_bv hS rfl (show ev _ _ = some (U 1022#64) from rfl) gU (b_andU _ _ _)) ?_; clear hS; intro a hS
  refine s_val hS (by decide) rfl rfl (r_assign hS rfl) ?_; clear hS; intro a hS
  refine s_nil ?_
  refine k_seq ?_
  refine c_seq ?_
  refine c_seq ?_
  refine c_region ?_
  refine s_val hS (by decide) rfl rfl (r_move hS rfl) ?_; clear hS; intro a hS
  refine s_val hS (by decide) rfl rfl (r_not hS rfl) ?_; clear hS; intro a hS
  refine s_nil ?_
  refine k_seq ?_
  refine c_false hS rfl rfl ?_
  refine c_skip ?_
  refine k_seq ?_
  refine c_seq ?_
  refine c_seq ?_
  refine c_region ?_
  refine s_val hS (by decide) rfl rfl (r_assign hS (show ev _ _ = some (U 0#64) from rfl)) ?_; clear hS; intro a hS
  refine s_nil ?_
  refine k_seq ?_
  refine c_block ?_
  refine c_loop (σ := Nat) (fun k a w => (k ≤ 6) ∧ Slots a 67 (env [(0, U n), (3, .bool true), (4, U (n &&& 65534#64)), (5, U (n &&& 1022#64)), (6, U (BitVec.ofNat 64 k))]) ∧ Mem w0 w ([])) (fun k => 6 - k) (0) ⟨by omega, hS.to _ ⟨rfl, rfl, rfl, rfl, rfl, trivial⟩, hM⟩ ?_
  clear hS hM; rintro k a w ⟨hk, hS, hM⟩
  refine c_seq ?_
  refine c_seq ?_
  refine c_region ?_
  refine s_val hS (by decide) rfl rfl (r_move hS rfl) ?_; clear hS; intro a hS
  refine s_valb hS (by decide) rfl rfl (r_bv hS rfl (show ev _ _ = some (U 6#64) from rfl) gU (b_lssU _ _ _)) (fun hc => ?_) (fun hc => ?_)
  · clear hS; intro a hS; have hk1 : k < 6 := by have := of_decide_eq_true hc; rwa [ofNat_toNat_lt (by omega)] at this
    refine s_val hS (by decide) rfl rfl (r_move hS rfl) ?_; clear hS; intro a hS
    refine s_valg hS (by decide) rfl rfl rfl rfl rfl (r_move hS rfl) ?_; clear hS; intro a hS
    refine s_valg hS (by decide) rfl rfl rfl rfl rfl (r_move hS rfl) ?_; clear hS; intro a hS
    refine s_valg hS (by decide) rfl rfl rfl rfl rfl (r_bv hS (show ev _ _ = some (U 2#64) from rfl) rfl gU (b_mulU _ _ _)) ?_; clear hS; intro a hS
    refine s_valg hS (by decide) rfl rfl rfl rfl rfl (r_bv hS rfl rfl gU (b_lssU _ _ _)) ?_; clear hS; intro a hS
    refine s_val hS (by decide) rfl rfl (r_pick hS rfl rfl) ?_; clear hS; intro a hS
    refine s_nil ?_
    refine k_seq ?_
    refine c_cond hS rfl (fun hc => ?_) (fun hc => ?_)
    · have hk2 := of_decide_eq_true hc
      refine c_skip ?_
      refine k_seq ?_
      refine c_seq ?_
      refine c_block ?_
      refine c_seq ?_
      refine c_region ?_
      refine s_val hS (by decide) rfl rfl (r_move hS rfl) ?_; clear hS; intro a hS
      refine s_val hS (by decide) rfl rfl (r_move hS rfl) ?_; clear hS; intro a hS
      refine s_val hS (by decide) rfl rfl (r_bv hS rfl rfl gU (b_mulU _ _ _)) ?_; clear hS; intro a hS
      refine s_val hS (by decide) rfl rfl (r_move hS rfl) ?_; clear hS; intro a hS
      refine s_val hS (by decide) rfl rfl (r_bv hS rfl rfl gU (b_addU _ _ _)) ?_; clear hS; intro a hS
      refine s_pure hS hM (by decide) rfl (square_ok _ _) ?_; clear hS hM; intro a w hS hM
      refine s_val hS (by decide) rfl rfl (r_move hS rfl) ?_; clear hS; intro a hS
      refine s_val hS (by decide) rfl rfl (r_move hS rfl) ?_; clear hS; intro a hS
      refine s_val hS (by decide) rfl rfl (r_bv hS rfl rfl gU (b_mulU _ _ _)) ?_; clear hS; intro a hS
      refine s_val hS (by decide) rfl rfl (r_move hS rfl) ?_; clear hS; intro a hS
      refine s_val hS (by decide) rfl rfl (r_bv hS rfl rfl gU (b_addU _ _ _)) ?_; clear hS; intro a hS
      refine s_val hS (by decide) rfl rfl (r_bv hS rfl (show ev _ _ = some (U 1#64) from rfl) gU (b_addU _ _ _)) ?_; clear hS; intro a hS
      refine s_pure hS hM (by decide) rfl (square_ok _ _) ?_; clear hS hM; intro a w hS hM
      refine s_val hS (by decide) rfl rfl (r_bv hS rfl rfl gU (b_geqU _ _ _)) ?_; clear hS; intro a hS
      refine s_nil ?_
      refine k_seq ?_
      refine c_cond hS rfl (fun hc => ?_) (fun hc => ?_)
      · skip
        exact absurd (of_decide_eq_true hc) (Nat.not_le.2 (near1 hk1 hk2))
      · skip
        refine c_skip ?_
        refine k_in ?_
        refine k_seq ?_
        refine c_region ?_
        refine s_val hS (by decide) rfl rfl (r_move hS rfl) ?_; clear hS; intro a hS
        refine s_val hS (by decide) rfl rfl (r_bv hS rfl (show ev _ _ = some (U 1#64) from rfl) gU (b_addU _ _ _)) ?_; clear hS; intro a hS
        refine s_val hS (by decide) rfl rfl (r_assign hS rfl) ?_; clear hS; intro a hS
        refine s_nil ?_
        refine k_then ?_
        refine ⟨k + 1, by omega, by omega, hS.to _ ⟨rfl, rfl, rfl, rfl, congrArg (fun q => some (U q)) (u_succ _), trivial⟩, hM⟩
    · skip
      refine c_exit ?_
      refine k_thenx ?_
      refine k_thenx ?_
      refine k_inx ?_
      refine k_seq ?_
      refine c_seq ?_
      refine c_seq ?_
      refine c_region ?_
      refine s_val hS (by decide) rfl rfl (r_assign hS (show ev _ _ = some (U 0#64) from rfl)) ?_; clear hS; intro a hS
      refine s_nil ?_
      refine k_seq ?_
      refine c_block ?_
      refine c_loop (σ := Nat) (fun k a w => (k ≤ 6) ∧ Slots a 67 (env [(0, U n), (3, .bool true), (5, U (n &&& 1022#64)), (7, U (BitVec.ofNat 64 k))]) ∧ Mem w0 w ([])) (fun k => 6 - k) (0) ⟨by omega, hS.to _ ⟨rfl, rfl, rfl, rfl, trivial⟩, hM⟩ ?_
      clear hS hM; rintro k a w ⟨hk, hS, hM⟩
      refine c_seq ?_
      refine c_seq ?_
      refine c_region ?_
      refine s_val hS (by decide) rfl rfl (r_move hS rfl) ?_; clear hS; intro a hS
      refine s_valb hS (by decide) rfl rfl (r_bv hS rfl (show ev _ _ = some (U 6#64) from rfl) gU (b_lssU _ _ _)) (fun hc => ?_) (fun hc => ?_)
      · clear hS; intro a hS; have hk1 : k < 6 := by have := of_decide_eq_true hc; rwa [ofNat_toNat_lt (by omega)] at this
        refine s_val hS (by decide) rfl rfl (r_move hS rfl) ?_; clear hS; intro a hS
        refine s_valg hS (by decide) rfl rfl rfl rfl rfl (r_move hS rfl) ?_; clear hS; intro a hS
        refine s_valg hS (by decide) rfl rfl rfl rfl rfl (r_move hS rfl) ?_; clear hS; intro a hS
        refine s_valg hS (by decide) rfl rfl rfl rfl rfl (r_bv hS (show ev _ _ = some (U 3#64) from rfl) rfl gU (b_mulU _ _ _)) ?_; clear hS; intro a hS
        refine s_valg hS (by decide) rfl rfl rfl rfl rfl (r_bv hS rfl rfl gU (b_lssU _ _ _)) ?_; clear hS; intro a hS
        refine s_val hS (by decide) rfl rfl (r_pick hS rfl rfl) ?_; clear hS; intro a hS
        refine s_nil ?_
        refine k_seq ?_
        refine c_cond hS rfl (fun hc => ?_) (fun hc => ?_)
        · have hk2 := of_decide_eq_true hc
          refine c_skip ?_
          refine k_seq ?_
          refine c_seq ?_
          refine c_block ?_
          refine c_seq ?_
          refine c_region ?_
          refine s_val hS (by decide) rfl rfl (r_move hS rfl) ?_; clear hS; intro a hS
          refine s_val hS (by decide) rfl rfl (r_move hS rfl) ?_; clear hS; intro a hS
          refine s_val hS (by decide) rfl rfl (r_bv hS rfl rfl gU (b_mulU _ _ _)) ?_; clear hS; intro a hS
          refine s_val hS (by decide) rfl rfl (r_move hS rfl) ?_; clear hS; intro a hS
          refine s_val hS (by decide) rfl rfl (r_bv hS rfl rfl gU (b_mulU _ _ _)) ?_; clear hS; intro a hS
          refine s_val hS (by decide) rfl rfl (r_move hS rfl) ?_; clear hS; intro a hS
          refine s_val hS (by decide) rfl rfl (r_bv hS rfl rfl gU (b_addU _ _ _)) ?_; clear hS; intro a hS
          refine s_pure hS hM (by decide) rfl (cube_ok _ _) ?_; clear hS hM; intro a w hS hM
          refine s_val hS (by decide) rfl rfl (r_move hS rfl) ?_; clear hS; intro a hS
          refine s_val hS (by decide) rfl rfl (r_move hS rfl) ?_; clear hS; intro a hS
          refine s_val hS (by decide) rfl rfl (r_bv hS rfl rfl gU (b_mulU _ _ _)) ?_; clear hS; intro a hS
          refine s_val hS (by decide) rfl rfl (r_move hS rfl) ?_; clear hS; intro a hS
          refine s_val hS (by decide) rfl rfl (r_bv hS rfl rfl gU (b_mulU _ _ _)) ?_; clear hS; intro a hS
          refine s_val hS (by decide) rfl rfl (r_move hS rfl) ?_; clear hS; intro a hS
          refine s_val hS (by decide) rfl rfl (r_bv hS rfl rfl gU (b_addU _ _ _)) ?_; clear hS; intro a hS
          refine s_val hS (by decide) rfl rfl (r_bv hS rfl (show ev _ _ = some (U 1#64) from rfl) gU (b_addU _ _ _)) ?_; clear hS; intro a hS
          refine s_pure hS hM (by decide) rfl (cube_ok _ _) ?_; clear hS hM; intro a w hS hM
          refine s_val hS (by decide) rfl rfl (r_bv hS rfl rfl gU (b_geqU _ _ _)) ?_; clear hS; intro a hS
          refine s_nil ?_
          refine k_seq ?_
          refine c_cond hS rfl (fun hc => ?_) (fun hc => ?_)
          · skip
            exact absurd (of_decide_eq_true hc) (Nat.not_le.2 (near2 hk1 hk2))
          · skip
            refine c_skip ?_
            refine k_in ?_
            refine k_seq ?_
            refine c_region ?_
            refine s_val hS (by decide) rfl rfl (r_move hS rfl) ?_; clear hS; intro a hS
            refine s_val hS (by decide) rfl rfl (r_bv hS rfl (show ev _ _ = some (U 1#64) from rfl) gU (b_addU _ _ _)) ?_; clear hS; intro a hS
            refine s_val hS (by decide) rfl rfl (r_assign hS rfl) ?_; clear hS; intro a hS
            refine s_nil ?_
            refine k_then ?_
            refine ⟨k + 1, by omega, by omega, hS.to _ ⟨rfl, rfl, rfl, congrArg (fun q => some (U q)) (u_succ _), trivial⟩, hM⟩
        · skip
          refine c_exit ?_
          refine k_thenx ?_
          refine k_thenx ?_
          refine k_inx ?_
          refine k_seq ?_
          refine c_seq ?_
          refine c_region ?_
          refine s_val hS (by decide) rfl rfl (r_assign hS rfl) ?_; clear hS; intro a hS
          refine s_nil ?_
          refine k_seq ?_
          refine c_ret ?_
          exact k_res1 hS rfl (RV.tmp rfl) ⟨rfl, hM.done trivial⟩
      · clear hS; intro a hS; skip
        refine s_val hS (by decide) rfl rfl (r_move hS rfl) ?_; clear hS; intro a hS
        refine s_skip hS (by decide) rfl rfl rfl rfl rfl ?_; clear hS; intro a hS
        refine s_skip hS (by decide) rfl rfl rfl rfl rfl ?_; clear hS; intro a hS
        refine s_skip hS (by decide) rfl rfl rfl rfl rfl ?_; clear hS; intro a hS
        refine s_skip hS (by decide) rfl rfl rfl rfl rfl ?_; clear hS; intro a hS
        refine s_val hS (by decide) rfl rfl (r_pick hS rfl rfl) ?_; clear hS; intro a hS
        refine s_nil ?_
        refine k_seq ?_
        refine c_false hS rfl rfl ?_
        refine c_exit ?_
        refine k_thenx ?_
        refine k_thenx ?_
        refine k_inx ?_
        refine k_seq ?_
        refine c_seq ?_
        refine c_region ?_
        refine s_val hS (by decide) rfl rfl (r_assign hS rfl) ?_; clear hS; intro a hS
        refine s_nil ?_
        refine k_seq ?_
        refine c_ret ?_
        exact k_res1 hS rfl (RV.tmp rfl) ⟨rfl, hM.done trivial⟩
  · clear hS; intro a hS; skip
    refine s_val hS (by decide) rfl rfl (r_move hS rfl) ?_; clear hS; intro a hS
    refine s_skip hS (by decide) rfl rfl rfl rfl rfl ?_; clear hS; intro a hS
    refine s_skip hS (by decide) rfl rfl rfl rfl rfl ?_; clear hS; intro a hS
    refine s_skip hS (by decide) rfl rfl rfl rfl rfl ?_; clear hS; intro a hS
    refine s_skip hS (by decide) rfl rfl rfl rfl rfl ?_; clear hS; intro a hS
    refine s_val hS (by decide) rfl rfl (r_pick hS rfl rfl) ?_; clear hS; intro a hS
    refine s_nil ?_
    refine k_seq ?_
    refine c_false hS rfl rfl ?_
    refine c_exit ?_
    refine k_thenx ?_
    refine k_thenx ?_
    refine k_inx ?_
    refine k_seq ?_
    refine c_seq ?_
    refine c_seq ?_
    refine c_region ?_
    refine s_val hS (by decide) rfl rfl (r_assign hS (show ev _ _ = some (U 0#64) from rfl)) ?_; clear hS; intro a hS
    refine s_nil ?_
    refine k_seq ?_
    refine c_block ?_
    refine c_loop (σ := Nat) (fun k a w => (k ≤ 6) ∧ Slots a 67 (env [(0, U n), (3, .bool true), (5, U (n &&& 1022#64)), (7, U (BitVec.ofNat 64 k))]) ∧ Mem w0 w ([])) (fun k => 6 - k) (0) ⟨by omega, hS.to _ ⟨rfl, rfl, rfl, rfl, trivial⟩, hM⟩ ?_
    clear hS hM; rintro k a w ⟨hk, hS, hM⟩
    refine c_seq ?_
    refine c_seq ?_
    refine c_region ?_
    refine s_val hS (by decide) rfl rfl (r_move hS rfl) ?_; clear hS; intro a hS
    refine s_valb hS (by decide) rfl rfl (r_bv hS rfl (show ev _ _ = some (U 6#64) from rfl) gU (b_lssU _ _ _)) (fun hc => ?_) (fun hc => ?_)
    · clear hS; intro a hS; have hk1 : k < 6 := by have := of_decide_eq_true hc; rwa [ofNat_toNat_lt (by omega)] at this
      refine s_val hS (by decide) rfl rfl (r_move hS rfl) ?_; clear hS; intro a hS
      refine s_valg hS (by decide) rfl rfl rfl rfl rfl (r_move hS rfl) ?_; clear hS; intro a hS
      refine s_valg hS (by decide) rfl rfl rfl rfl rfl (r_move hS rfl) ?_; clear hS; intro a hS
      refine s_valg hS (by decide) rfl rfl rfl rfl rfl (r_bv hS (show ev _ _ = some (U 3#64) from rfl) rfl gU (b_mulU _ _ _)) ?_; clear hS; intro a hS
      refine s_valg hS (by decide) rfl rfl rfl rfl rfl (r_bv hS rfl rfl gU (b_lssU _ _ _)) ?_; clear hS; intro a hS
      refine s_val hS (by decide) rfl rfl (r_pick hS rfl rfl) ?_; clear hS; intro a hS
      refine s_nil ?_
      refine k_seq ?_
      refine c_cond hS rfl (fun hc => ?_) (fun hc => ?_)
      · have hk2 := of_decide_eq_true hc
        refine c_skip ?_
        refine k_seq ?_
        refine c_seq ?_
        refine c_block ?_
        refine c_seq ?_
        refine c_region ?_
        refine s_val hS (by decide) rfl rfl (r_move hS rfl) ?_; clear hS; intro a hS
        refine s_val hS (by decide) rfl rfl (r_move hS rfl) ?_; clear hS; intro a hS
        refine s_val hS (by decide) rfl rfl (r_bv hS rfl rfl gU (b_mulU _ _ _)) ?_; clear hS; intro a hS
        refine s_val hS (by decide) rfl rfl (r_move hS rfl) ?_; clear hS; intro a hS
        refine s_val hS (by decide) rfl rfl (r_bv hS rfl rfl gU (b_mulU _ _ _)) ?_; clear hS; intro a hS
        refine s_val hS (by decide) rfl rfl (r_move hS rfl) ?_; clear hS; intro a hS
        refine s_val hS (by decide) rfl rfl (r_bv hS rfl rfl gU (b_addU _ _ _)) ?_; clear hS; intro a hS
        refine s_pure hS hM (by decide) rfl (cube_ok _ _) ?_; clear hS hM; intro a w hS hM
        refine s_val hS (by decide) rfl rfl (r_move hS rfl) ?_; clear hS; intro a hS
        refine s_val hS (by decide) rfl rfl (r_move hS rfl) ?_; clear hS; intro a hS
        refine s_val hS (by decide) rfl rfl (r_bv hS rfl rfl gU (b_mulU _ _ _)) ?_; clear hS; intro a hS
        refine s_val hS (by decide) rfl rfl (r_move hS rfl) ?_; clear hS; intro a hS
        refine s_val hS (by decide) rfl rfl (r_bv hS rfl rfl gU (b_mulU _ _ _)) ?_; clear hS; intro a hS
        refine s_val hS (by decide) rfl rfl (r_move hS rfl) ?_; clear hS; intro a hS
        refine s_val hS (by decide) rfl rfl (r_bv hS rfl rfl gU (b_addU _ _ _)) ?_; clear hS; intro a hS
        refine s_val hS (by decide) rfl rfl (r_bv hS rfl (show ev _ _ = some (U 1#64) from rfl) gU (b_addU _ _ _)) ?_; clear hS; intro a hS
        refine s_pure hS hM (by decide) rfl (cube_ok _ _) ?_; clear hS hM; intro a w hS hM
        refine s_val hS (by decide) rfl rfl (r_bv hS rfl rfl gU (b_geqU _ _ _)) ?_; clear hS; intro a hS
        refine s_nil ?_
        refine k_seq ?_
        refine c_cond hS rfl (fun hc => ?_) (fun hc => ?_)
        · skip
          exact absurd (of_decide_eq_true hc) (Nat.not_le.2 (near2 hk1 hk2))
        · skip
          refine c_skip ?_
          refine k_in ?_
          refine k_seq ?_
          refine c_region ?_
          refine s_val hS (by decide) rfl rfl (r_move hS rfl) ?_; clear hS; intro a hS
          refine s_val hS (by decide) rfl rfl (r_bv hS rfl (show ev _ _ = some (U 1#64) from rfl) gU (b_addU _ _ _)) ?_; clear hS; intro a hS
          refine s_val hS (by decide) rfl rfl (r_assign hS rfl) ?_; clear hS; intro a hS
          refine s_nil ?_
          refine k_then ?_
          refine ⟨k + 1, by omega, by omega, hS.to _ ⟨rfl, rfl, rfl, congrArg (fun q => some (U q)) (u_succ _), trivial⟩, hM⟩
      · skip
        refine c_exit ?_
        refine k_thenx ?_
        refine k_thenx ?_
        refine k_inx ?_
        refine k_seq ?_
        refine c_seq ?_
        refine c_region ?_
        refine s_val hS (by decide) rfl rfl (r_assign hS rfl) ?_; clear hS; intro a hS
        refine s_nil ?_
        refine k_seq ?_
        refine c_ret ?_
        exact k_res1 hS rfl (RV.tmp rfl) ⟨rfl, hM.done trivial⟩
    · clear hS; intro a hS; skip
      refine s_val hS (by decide) rfl rfl (r_move hS rfl) ?_; clear hS; intro a hS
      refine s_skip hS (by decide) rfl rfl rfl rfl rfl ?_; clear hS; intro a hS
      refine s_skip hS (by decide) rfl rfl rfl rfl rfl ?_; clear hS; intro a hS
      refine s_skip hS (by decide) rfl rfl rfl rfl rfl ?_; clear hS; intro a hS
      refine s_skip hS (by decide) rfl rfl rfl rfl rfl ?_; clear hS; intro a hS
      refine s_val hS (by decide) rfl rfl (r_pick hS rfl rfl) ?_; clear hS; intro a hS
      refine s_nil ?_
      refine k_seq ?_
      refine c_false hS rfl rfl ?_
      refine c_exit ?_
      refine k_thenx ?_
      refine k_thenx ?_
      refine k_inx ?_
      refine k_seq ?_
      refine c_seq ?_
      refine c_region ?_
      refine s_val hS (by decide) rfl rfl (r_assign hS rfl) ?_; clear hS; intro a hS
      refine s_nil ?_
      refine k_seq ?_
      refine c_ret ?_
      exact k_res1 hS rfl (RV.tmp rfl) ⟨rfl, hM.done trivial⟩

set_option maxRecDepth 100000 in
theorem rootsTables_ok (i : Int) (w0 : World) : Pure Try.prog 7 #[.int .i64 i] w0 (.bool true) := by
  refine ⟨by kernel_rfl, ?_⟩
  refine calls_sym Try.func7 rfl (by kernel_rfl) ?_
  intro a hS
  have hM : Mem w0 w0 [] := Mem.refl w0
  refine c_seq ?_
  refine c_region ?_
  refine s_val hS (by decide) rfl rfl (r_assign hS rfl) ?_; clear hS; intro a hS
  refine s_nil ?_
  refine k_seq ?_
  refine c_seq ?_
  refine c_region ?_
  refine s_pure hS hM (by decide) rfl (alive6_ok _) ?_; clear hS hM; intro a w hS hM
  refine s_val hS (by decide) rfl rfl (r_assign hS rfl) ?_; clear hS; intro a hS
  refine s_nil ?_
  refine k_seq ?_
  refine c_seq ?_
  refine c_region ?_
  refine s_fresh hS hM (by decide) (vs := [N 80]) rfl (primes_ok _ _) ?_; clear hS hM; intro a w v6 L6 ho6 hS hM
  replace hM := hM.swap
  refine s_val hS (by decide) rfl rfl (r_assign hS rfl) ?_; clear hS; intro a hS
  refine s_nil ?_
  refine k_seq ?_
  refine c_seq ?_
  refine c_seq ?_
  refine c_region ?_
  refine s_val hS (by decide) rfl rfl (r_move hS rfl) ?_; clear hS; intro a hS
  refine s_val hS (by decide) rfl rfl (r_not hS rfl) ?_; clear hS; intro a hS
  refine s_val hS (by decide) rfl rfl (r_move hS rfl) ?_; clear hS; intro a hS
  refine s_valg hS (by decide) rfl rfl rfl rfl rfl (r_move hS rfl) ?_; clear hS; intro a hS
  refine s_valg hS (by decide) rfl rfl rfl rfl rfl (r_lenR hS rfl (own_pr (L := []) pn_80 ho6 hM) Try.underlying26) ?_; clear hS; intro a hS
  refine s_valg hS (by decide) rfl rfl rfl rfl rfl (r_bv hS rfl (show ev _ _ = some (N 80) from rfl) gN (b_neqNt rfl)) ?_; clear hS; intro a hS
  refine s_val hS (by decide) rfl rfl (r_pick hS rfl rfl) ?_; clear hS; intro a hS
  refine s_nil ?_
  refine k_seq ?_
  refine c_false hS rfl rfl ?_
  refine c_skip ?_
  refine k_seq ?_
  refine c_seq ?_
  refine c_seq ?_
  refine c_region ?_
  refine s_val hS (by decide) rfl rfl (r_move hS rfl) ?_; clear hS; intro a hS
  refine s_valb hS (by decide) rfl rfl (r_bv hS rfl (show ev _ _ = some (.int .i64 (0)) from rfl) gZ (b_lssZ _ _ _)) (fun hc => ?_) (fun hc => ?_)
  · clear hS; intro a hS; have h1 := of_decide_eq_true hc
    refine s_val hS (by decide) rfl rfl (r_move hS rfl) ?_; clear hS; intro a hS
    refine s_skip hS (by decide) rfl rfl rfl rfl rfl ?_; clear hS; intro a hS
    refine s_skip hS (by decide) rfl rfl rfl rfl rfl ?_; clear hS; intro a hS
    refine s_val hS (by decide) rfl rfl (r_pick hS rfl rfl) ?_; clear hS; intro a hS
    refine s_nil ?_
    refine k_seq ?_
    refine c_true hS rfl rfl ?_
    refine c_seq ?_
    refine c_region ?_
    refine s_val hS (by decide) rfl rfl (r_assign hS rfl) ?_; clear hS; intro a hS
    refine s_nil ?_
    refine k_seq ?_
    refine c_ret ?_
    refine k_thenr ?_
    exact k_res1 hS rfl (RV.tmp rfl) ⟨rfl, (hM.swap).forget ho6.ge⟩
  · clear hS; intro a hS; have h1 := of_decide_eq_false hc; obtain ⟨n, rfl⟩ : ∃ j : Nat, i = (j : Int) := ⟨i.toNat, by omega⟩
    refine s_val hS (by decide) rfl rfl (r_move hS rfl) ?_; clear hS; intro a hS
    refine s_valg hS (by decide) rfl rfl rfl rfl rfl (r_move hS rfl) ?_; clear hS; intro a hS
    refine s_valgb hS (by decide) rfl rfl rfl rfl rfl (r_bv hS rfl (show ev _ _ = some (N 80) from rfl) gN (b_geqN _ _ _)) (fun hc => ?_) (fun hc => ?_)
    · clear hS; intro a hS; have h2 := of_decide_eq_true hc
      refine s_val hS (by decide) rfl rfl (r_pick hS rfl rfl) ?_; clear hS; intro a hS
      refine s_nil ?_
      refine k_seq ?_
      refine c_true hS rfl rfl ?_
      refine c_seq ?_
      refine c_region ?_
      refine s_val hS (by decide) rfl rfl (r_assign hS rfl) ?_; clear hS; intro a hS
      refine s_nil ?_
      refine k_seq ?_
      refine c_ret ?_
      refine k_thenr ?_
      exact k_res1 hS rfl (RV.tmp rfl) ⟨rfl, (hM.swap).forget ho6.ge⟩
    · clear hS; intro a hS; have h2 := of_decide_eq_false hc
      refine s_val hS (by decide) rfl rfl (r_pick hS rfl rfl) ?_; clear hS; intro a hS
      refine s_nil ?_
      refine k_seq ?_
      refine c_false hS rfl rfl ?_
      refine c_skip ?_
      refine k_seq ?_
      refine c_seq ?_
      refine c_seq ?_
      by_cases h8 : n < 8
      · skip
        refine c_plan 22 (fun w => Mem w0 w _) [(0, _), (4, _), (2, _)] (by kernel_rfl) (by kernel_rfl) hS ⟨rfl, rfl, rfl, trivial⟩ (hM.drawn _) ?_; clear hS hM
        refine p_step rfl (fun a w hS hM => y_val rfl (r_move hS rfl)) ?_
        refine p_step rfl (fun a w hS hM => y_val rfl (r_bv hS rfl (show ev _ _ = some (N 8) from rfl) gN (b_lssNt h8))) ?_
        refine p_step rfl (fun a w hS hM => y_val rfl (r_move hS rfl)) ?_
        refine p_step rfl (fun a w hS hM => y_callg (by kernel_rfl) hS rfl rfl rfl rfl ((begin_ok _).mem hM)) ?_
        refine p_step rfl (fun a w hS hM => y_valg hS rfl rfl rfl rfl (r_move hS rfl)) ?_
        refine p_step rfl (fun a w hS hM => y_valg hS rfl rfl rfl rfl (r_index hS rfl rfl Try.underlying29 sz22 Try.underlying22 rfl (by omega) (cells_get' (by omega)))) ?_
        refine p_step rfl (fun a w hS hM => y_valg hS rfl rfl rfl rfl (r_move hS rfl)) ?_
        refine p_step rfl (fun a w hS hM => y_valg hS rfl rfl rfl rfl (r_move hS rfl)) ?_
        refine p_step rfl (fun a w hS hM => y_valg hS rfl rfl rfl rfl (r_indexR hS rfl (own_pr (L := []) pn_80 ho6 hM) rfl Try.underlying26 sz22 (by omega))) ?_
        refine p_step rfl (fun a w hS hM => y_valg hS rfl rfl rfl rfl (r_loadR hS rfl (own_pr (L := []) pn_80 ho6 hM) (by omega) Try.underlying22 rfl)) ?_
        refine p_step rfl (fun a w hS hM => y_callg (by kernel_rfl) hS rfl rfl rfl rfl ((square_ok _ _).mem hM)) ?_
        refine p_step rfl (fun a w hS hM => y_valg hS rfl rfl rfl rfl (r_bv hS rfl rfl gU (b_neqUt (tab1 h8)))) ?_
        refine p_step rfl (fun a w hS hM => y_valg hS rfl rfl rfl rfl (r_move hS rfl)) ?_
        refine p_step rfl (fun a w hS hM => y_callg (by kernel_rfl) hS rfl rfl rfl rfl ((begin_ok _).mem hM)) ?_
        refine p_step rfl (fun a w hS hM => y_valg hS rfl rfl rfl rfl (r_move hS rfl)) ?_
        refine p_step rfl (fun a w hS hM => y_valg hS rfl rfl rfl rfl (r_index hS rfl rfl Try.underlying29 sz22 Try.underlying22 rfl (by omega) (cells_get' (by omega)))) ?_
        refine p_step rfl (fun a w hS hM => y_callg (by kernel_rfl) hS rfl rfl rfl rfl ((rbegin_ok _).mem hM)) ?_
        refine p_step rfl (fun a w hS hM => y_valg hS rfl rfl rfl rfl (r_move hS rfl)) ?_
        refine p_step rfl (fun a w hS hM => y_valg hS rfl rfl rfl rfl (r_index hS rfl rfl Try.underlying29 sz22 Try.underlying22 rfl (by omega) (cells_get' (by omega)))) ?_
        refine p_step rfl (fun a w hS hM => y_valg hS rfl rfl rfl rfl (r_bv hS rfl rfl gU (b_neqUt rfl))) ?_
        refine p_step rfl (fun a w hS hM => y_valg hS rfl rfl rfl rfl (r_pick hS rfl rfl)) ?_
        refine p_step rfl (fun a w hS hM => y_val rfl (r_pick hS rfl rfl)) ?_
        refine p_nil rfl ?_; intro a w hS hM
        refine s_nil ?_
        refine k_seq ?_
        refine c_false hS rfl rfl ?_
        refine c_skip ?_
        refine k_seq ?_
        refine c_seq ?_
        refine c_plan 19 (fun w => Mem w0 w _) [(0, _), (4, _)] (by kernel_rfl) (by kernel_rfl) hS ⟨rfl, rfl, trivial⟩ (hM.drawn _) ?_; clear hS hM
        refine p_step rfl (fun a w hS hM => y_call (by kernel_rfl) hS rfl ((rounds_ok _).mem hM)) ?_
        refine p_step rfl (fun a w hS hM => y_val rfl (r_move hS rfl)) ?_
        refine p_step rfl (fun a w hS hM => y_val rfl (r_index hS rfl rfl Try.underlying31 sz22 Try.underlying22 rfl (by omega) (cells_get' (by omega)))) ?_
        refine p_step rfl (fun a w hS hM => y_val rfl (r_move hS rfl)) ?_
        refine p_step rfl (fun a w hS hM => y_val rfl (r_move hS rfl)) ?_
        refine p_step rfl (fun a w hS hM => y_val rfl (r_indexR hS rfl (own_pr (L := []) pn_80 ho6 hM) rfl Try.underlying26 sz22 (by omega))) ?_
        refine p_step rfl (fun a w hS hM => y_val rfl (r_loadR hS rfl (own_pr (L := []) pn_80 ho6 hM) (by omega) Try.underlying22 rfl)) ?_
        refine p_step rfl (fun a w hS hM => y_call (by kernel_rfl) hS rfl ((cube_ok _ _).mem hM)) ?_
        refine p_step rfl (fun a w hS hM => y_val rfl (r_bv hS rfl rfl gU (b_eqlUt (tab2 (by omega))))) ?_
        refine p_step rfl (fun a w hS hM => y_val rfl (r_move hS rfl)) ?_
        refine p_step rfl (fun a w hS hM => y_callg (by kernel_rfl) hS rfl rfl rfl rfl ((rounds_ok _).mem hM)) ?_
        refine p_step rfl (fun a w hS hM => y_valg hS rfl rfl rfl rfl (r_move hS rfl)) ?_
        refine p_step rfl (fun a w hS hM => y_valg hS rfl rfl rfl rfl (r_index hS rfl rfl Try.underlying31 sz22 Try.underlying22 rfl (by omega) (cells_get' (by omega)))) ?_
        refine p_step rfl (fun a w hS hM => y_callg (by kernel_rfl) hS rfl rfl rfl rfl ((rrounds_ok _).mem hM)) ?_
        refine p_step rfl (fun a w hS hM => y_valg hS rfl rfl rfl rfl (r_move hS rfl)) ?_
        refine p_step rfl (fun a w hS hM => y_valg hS rfl rfl rfl rfl (r_index hS rfl rfl Try.underlying31 sz22 Try.underlying22 rfl (by omega) (cells_get' (by omega)))) ?_
        refine p_step rfl (fun a w hS hM => y_valg hS rfl rfl rfl rfl (r_bv hS rfl rfl gU (b_eqlUt rfl))) ?_
        refine p_step rfl (fun a w hS hM => y_val rfl (r_pick hS rfl rfl)) ?_
        refine p_step rfl (fun a w hS hM => y_val rfl (r_assign hS rfl)) ?_
        refine p_nil rfl ?_; intro a w hS hM
        refine s_nil ?_
        refine k_seq ?_
        refine c_ret ?_
        exact k_res1 hS rfl (RV.tmp rfl) ⟨rfl, (hM.swap).forget ho6.ge⟩
      · skip
        refine c_plan 22 (fun w => Mem w0 w _) [(0, _), (4, _), (2, _)] (by kernel_rfl) (by kernel_rfl) hS ⟨rfl, rfl, rfl, trivial⟩ (hM.drawn _) ?_; clear hS hM
        refine p_step rfl (fun a w hS hM => y_val rfl (r_move hS rfl)) ?_
        refine p_step rfl (fun a w hS hM => y_val rfl (r_bv hS rfl (show ev _ _ = some (N 8) from rfl) gN (b_lssNf h8))) ?_
        refine p_step rfl (fun a w hS hM => y_val rfl (r_move hS rfl)) ?_
        refine p_step rfl (fun a w hS hM => y_skip hS rfl rfl rfl rfl) ?_
        refine p_step rfl (fun a w hS hM => y_skip hS rfl rfl rfl rfl) ?_
        refine p_step rfl (fun a w hS hM => y_skip hS rfl rfl rfl rfl) ?_
        refine p_step rfl (fun a w hS hM => y_skip hS rfl rfl rfl rfl) ?_
        refine p_step rfl (fun a w hS hM => y_skip hS rfl rfl rfl rfl) ?_
        refine p_step rfl (fun a w hS hM => y_skip hS rfl rfl rfl rfl) ?_
        refine p_step rfl (fun a w hS hM => y_skip hS rfl rfl rfl rfl) ?_
        refine p_step rfl (fun a w hS hM => y_skip hS rfl rfl rfl rfl) ?_
        refine p_step rfl (fun a w hS hM => y_skip hS rfl rfl rfl rfl) ?_
        refine p_step rfl (fun a w hS hM => y_skip hS rfl rfl rfl rfl) ?_
        refine p_step rfl (fun a w hS hM => y_skipu hS rfl rfl rfl rfl) ?_
        refine p_step rfl (fun a w hS hM => y_skipu hS rfl rfl rfl rfl) ?_
        refine p_step rfl (fun a w hS hM => y_skipu hS rfl rfl rfl rfl) ?_
        refine p_step rfl (fun a w hS hM => y_skipu hS rfl rfl rfl rfl) ?_
        refine p_step rfl (fun a w hS hM => y_skipu hS rfl rfl rfl rfl) ?_
        refine p_step rfl (fun a w hS hM => y_skipu hS rfl rfl rfl rfl) ?_
        refine p_step rfl (fun a w hS hM => y_skipu hS rfl rfl rfl rfl) ?_
        refine p_step rfl (fun a w hS hM => y_skip hS rfl rfl rfl rfl) ?_
        refine p_step rfl (fun a w hS hM => y_val rfl (r_pick hS rfl rfl)) ?_
        refine p_nil rfl ?_; intro a w hS hM
        refine s_nil ?_
        refine k_seq ?_
        refine c_false hS rfl rfl ?_
        refine c_skip ?_
        refine k_seq ?_
        refine c_seq ?_
        refine c_plan 19 (fun w => Mem w0 w _) [(0, _), (4, _)] (by kernel_rfl) (by kernel_rfl) hS ⟨rfl, rfl, trivial⟩ (hM.drawn _) ?_; clear hS hM
        refine p_step rfl (fun a w hS hM => y_call (by kernel_rfl) hS rfl ((rounds_ok _).mem hM)) ?_
        refine p_step rfl (fun a w hS hM => y_val rfl (r_move hS rfl)) ?_
        refine p_step rfl (fun a w hS hM => y_val rfl (r_index hS rfl rfl Try.underlying31 sz22 Try.underlying22 rfl (by omega) (cells_get' (by omega)))) ?_
        refine p_step rfl (fun a w hS hM => y_val rfl (r_move hS rfl)) ?_
        refine p_step rfl (fun a w hS hM => y_val rfl (r_move hS rfl)) ?_
        refine p_step rfl (fun a w hS hM => y_val rfl (r_indexR hS rfl (own_pr (L := []) pn_80 ho6 hM) rfl Try.underlying26 sz22 (by omega))) ?_
        refine p_step rfl (fun a w hS hM => y_val rfl (r_loadR hS rfl (own_pr (L := []) pn_80 ho6 hM) (by omega) Try.underlying22 rfl)) ?_
        refine p_step rfl (fun a w hS hM => y_call (by kernel_rfl) hS rfl ((cube_ok _ _).mem hM)) ?_
        refine p_step rfl (fun a w hS hM => y_val rfl (r_bv hS rfl rfl gU (b_eqlUt (tab2 (by omega))))) ?_
        refine p_step rfl (fun a w hS hM => y_val rfl (r_move hS rfl)) ?_
        refine p_step rfl (fun a w hS hM => y_callg (by kernel_rfl) hS rfl rfl rfl rfl ((rounds_ok _).mem hM)) ?_
        refine p_step rfl (fun a w hS hM => y_valg hS rfl rfl rfl rfl (r_move hS rfl)) ?_
        refine p_step rfl (fun a w hS hM => y_valg hS rfl rfl rfl rfl (r_index hS rfl rfl Try.underlying31 sz22 Try.underlying22 rfl (by omega) (cells_get' (by omega)))) ?_
        refine p_step rfl (fun a w hS hM => y_callg (by kernel_rfl) hS rfl rfl rfl rfl ((rrounds_ok _).mem hM)) ?_
        refine p_step rfl (fun a w hS hM => y_valg hS rfl rfl rfl rfl (r_move hS rfl)) ?_
        refine p_step rfl (fun a w hS hM => y_valg hS rfl rfl rfl rfl (r_index hS rfl rfl Try.underlying31 sz22 Try.underlying22 rfl (by omega) (cells_get' (by omega)))) ?_
        refine p_step rfl (fun a w hS hM => y_valg hS rfl rfl rfl rfl (r_bv hS rfl rfl gU (b_eqlUt rfl))) ?_
        refine p_step rfl (fun a w hS hM => y_val rfl (r_pick hS rfl rfl)) ?_
        refine p_step rfl (fun a w hS hM => y_val rfl (r_assign hS rfl)) ?_
        refine p_nil rfl ?_; intro a w hS hM
        refine s_nil ?_
        refine k_seq ?_
        refine c_ret ?_
        exact k_res1 hS rfl (RV.tmp rfl) ⟨rfl, (hM.swap).forget ho6.ge⟩

set_option maxRecDepth 100000 in
theorem rootsPrimes_ok (n : Int) (w0 : World) : Pure Try.prog 4 #[.int .i64 n] w0 (.bool true) := by
  refine ⟨by kernel_rfl, ?_⟩
  refine calls_sym Try.func4 rfl (by kernel_rfl) ?_
  intro a hS
  have hM : Mem w0 w0 [] := Mem.refl w0
  refine c_seq ?_
  refine c_region ?_
  refine s_val hS (by decide) rfl rfl (r_assign hS rfl) ?_; clear hS; intro a hS
  refine s_nil ?_
  refine k_seq ?_
  refine c_seq ?_
  refine c_region ?_
  refine s_pure hS hM (by decide) rfl (alive6_ok _) ?_; clear hS hM; intro a w hS hM
  refine s_val hS (by decide) rfl rfl (r_assign hS rfl) ?_; clear hS; intro a hS
  refine s_nil ?_
  refine k_seq ?_
  refine c_seq ?_
  refine c_region ?_
  refine s_val hS (by decide) rfl rfl (r_move hS rfl) ?_; clear hS; intro a hS
  refine s_fresh hS hM (by decide) rfl (primes_ok _ _) ?_; clear hS hM; intro a w v9 L9 ho9 hS hM
  replace hM := hM.swap
  refine s_val hS (by decide) rfl rfl (r_assign hS rfl) ?_; clear hS; intro a hS
  refine s_nil ?_
  refine k_seq ?_
  refine c_seq ?_
  refine c_region ?_
  refine s_val hS (by decide) rfl rfl (r_move hS rfl) ?_; clear hS; intro a hS
  refine s_fresh hS hM (by decide) rfl (rprimes_ok _ _) ?_; clear hS hM; intro a w v11 L11 ho11 hS hM
  refine s_val hS (by decide) rfl rfl (r_assign hS rfl) ?_; clear hS; intro a hS
  refine s_nil ?_
  refine k_seq ?_
  refine c_seq ?_
  refine c_seq ?_
  refine c_region ?_
  refine s_val hS (by decide) rfl rfl (r_move hS rfl) ?_; clear hS; intro a hS
  refine s_val hS (by decide) rfl rfl (r_not hS rfl) ?_; clear hS; intro a hS
  refine s_val hS (by decide) rfl rfl (r_move hS rfl) ?_; clear hS; intro a hS
  refine s_valg hS (by decide) rfl rfl rfl rfl rfl (r_move hS rfl) ?_; clear hS; intro a hS
  refine s_valg hS (by decide) rfl rfl rfl rfl rfl (r_lenR hS rfl (own_pr (L := []) rfl ho9 (hM.forget ho11.ge)) Try.underlying26) ?_; clear hS; intro a hS
  refine s_valg hS (by decide) rfl rfl rfl rfl rfl (r_move hS rfl) ?_; clear hS; intro a hS
  refine s_valg hS (by decide) rfl rfl rfl rfl rfl (r_lenR hS rfl (own_pr (L := [] ++ L9) rfl ho11 hM.swap) Try.underlying26) ?_; clear hS; intro a hS
  refine s_valg hS (by decide) rfl rfl rfl rfl rfl (r_bv hS rfl rfl gN (b_neqNt rfl)) ?_; clear hS; intro a hS
  refine s_val hS (by decide) rfl rfl (r_pick hS rfl rfl) ?_; clear hS; intro a hS
  refine s_nil ?_
  refine k_seq ?_
  refine c_false hS rfl rfl ?_
  refine c_skip ?_
  refine k_seq ?_
  refine c_seq ?_
  refine c_seq ?_
  refine c_region ?_
  refine s_val hS (by decide) rfl rfl (r_assign hS (show ev _ _ = some (N 0) from rfl)) ?_; clear hS; intro a hS
  refine s_nil ?_
  refine k_seq ?_
  refine c_block ?_
  refine c_loop (σ := Nat) (fun k a w => (k ≤ pn n) ∧ Slots a 36 (env [(4, v9), (5, v11), (6, N k)]) ∧ Mem w0 w (L11 ++ ([] ++ L9))) (fun k => pn n - k) (0) ⟨by omega, hS.to _ ⟨rfl, rfl, rfl, trivial⟩, hM⟩ ?_
  clear hS hM; rintro k a w ⟨hk, hS, hM⟩
  have hpn := pn_le n
  refine c_seq ?_
  refine c_seq ?_
  refine c_region ?_
  refine s_val hS (by decide) rfl rfl (r_move hS rfl) ?_; clear hS; intro a hS
  refine s_val hS (by decide) rfl rfl (r_move hS rfl) ?_; clear hS; intro a hS
  refine s_val hS (by decide) rfl rfl (r_lenR hS rfl (own_pr (L := []) rfl ho9 (hM.forget ho11.ge)) Try.underlying26) ?_; clear hS; intro a hS
  refine s_val hS (by decide) rfl rfl (r_bv hS rfl rfl gN (b_lssN _ _ _)) ?_; clear hS; intro a hS
  refine s_nil ?_
  refine k_seq ?_
  refine c_cond hS rfl (fun hc => ?_) (fun hc => ?_)
  · have hk1 := of_decide_eq_true hc
    refine c_skip ?_
    refine k_seq ?_
    refine c_seq ?_
    refine c_block ?_
    refine c_seq ?_
    refine c_plan 9 (fun w => Mem w0 w _) [(4, _), (6, _), (5, _), (21, _), (22, _), (23, _), (24, _)] (by kernel_rfl) (by kernel_rfl) hS ⟨rfl, rfl, rfl, rfl, rfl, rfl, rfl, trivial⟩ (hM.drawn _) ?_; clear hS hM
    refine p_step rfl (fun a w hS hM => y_val rfl (r_move hS rfl)) ?_
    refine p_step rfl (fun a w hS hM => y_val rfl (r_move hS rfl)) ?_
    refine p_step rfl (fun a w hS hM => y_val rfl (r_indexR hS rfl (own_pr (L := []) rfl ho9 (hM.forget ho11.ge)) rfl Try.underlying26 sz22 (by omega))) ?_
    refine p_step rfl (fun a w hS hM => y_val rfl (r_loadR hS rfl (own_pr (L := []) rfl ho9 (hM.forget ho11.ge)) (by omega) Try.underlying22 rfl)) ?_
    refine p_step rfl (fun a w hS hM => y_val rfl (r_move hS rfl)) ?_
    refine p_step rfl (fun a w hS hM => y_val rfl (r_move hS rfl)) ?_
    refine p_step rfl (fun a w hS hM => y_val rfl (r_indexR hS rfl (own_pr (L := [] ++ L9) rfl ho11 hM.swap) rfl Try.underlying26 sz22 (by omega))) ?_
    refine p_step rfl (fun a w hS hM => y_val rfl (r_loadR hS rfl (own_pr (L := [] ++ L9) rfl ho11 hM.swap) (by omega) Try.underlying22 rfl)) ?_
    refine p_step rfl (fun a w hS hM => y_val rfl (r_bv hS rfl rfl gU (b_neqUt rfl))) ?_
    refine p_nil rfl ?_; intro a w hS hM
    refine s_nil ?_
    refine k_seq ?_
    refine c_false hS rfl rfl ?_
    refine c_skip ?_
    refine k_in ?_
    refine k_seq ?_
    refine c_region ?_
    refine s_val hS (by decide) rfl rfl (r_move hS rfl) ?_; clear hS; intro a hS
    refine s_val hS (by decide) rfl rfl (r_bv hS rfl (show ev _ _ = some (N 1) from rfl) gN (b_addN _ _ _ (by omega))) ?_; clear hS; intro a hS
    refine s_val hS (by decide) rfl rfl (r_assign hS rfl) ?_; clear hS; intro a hS
    refine s_nil ?_
    refine k_then ?_
    refine ⟨k + 1, by omega, by omega, hS.to _ ⟨rfl, rfl, rfl, trivial⟩, hM⟩
  · skip
    refine c_exit ?_
    refine k_thenx ?_
    refine k_thenx ?_
    refine k_inx ?_
    refine k_seq ?_
    refine c_seq ?_
    refine c_region ?_
    refine s_val hS (by decide) rfl rfl (r_assign hS rfl) ?_; clear hS; intro a hS
    refine s_nil ?_
    refine k_seq ?_
    refine c_ret ?_
    exact k_res1 hS rfl (RV.tmp rfl) ⟨rfl, ((hM.forget ho11.ge).swap).forget ho9.ge⟩
end Go.Proofs.Ytedlgmjpifokdaa
