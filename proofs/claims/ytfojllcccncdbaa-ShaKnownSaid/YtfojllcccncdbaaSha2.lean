/-
  A hash as a row of cells, and what becomes of it when a part is written. No program is in sight here.
-/
import Derived.Test.YtfojllcccncdbaaSha
import Derived.Test.YtfojllcccncdbaaSymObj
namespace Go.Sym
open Go

def hC (bg : Bool) (s : Nat → BitVec 64) (n : Nat) (w : Nat → BitVec 8) : List Value := [.bool bg] ++ cU 8 s ++ ([N n] ++ cB 128 w)
section
variable (bg : Bool) (s : Nat → BitVec 64) (n : Nat) (w : Nat → BitVec 8)
theorem hC_len : (hC bg s n w).length = 138 := by simp [hC, cells_len]
theorem hC_bg : (hC bg s n w)[0]? = some (.bool bg) := rfl
theorem hC_n : (hC bg s n w)[9]? = some (N n) := rfl
theorem hC_split : hC bg s n w = [.bool bg] ++ cU 8 s ++ ([N n] ++ cB 128 w) := rfl
theorem hC_front : ([.bool bg] ++ cU 8 s ++ [N n] : List Value).length = 10 := rfl
theorem hC_back : hC bg s n w = ([.bool bg] ++ cU 8 s ++ [N n]) ++ cB 128 w := by unfold hC; simp
theorem hC_w {i : Nat} (h : i < 128) : (hC bg s n w)[10 + i]? = some (B (w i)) := by
  rw [hC_back, List.getElem?_append_right (by rw [hC_front]; omega), hC_front, Nat.add_sub_cancel_left]
  exact cells_get h
theorem hC_s {i : Nat} (h : i < 8) : (hC bg s n w)[1 + i]? = some (U (s i)) := by
  rw [hC_split, List.append_assoc, List.getElem?_append_right (by simp), show 1 + i - [Value.bool bg].length = i by simp, List.getElem?_append_left (by rw [cells_len]; exact h)]
  exact cells_get h
theorem hC_one : ∀ v ∈ hC bg s n w, v.oneCell' = true := fun v hv => by
  unfold hC at hv
  simp only [List.mem_append, List.mem_singleton] at hv
  rcases hv with (rfl | h) | rfl | h
  · rfl
  · exact cU_one v h
  · rfl
  · exact cB_one v h
theorem hC_set_n (m : Nat) : (hC bg s n w).set 9 (N m) = hC bg s m w := rfl
theorem hC_set_w {i : Nat} (c : BitVec 8) (h : i < 128) : (hC bg s n w).set (10 + i) (B c) = hC bg s n (upd w i c) := by
  rw [hC_back, hC_back, List.set_append_right _ _ (by rw [hC_front]; omega), hC_front, Nat.add_sub_cancel_left, cB_set]
theorem hC_set_s {i : Nat} (x : BitVec 64) (h : i < 8) : (hC bg s n w).set (1 + i) (U x) = hC bg (upd s i x) n w := by
  rw [hC_split, hC_split, List.append_assoc, List.append_assoc, List.set_append_right _ _ (by simp), show 1 + i - [Value.bool bg].length = i by simp, List.set_append_left _ _ (by rw [cells_len]; exact h), cU_set]
theorem hC_splice_s (s' : Nat → BitVec 64) : splice (hC bg s n w) 1 (cU 8 s') = hC bg s' n w := by
  rw [hC_split, hC_split]
  exact splice_spec (cU 8 s') [.bool bg] (cU 8 s) ([N n] ++ cB 128 w) (by rw [cells_len, cells_len])
theorem hC_splice_w (w' : Nat → BitVec 8) : splice (hC bg s n w) 10 (cB 128 w') = hC bg s n w' := by
  rw [hC_back, hC_back]
  have := splice_spec (cB 128 w') ([.bool bg] ++ cU 8 s ++ [N n]) (cB 128 w) [] (by rw [cells_len, cells_len])
  rw [List.append_nil, List.append_nil, hC_front] at this
  exact this
end
theorem hC_rd {w0 w : World} {L : List Blk} {b j m : Nat} {bg : Bool} {s : Nat → BitVec 64} {n : Nat} {f : Nat → BitVec 8} (hM : Mem w0 w L) (hj : L[j]? = some ⟨b, 56, hC bg s n f⟩) (hm : m ≤ 128) : Rd w (.slice (some ⟨b, 10, none⟩) m 128) m (fun i => B (f i)) :=
  Rd.of_mem hM hj hm (fun i hi => hC_w bg s n f (by omega))
theorem hC_congr {bg : Bool} {s s' : Nat → BitVec 64} {n : Nat} {w w' : Nat → BitVec 8} (h : ∀ i, i < 8 → s i = s' i) (hw : ∀ i, i < 128 → w i = w' i) : hC bg s n w = hC bg s' n w' := by
  unfold hC; rw [cU_congr h, cB_congr hw]
theorem ne_one {b : Nat} {t : TypeId} {cs : List Value} {v : Value} {m : Nat} (h : 0 < m → rb v ≠ b) (hm : 0 < m) : ∀ e ∈ ([⟨b, t, cs⟩] : List Blk), e.b ≠ rb v := fun e he => by
  simp only [List.mem_singleton] at he
  subst he
  exact fun q => h hm q.symm
theorem snocB (j : Nat) (f : Nat → BitVec 8) : cB j f ++ [B (f j)] = cB (j + 1) f := cells_snoc (F := fun i => B (f i))
theorem snoc_be (j : Nat) (x : BitVec 64) : cB j (be x) ++ cells 1 (fun _ => B (BitVec.setWidth 8 (x >>> (56 - 8 * j)))) = cB (j + 1) (be x) := snocB j (be x)
theorem flat_at (s : Nat → BitVec 64) {k i : Nat} (h : i < 8) : flatB s (8 * k + i) = be (s k) i := by
  unfold flatB
  rw [show (8 * k + i) / 8 = k by omega, show (8 * k + i) % 8 = i by omega]
theorem catB (k : Nat) (s : Nat → BitVec 64) : cB (8 * k) (flatB s) ++ cB 8 (be (s k)) = cB (8 * (k + 1)) (flatB s) := by
  unfold cB
  rw [cells_append]
  refine cells_congr fun i hi => ?_
  split
  · rfl
  · rename_i h
    rw [← flat_at s (show i - 8 * k < 8 by omega), show 8 * k + (i - 8 * k) = i by omega]
def hH (bg : Bool) (h : HS) : List Value := hC bg h.s h.n h.w
/-- What a hash stands for. -/
theorem hH_n (bg : Bool) (h : HS) : (hH bg h)[9]? = some (N h.n) := rfl
theorem hH_bg (bg : Bool) (h : HS) : (hH bg h)[0]? = some (.bool bg) := rfl
theorem puts_one (h : HS) (c : BitVec 8) (k : Nat) : (h.puts (fun _ => c) k).puts (fun _ => c) 1 = h.puts (fun _ => c) (k + 1) := rfl
theorem nodup_at {L : List Blk} {i j : Nat} {e1 e2 : Blk} (h : (L.map (·.b)).Nodup) (hi : L[i]? = some e1) (hj : L[j]? = some e2) (hij : i ≠ j) : e1.b ≠ e2.b := fun e => by
  have h1 : (L.map (·.b))[i]? = some e1.b := by rw [List.getElem?_map, hi]; rfl
  have h2 : (L.map (·.b))[j]? = some e2.b := by rw [List.getElem?_map, hj]; rfl
  exact hij ((List.getElem?_inj (List.getElem?_eq_some_iff.1 h1).1 h).1 (by rw [h1, h2, e]))
theorem Mem.ne_at {w0 w : World} {L : List Blk} {i j : Nat} {b1 b2 : Nat} {t1 t2 : TypeId} {c1 c2 : List Value} (hM : Mem w0 w L) (hi : L[i]? = some ⟨b1, t1, c1⟩) (hj : L[j]? = some ⟨b2, t2, c2⟩) (hij : i ≠ j) : b1 ≠ b2 := nodup_at hM.nodup hi hj hij
theorem own_ne {w0 w : World} {L Lx : List Blk} {m0 : Nat} {e : TypeId} {v : Value} {m j b : Nat} {F : Nat → Value} {t : TypeId} {c : List Value} (ho : Own m0 e v (cells m F) Lx) (hM : Mem w0 w (L ++ Lx)) (hj : L[j]? = some ⟨b, t, c⟩) (hm : 0 < m) : rb v ≠ b := by
  obtain ⟨b', cap, sp, rfl, _, _, rfl⟩ := ho.some (by rw [cells_len]; exact hm)
  have hl : j < L.length := (List.getElem?_eq_some_iff.1 hj).1
  have h1 : (L ++ [⟨b', e, cells m F ++ sp⟩])[j]? = some ⟨b, t, c⟩ := by rw [List.getElem?_append_left hl]; exact hj
  have h2 : (L ++ [⟨b', e, cells m F ++ sp⟩])[L.length]? = some ⟨b', e, cells m F ++ sp⟩ := by simp
  exact hM.ne_at h2 h1 (by omega)
def asH (bg : Bool) (h : HS) : HS := if bg then h else HS.zero
def mid1 (g : HS) : Nat → BitVec 8 := fun i => if i < 64 then flatB g.s i else 0#8
def mid2 (g : HS) : Nat → BitVec 8 := fun i => if i < 64 then flatB g.s i else if i < 72 then be (BitVec.ofNat 64 g.n) (i - 64) else 0#8
theorem mid_s1 (g : HS) : splice (cB 200 (fun _ => 0)) 0 (cells (min 64 200) (fun i => B (flatB g.s i))) = cB 200 (mid1 g) := by
  unfold cB
  rw [splice_cells (by decide)]
  refine cells_congr fun i hi => ?_
  unfold mid1
  by_cases h : i < 64
  · rw [if_pos h, if_pos (by omega)]; rfl
  · rw [if_neg h, if_neg (by omega)]; rfl
theorem mid_s2 (g : HS) : splice (cB 200 (mid1 g)) 64 (cells (min 8 136) (fun i => B (be (BitVec.ofNat 64 g.n) i))) = cB 200 (mid2 g) := by
  unfold cB
  rw [splice_cells (by decide)]
  refine cells_congr fun i hi => ?_
  unfold mid1 mid2
  by_cases h : i < 64
  · rw [if_neg (by omega), if_pos h, if_pos h]
  · by_cases h2 : i < 72
    · rw [if_pos (by omega), if_neg h, if_pos h2]
    · rw [if_neg (by omega), if_neg h, if_neg h, if_neg h2]
theorem mid_s3 (g : HS) : splice (cB 200 (mid2 g)) 72 (cells (min (g.n % 128) 128) (fun i => B (g.w i))) = cB 200 (midF g) := by
  unfold cB
  rw [splice_cells (by omega)]
  refine cells_congr fun i hi => ?_
  unfold mid2 midF
  by_cases h : i < 64
  · rw [if_neg (by omega), if_pos h, if_pos h]
  · by_cases h2 : i < 72
    · rw [if_neg (by omega), if_neg h, if_neg h, if_pos h2, if_pos h2]
    · rw [if_neg h, if_neg h, if_neg h2, if_neg h2]
      by_cases h3 : i < 72 + g.n % 128
      · rw [if_pos (by omega), if_pos h3]
      · rw [if_neg (by omega), if_neg h3]
end Go.Sym
