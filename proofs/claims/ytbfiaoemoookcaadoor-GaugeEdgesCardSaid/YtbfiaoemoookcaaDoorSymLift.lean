/-
  From a law's walk to its row: what the walk is told of the arguments. No program is in sight here.
-/
import Derived.Test.YtbfiaoemoookcaaDoorSymSlice
import Derived.ProofKit
import Derived.OpenShut
import Derived.ShutString
import Derived.ChangeOld
import Derived.ChangeSlices
import Derived.DataReads
import Derived.Carry
import Derived.JoinedTies
import Derived.RowKit
namespace Go.Sym
open Go Go.RowKit Go.ChangeShapes Go.WideShapes Go.ChangeAt

section
variable {H : Type} {enc : TypeId × Value → H} {P : Program} {W : World} {base : Nat} {sp : Nat → Bool} {held : Bool}

theorem wf_u64 {z : Int} (h : (Lit.int .u64 z).wf = true) : Value.int .u64 z = U (BitVec.ofInt 64 z) := by
  simp only [Lit.wf, IntKind.min, IntKind.max, IntKind.signed, IntKind.bits, Bool.and_eq_true] at h
  unfold U
  rw [BitVec.toNat_ofInt]
  congr 1
  simp at h
  omega
theorem wf_u32 {z : Int} (h : (Lit.int .u32 z).wf = true) : Value.int .u32 z = Go.Sym.W (BitVec.ofInt 32 z) := by
  simp only [Lit.wf, IntKind.min, IntKind.max, IntKind.signed, IntKind.bits, Bool.and_eq_true] at h
  unfold Go.Sym.W
  rw [BitVec.toNat_ofInt]
  congr 1
  simp at h
  omega
theorem wf_u8 {z : Int} (h : (Lit.int .u8 z).wf = true) : Value.int .u8 z = B (BitVec.ofInt 8 z) := by
  simp only [Lit.wf, IntKind.min, IntKind.max, IntKind.signed, IntKind.bits, Bool.and_eq_true] at h
  unfold B
  rw [BitVec.toNat_ofInt]
  congr 1
  simp at h
  omega
theorem wf_i64 {z : Int} (h : (Lit.int .i64 z).wf = true) : -9223372036854775808 ≤ z ∧ z < 9223372036854775808 := by
  simp only [Lit.wf, IntKind.min, IntKind.max, IntKind.signed, IntKind.bits, Bool.and_eq_true] at h
  simp at h
  omega

/-- an array of numbers -/
theorem open_row {r : Reach} {b0 m : Nat} {t e : TypeId} {k : IntKind} {v : Value} {d : DataW H} {ps : List MemPlace} (ht : P.underlying t = some (.array m e)) (he : P.underlying e = some (.int k)) (hc : P.cellsOf t = m) (hc1 : P.cellsOf e = 1)
    (hval : Value.okWide P W r b0 t v) (hd : DataW.Trod enc P W base sp held t v d ps) : ∃ f : Nat → Int, v = .agg (cells m (fun i => .int k (f i))).toArray ∧ ∀ i, i < m → (Lit.int k (f i)).wf = true := by
  simp only [Value.okWide, ht] at hval
  obtain ⟨cs, rfl, hsz, _⟩ := hval
  obtain ⟨fuel, hf⟩ := hd
  cases fuel with
  | zero => simp [DataW.trod] at hf
  | succ fuel =>
    have hl : cs.toList.length = m := by rw [Array.length_toList, hsz, hc]
    rw [DataW.trod_step] at hf
    unfold DataW.trodStep at hf
    simp only [ht, Value.cells] at hf
    rw [if_pos (by rw [hl, hc])] at hf
    simp only [Option.map_eq_some_iff] at hf
    obtain ⟨ys, hy, _⟩ := hf
    have each : ∀ i, i < m → ∃ z, cs.toList[i]? = some (.int k z) ∧ (Lit.int k z).wf = true := by
      intro i hi
      have hlen := mapM_some_length hy
      have h1 := mapM_some_get hy i i (by simp [hi])
      rw [List.length_range] at hlen
      rw [List.getElem?_eq_getElem (by omega)] at h1
      obtain ⟨z, hz, _, hw⟩ := DataW.trod_int he h1
      refine ⟨z, ?_, hw⟩
      rw [hc1, Nat.mul_one] at hz
      have h2 : ((cs.toList.drop i).take 1)[0]? = some (.int k z) := by rw [hz]; rfl
      rw [List.getElem?_take, if_pos (by decide), List.getElem?_drop, Nat.add_zero] at h2
      exact h2
    refine ⟨fun i => match cs.toList[i]? with | some (.int _ z) => z | _ => 0, ?_, ?_⟩
    · congr 1
      apply Array.ext'
      simp only
      apply List.ext_getElem?
      intro i
      by_cases hi : i < m
      · obtain ⟨z, hz, _⟩ := each i hi
        rw [cells_get hi, hz]
      · rw [List.getElem?_eq_none (by omega), List.getElem?_eq_none (by rw [cells_len]; omega)]
    · intro i hi
      obtain ⟨z, hz, hw⟩ := each i hi
      simp only [hz]
      exact hw

theorem open_rowB {r : Reach} {b0 m : Nat} {t e : TypeId} {v : Value} {d : DataW H} {ps : List MemPlace} (ht : P.underlying t = some (.array m e)) (he : P.underlying e = some (.int .u8)) (hc : P.cellsOf t = m) (hc1 : P.cellsOf e = 1)
    (hval : Value.okWide P W r b0 t v) (hd : DataW.Trod enc P W base sp held t v d ps) : ∃ f : Nat → BitVec 8, v = .agg (cB m f).toArray := by
  obtain ⟨f, hv, hw⟩ := open_row ht he hc hc1 hval hd
  exact ⟨fun i => BitVec.ofInt 8 (f i), by rw [hv]; congr 2; exact cells_congr fun i hi => wf_u8 (hw i hi)⟩
theorem open_rowU {r : Reach} {b0 m : Nat} {t e : TypeId} {v : Value} {d : DataW H} {ps : List MemPlace} (ht : P.underlying t = some (.array m e)) (he : P.underlying e = some (.int .u64)) (hc : P.cellsOf t = m) (hc1 : P.cellsOf e = 1)
    (hval : Value.okWide P W r b0 t v) (hd : DataW.Trod enc P W base sp held t v d ps) : ∃ f : Nat → BitVec 64, v = .agg (cU m f).toArray := by
  obtain ⟨f, hv, hw⟩ := open_row ht he hc hc1 hval hd
  exact ⟨fun i => BitVec.ofInt 64 (f i), by rw [hv]; congr 2; exact cells_congr fun i hi => wf_u64 (hw i hi)⟩
theorem open_U {r : Reach} {b0 : Nat} {t : TypeId} {v : Value} {d : DataW H} {ps : List MemPlace} (ht : P.underlying t = some (.int .u64)) (hval : Value.okWide P W r b0 t v) (hd : DataW.Trod enc P W base sp held t v d ps) : ∃ x, v = U x := by
  obtain ⟨n, rfl, _, _, hw⟩ := open_int ht hval hd
  exact ⟨_, wf_u64 hw⟩
theorem open_W {r : Reach} {b0 : Nat} {t : TypeId} {v : Value} {d : DataW H} {ps : List MemPlace} (ht : P.underlying t = some (.int .u32)) (hval : Value.okWide P W r b0 t v) (hd : DataW.Trod enc P W base sp held t v d ps) : ∃ x, v = Go.Sym.W x := by
  obtain ⟨n, rfl, _, _, hw⟩ := open_int ht hval hd
  exact ⟨_, wf_u32 hw⟩
theorem open_Z {r : Reach} {b0 : Nat} {t : TypeId} {v : Value} {d : DataW H} {ps : List MemPlace} (ht : P.underlying t = some (.int .i64)) (hval : Value.okWide P W r b0 t v) (hd : DataW.Trod enc P W base sp held t v d ps) :
    ∃ z : Int, v = .int .i64 z ∧ (-9223372036854775808 ≤ z ∧ z < 9223372036854775808) := by
  obtain ⟨n, rfl, _, _, hw⟩ := open_int ht hval hd
  exact ⟨_, rfl, wf_i64 hw⟩
theorem open_b {r : Reach} {b0 : Nat} {t : TypeId} {v : Value} {d : DataW H} {ps : List MemPlace} (ht : P.underlying t = some .bool) (hval : Value.okWide P W r b0 t v) (hd : DataW.Trod enc P W base sp held t v d ps) : ∃ b, v = .bool b := by
  obtain ⟨b, rfl, _⟩ := open_bool ht hval hd
  exact ⟨b, rfl⟩

/-- a slice of numbers -/
theorem open_sl {r : Reach} {b0 : Nat} {t e : TypeId} {k : IntKind} {v : Value} {d : DataW H} {ps : List MemPlace} (ht : P.underlying t = some (.slice e)) (he : P.underlying e = some (.int k)) (hc1 : P.cellsOf e = 1)
    (hval : Value.okWide P W r b0 t v) (hd : DataW.Trod enc P W base (fun _ => true) held t v d ps) : ∃ (m : Nat) (f : Nat → Int), Rd W v m (fun i => .int k (f i)) ∧ m ≤ maxLen ∧ ∀ i, i < m → (Lit.int k (f i)).wf = true := by
  obtain ⟨a0, len0, cap0, rfl⟩ := okWide_slice ht hval
  obtain ⟨fuel, hf⟩ := hd
  rcases open_ints ht he hc1 hf with ⟨hcs, _⟩ | ⟨x, l, c, zs, hcs, _, hl, hm, hz, _, hcell, hwz⟩
  · simp [Value.cells] at hcs
    obtain ⟨rfl, rfl, rfl⟩ := hcs
    exact ⟨0, fun _ => 0, Rd.nil _ _, Nat.zero_le _, fun i hi => by omega⟩
  · simp [Value.cells] at hcs
    obtain ⟨rfl, rfl, rfl⟩ := hcs
    have hz' : zs.length = cap0 := by simpa using hz
    refine ⟨len0, fun i => zs.getD i 0, ⟨_, cap0, rfl, hl, (fun h => by cases h), fun y hy i hi => ?_⟩, by omega, fun i hi => ?_⟩
    · cases hy
      obtain ⟨b, off, spt⟩ := x
      have h1 := hcell i (by omega)
      have hspot : spt = none := by simpa [Addr.add] using World.cell?_spot (hcell 0 (by omega))
      subst hspot
      refine ⟨rfl, ?_⟩
      rw [Addr.add_lit] at h1
      exact h1
    · have : zs.getD i 0 ∈ zs := by
        rw [List.getD_eq_getElem?_getD, List.getElem?_eq_getElem (by omega)]
        exact List.getElem_mem _
      exact hwz _ this
theorem open_slB {r : Reach} {b0 : Nat} {t e : TypeId} {v : Value} {d : DataW H} {ps : List MemPlace} (ht : P.underlying t = some (.slice e)) (he : P.underlying e = some (.int .u8)) (hc1 : P.cellsOf e = 1)
    (hval : Value.okWide P W r b0 t v) (hd : DataW.Trod enc P W base (fun _ => true) held t v d ps) : ∃ (m : Nat) (f : Nat → BitVec 8), Rd W v m (fun i => B (f i)) ∧ m ≤ maxLen := by
  obtain ⟨m, f, hr, hm, hw⟩ := open_sl ht he hc1 hval hd
  exact ⟨m, fun i => BitVec.ofInt 8 (f i), hr.congr fun i hi => wf_u8 (hw i hi), hm⟩
theorem open_slZ {r : Reach} {b0 : Nat} {t e : TypeId} {v : Value} {d : DataW H} {ps : List MemPlace} (ht : P.underlying t = some (.slice e)) (he : P.underlying e = some (.int .i64)) (hc1 : P.cellsOf e = 1)
    (hval : Value.okWide P W r b0 t v) (hd : DataW.Trod enc P W base (fun _ => true) held t v d ps) : ∃ (m : Nat) (f : Nat → Int), Rd W v m (fun i => .int .i64 (f i)) ∧ m ≤ maxLen ∧ ∀ i, i < m → -9223372036854775808 ≤ f i ∧ f i < 9223372036854775808 := by
  obtain ⟨m, f, hr, hm, hw⟩ := open_sl ht he hc1 hval hd
  exact ⟨m, f, hr, hm, fun i hi => wf_i64 (hw i hi)⟩

theorem Pure.below {f : FuncId} {args : Array Value} {w : World} {v : Value} (h : Pure P f args w v) : Calls P f args w fun e w' => e = .returned v ∧ Below w.heap.size w w' :=
  h.calls.mono fun _ _ ⟨he, hm⟩ => ⟨he, hm.below⟩
end
end Go.Sym
