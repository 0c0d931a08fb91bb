/-
  From a law's walk to its row: floats, slices of floats, and a table of the library's that the row lists. No program is in sight here.
-/
import Derived.Test.YtbfiaoemoookcaaDoorSymLift
import Derived.Test.YtbfiaoemoookcaaDoorSymFmt
import Derived.Deep.Slices
import Derived.Lib.LaidTab
import Derived.Stop.LaidErr
namespace Go.Sym
open Go Go.RowKit Go.ChangeShapes Go.WideShapes Go.ChangeAt

section
variable {H : Type} {enc : TypeId × Value → H} {P : Program} {W : World} {base : Nat} {sp : Nat → Bool} {held : Bool}

theorem F_of {b : Nat} (h : (Lit.float .f64 b).wf = true) : Value.float .f64 b = F (BitVec.ofNat 64 b) := by
  have h' : b < 18446744073709551616 := by simpa [Lit.wf] using h
  unfold F
  rw [BitVec.toNat_ofNat, Nat.mod_eq_of_lt h']
theorem open_F {r : Reach} {b0 : Nat} {t : TypeId} {v : Value} {d : DataW H} {ps : List MemPlace} (ht : P.underlying t = some (.float .f64)) (hval : Value.okWide P W r b0 t v) (hd : DataW.Trod enc P W base sp held t v d ps) : ∃ x : BitVec 64, v = F x := by
  obtain ⟨b, rfl, _, _, hw⟩ := open_float ht hval hd
  exact ⟨_, F_of hw⟩
theorem trod_F {t : TypeId} {fuel : Nat} {v : Value} {x : DataW H × List MemPlace} (ht : P.underlying t = some (.float .f64)) (h : DataW.trod enc P W base sp held fuel t [v] = some x) : ∃ b : BitVec 64, v = F b := by
  cases fuel with
  | zero => simp [DataW.trod] at h
  | succ n =>
    unfold DataW.trod at h
    rw [ht] at h
    split at h <;> simp_all
    rename_i hk
    subst hk
    exact ⟨_, F_of h.1.2⟩
theorem open_slF {r : Reach} {b0 : Nat} {t e : TypeId} {v : Value} {d : DataW H} {ps : List MemPlace} (ht : P.underlying t = some (.slice e)) (he : P.underlying e = some (.float .f64)) (hc1 : P.cellsOf e = 1)
    (hval : Value.okWide P W r b0 t v) (hd : DataW.Trod enc P W base (fun _ => true) held t v d ps) : ∃ (m : Nat) (f : Nat → BitVec 64), Rd W v m (fun i => F (f i)) ∧ m ≤ maxLen := by
  obtain ⟨a0, len0, cap0, rfl⟩ := okWide_slice ht hval
  obtain ⟨fuel, hf⟩ := hd
  rcases Go.Deep.open_slice1 ht hc1 hf with ⟨hcs, _⟩ | ⟨x, l, c, m, n, V, D, Pl, hcs, _, hl, hm, hmm, _, hcell⟩
  · simp [Value.cells] at hcs
    obtain ⟨rfl, rfl, rfl⟩ := hcs
    exact ⟨0, fun _ => 0, Rd.nil _ _, Nat.zero_le _⟩
  · simp [Value.cells] at hcs
    obtain ⟨rfl, rfl, rfl⟩ := hcs
    have hmc : m = cap0 := by simpa using hmm
    subst hmc
    have hV : ∀ i, ∃ b : BitVec 64, i < m → V i = F b := fun i => by
      by_cases hi : i < m
      · obtain ⟨b, hb⟩ := trod_F he (hcell i hi).2
        exact ⟨b, fun _ => hb⟩
      · exact ⟨0, fun h => absurd h hi⟩
    refine ⟨len0, fun i => (hV i).choose, ⟨_, m, rfl, hl, (fun h => by cases h), fun y hy i hi => ?_⟩, by omega⟩
    cases hy
    obtain ⟨b, off, spt⟩ := x
    have h1 := (hcell i (by omega)).1
    have hspot : spt = none := by simpa [Addr.add] using World.cell?_spot (hcell 0 (by omega)).1
    subst hspot
    refine ⟨rfl, ?_⟩
    rw [Addr.add_lit] at h1
    rw [h1, (hV i).choose_spec (by omega)]
def pows : List Int := [1, 10, 100, 1000, 10000, 100000, 1000000, 10000000, 100000000, 1000000000, 10000000000, 100000000000, 1000000000000, 10000000000000, 100000000000000, 1000000000000000, 10000000000000000, 100000000000000000, 1000000000000000000, 10000000000000000000]
theorem pows_all : ∀ i : Fin 20, pows.getD i.val 0 = ((10 ^ i.val : Nat) : Int) := by decide +kernel
/-- The powers of ten, from the row's list. -/
theorem PW.of_laid {name : String} {t e : TypeId} {x y : String × DataW Unit} {rest : List (String × DataW Unit)} (hg : P.globalNamed name = some 1) (hty : (P.globals[1]?).map (·.type) = some t) (ht : P.underlying t = some (.array 20 e)) (he : P.underlying e = some (.int .u64)) (hce : P.cellsOf e = 1) (hct : P.cellsOf t = 20)
    (h : laidMet P (x :: y :: (name, Lib.tabData .u64 pows) :: rest) W) : PW W := by
  have hT := Lib.tabIs_of_head hg hty ht he hce hct h.tail.tail
  have hc : ∀ i, i < 20 → W.cell? ⟨1, i, none⟩ = some (X (10 ^ i)) := fun i hi => by
    have h1 := hT.cell hg i hi
    rw [h1, show pows.getD i 0 = ((10 ^ i : Nat) : Int) from pows_all ⟨i, hi⟩]; rfl
  refine ⟨?_, hc⟩
  have h0 := hc 0 (by decide)
  rcases Nat.lt_or_ge 1 W.heap.size with q | q
  · exact q
  · unfold World.cell? at h0
    simp [Array.getElem?_eq_none q] at h0
end
end Go.Sym
