/-
  No cell of these rows narrows 'for every input' (looked for: loops, veiled, ifaces, maps, wideKeys, modest, calm, conditions, laid).
  DERIVED. THE GIVEN ROWS OF THIS SEAT. 5 by the template 'for every input the law returns true; each argument reads behind the call as it read before'; 0 by the template 'total and deterministic' (their statements: YtgmieahcpkcabaaGreatTotals.lean).
  GIVEN WITH THE SEED: the statements are not yours to turn. If you find one false, say at which input.
  Laid BY PROGRAM, IN A SANDBOX (cutbox-rows.mjs): the forced cells as the released guide's own fill.sh prints them over the translation 37c8a414bb3ca47e… (all of the seat's roots in one cut). By AI agents, Wed Nov 11 2026. No macro, syntax, notation, axiom, sorry.
-/
import Derived.Test.YtgmieahcpkcabaaGreatChecked
import GoSem.Claim
import GoSem.ClaimJoined
import GoSem.ClaimMapViews
import Derived.JoinedTies
import Derived.KernelRfl
namespace Go.Proofs.YtgmieahcpkcabaaGreat
/- THE CELL 'sum', in the pinned program and in every row, IS THE sha256 OF THE DUMP (.gsa) THAT YtgmieahcpkcabaaGreatProg.lean LOADS. Nothing in Lean hashes anything: it is a label: what it is worth is what the hold of that sum in a sandbox is worth. -/
noncomputable def Tryz.pinned : Pinned := { name := "ytgmieahcpkcabaagreat", sum := "37c8a414bb3ca47efe2fd3f1330bbbb1866bda04f2b761127844c5502b250464", checked := Tryz.checked }
namespace Rows
def none {H : Type} : Left H := { results := [], args := [] }

/-- 'bootjacktop.TopBoots': WHATEVER THE INPUT: true; the input reads as it did. -/
def topBootsSpec : ChangeSpec := { name := "topBoots", fn := fun _ => fun
  | [d1, d2] => { results := [.lit (.bool true)], args := [d1, d2] }
  | _ => none }
def topBootsRow : OpenClaim := { program := "ytgmieahcpkcabaagreat", sum := "37c8a414bb3ca47efe2fd3f1330bbbb1866bda04f2b761127844c5502b250464", func := "bootjack/bootjacktop.TopBoots", spec := "topBoots", inPlace := ["math/bits.Add64", "math/bits.Sub64"], unfollowed := true, recurses := true, apart := false }
def TopBootsSaid : Prop := topBootsRow.holds Tryz.pinned (OpenSpec.ofChange topBootsSpec)

/-- ITS FALSE NEIGHBOUR: 'it returns false'. Refute it at one input. -/
def topBootsWrong : ChangeSpec := { name := "topBoots", fn := fun _ => fun
  | [d1, d2] => { results := [.lit (.bool false)], args := [d1, d2] }
  | _ => none }
def TopBootsWrongFalsely : Prop := topBootsRow.holds Tryz.pinned (OpenSpec.ofChange topBootsWrong)

/-- 'bootjacktop.TopNames': WHATEVER THE INPUT: true; the input reads as it did. -/
def topNamesSpec : ChangeSpec := { name := "topNames", fn := fun _ => fun
  | [] => { results := [.lit (.bool true)], args := [] }
  | _ => none }
def topNamesRow : OpenClaim := { program := "ytgmieahcpkcabaagreat", sum := "37c8a414bb3ca47efe2fd3f1330bbbb1866bda04f2b761127844c5502b250464", func := "bootjack/bootjacktop.TopNames", spec := "topNames", inPlace := ["math/bits.Add64", "math/bits.Sub64"], unfollowed := true, recurses := true, apart := false }
def TopNamesSaid : Prop := topNamesRow.holds Tryz.pinned (OpenSpec.ofChange topNamesSpec)

/-- ITS FALSE NEIGHBOUR: 'it returns false'. Refute it at one input. -/
def topNamesWrong : ChangeSpec := { name := "topNames", fn := fun _ => fun
  | [] => { results := [.lit (.bool false)], args := [] }
  | _ => none }
def TopNamesWrongFalsely : Prop := topNamesRow.holds Tryz.pinned (OpenSpec.ofChange topNamesWrong)

/-- 'bootjacktop.TopOld': WHATEVER THE INPUT: true; the input reads as it did. -/
def topOldSpec : ChangeSpec := { name := "topOld", fn := fun _ => fun
  | [d1, d2, d3, d4, d5, d6] => { results := [.lit (.bool true)], args := [d1, d2, d3, d4, d5, d6] }
  | _ => none }
def topOldRow : OpenClaim := { program := "ytgmieahcpkcabaagreat", sum := "37c8a414bb3ca47efe2fd3f1330bbbb1866bda04f2b761127844c5502b250464", func := "bootjack/bootjacktop.TopOld", spec := "topOld", inPlace := ["math/bits.Add64", "math/bits.Sub64"], unfollowed := true, recurses := true, apart := false }
def TopOldSaid : Prop := topOldRow.holds Tryz.pinned (OpenSpec.ofChange topOldSpec)

/-- ITS FALSE NEIGHBOUR: 'it returns false'. Refute it at one input. -/
def topOldWrong : ChangeSpec := { name := "topOld", fn := fun _ => fun
  | [d1, d2, d3, d4, d5, d6] => { results := [.lit (.bool false)], args := [d1, d2, d3, d4, d5, d6] }
  | _ => none }
def TopOldWrongFalsely : Prop := topOldRow.holds Tryz.pinned (OpenSpec.ofChange topOldWrong)

/-- 'bootjacktop.TopVoid': WHATEVER THE INPUT: true; the input reads as it did. -/
def topVoidSpec : ChangeSpec := { name := "topVoid", fn := fun _ => fun
  | [d1, d2, d3, d4, d5, d6] => { results := [.lit (.bool true)], args := [d1, d2, d3, d4, d5, d6] }
  | _ => none }
def topVoidRow : OpenClaim := { program := "ytgmieahcpkcabaagreat", sum := "37c8a414bb3ca47efe2fd3f1330bbbb1866bda04f2b761127844c5502b250464", func := "bootjack/bootjacktop.TopVoid", spec := "topVoid", inPlace := ["math/bits.Add64", "math/bits.Sub64"], unfollowed := true, recurses := true, apart := false }
def TopVoidSaid : Prop := topVoidRow.holds Tryz.pinned (OpenSpec.ofChange topVoidSpec)

/-- ITS FALSE NEIGHBOUR: 'it returns false'. Refute it at one input. -/
def topVoidWrong : ChangeSpec := { name := "topVoid", fn := fun _ => fun
  | [d1, d2, d3, d4, d5, d6] => { results := [.lit (.bool false)], args := [d1, d2, d3, d4, d5, d6] }
  | _ => none }
def TopVoidWrongFalsely : Prop := topVoidRow.holds Tryz.pinned (OpenSpec.ofChange topVoidWrong)

/-- 'bootjacktop.TopKeys': WHATEVER THE INPUT: true; the input reads as it did. -/
def topKeysSpec : ChangeSpec := { name := "topKeys", fn := fun _ => fun
  | [d1, d2, d3, d4] => { results := [.lit (.bool true)], args := [d1, d2, d3, d4] }
  | _ => none }
def topKeysRow : OpenClaim := { program := "ytgmieahcpkcabaagreat", sum := "37c8a414bb3ca47efe2fd3f1330bbbb1866bda04f2b761127844c5502b250464", func := "bootjack/bootjacktop.TopKeys", spec := "topKeys", inPlace := ["math/bits.Add64", "math/bits.Sub64"], unfollowed := true, recurses := true, apart := false }
def TopKeysSaid : Prop := topKeysRow.holds Tryz.pinned (OpenSpec.ofChange topKeysSpec)

/-- ITS FALSE NEIGHBOUR: 'it returns false'. Refute it at one input. -/
def topKeysWrong : ChangeSpec := { name := "topKeys", fn := fun _ => fun
  | [d1, d2, d3, d4] => { results := [.lit (.bool false)], args := [d1, d2, d3, d4] }
  | _ => none }
def TopKeysWrongFalsely : Prop := topKeysRow.holds Tryz.pinned (OpenSpec.ofChange topKeysWrong)

/- THE SECOND FORM. 'bulk': how many values and letters a reading holds, each counted each time it is reached (what is shared counts as often as it is met; a slice's spare places count too). A statement '..UptoSaid' is the law's where the arguments, and the package variables that the reading takes, are together of bulk at most 1048576: NARROWER than '..Said'. Prove '..Said' where nothing that the law and all that it calls make is longer than what came in: it says more and counts as full. Else prove '..UptoSaid'. A law counts once. -/
mutual
def uptoBulk {H : Type} : DataW H → Nat
  | .lit (.string bytes) => bytes.length + 1
  | .lit _ => 1
  | .nil => 1
  | .ptr d => uptoBulk d + 1
  | .slice elems spare => uptoBulkAll elems + uptoBulkAll spare + 1
  | .agg parts => uptoBulkAll parts + 1
  | .iface _ d => uptoBulk d + 1
  | .map entries => uptoBulkEntries entries + 1
  | .held _ => 1
def uptoBulkAll {H : Type} : List (DataW H) → Nat
  | [] => 0
  | d :: r => uptoBulk d + uptoBulkAll r
def uptoBulkEntries {H : Type} : List (Lit × DataW H) → Nat
  | [] => 0
  | x :: r => uptoBulkEntry x + uptoBulkEntries r
def uptoBulkEntry {H : Type} : Lit × DataW H → Nat
  | (.string bytes, d) => bytes.length + uptoBulk d + 1
  | (_, d) => uptoBulk d + 1
 end
def uptoSmall : (H : Type) → List (DataW H) → Bool := fun _ ds => decide (uptoBulkAll ds ≤ 1048576)
def OpenSpec.upto (s : _root_.Go.ChangeSpec) : _root_.Go.OpenSpec := { _root_.Go.OpenSpec.ofChange s with cond := some uptoSmall }

/-- 'bootjacktop.TopBoots', WHERE WHAT IT READS IS OF BULK AT MOST 1048576: true; the input reads as it did. -/
def topBootsUptoRow : OpenClaim := { program := "ytgmieahcpkcabaagreat", sum := "37c8a414bb3ca47efe2fd3f1330bbbb1866bda04f2b761127844c5502b250464", func := "bootjack/bootjacktop.TopBoots", spec := "topBoots", inPlace := ["math/bits.Add64", "math/bits.Sub64"], unfollowed := true, recurses := true, apart := false, narrowed := true }
def TopBootsUptoSaid : Prop := topBootsUptoRow.holds Tryz.pinned (OpenSpec.upto topBootsSpec)

/-- 'bootjacktop.TopNames', WHERE WHAT IT READS IS OF BULK AT MOST 1048576: true; the input reads as it did. -/
def topNamesUptoRow : OpenClaim := { program := "ytgmieahcpkcabaagreat", sum := "37c8a414bb3ca47efe2fd3f1330bbbb1866bda04f2b761127844c5502b250464", func := "bootjack/bootjacktop.TopNames", spec := "topNames", inPlace := ["math/bits.Add64", "math/bits.Sub64"], unfollowed := true, recurses := true, apart := false, narrowed := true }
def TopNamesUptoSaid : Prop := topNamesUptoRow.holds Tryz.pinned (OpenSpec.upto topNamesSpec)

/-- 'bootjacktop.TopOld', WHERE WHAT IT READS IS OF BULK AT MOST 1048576: true; the input reads as it did. -/
def topOldUptoRow : OpenClaim := { program := "ytgmieahcpkcabaagreat", sum := "37c8a414bb3ca47efe2fd3f1330bbbb1866bda04f2b761127844c5502b250464", func := "bootjack/bootjacktop.TopOld", spec := "topOld", inPlace := ["math/bits.Add64", "math/bits.Sub64"], unfollowed := true, recurses := true, apart := false, narrowed := true }
def TopOldUptoSaid : Prop := topOldUptoRow.holds Tryz.pinned (OpenSpec.upto topOldSpec)

/-- 'bootjacktop.TopVoid', WHERE WHAT IT READS IS OF BULK AT MOST 1048576: true; the input reads as it did. -/
def topVoidUptoRow : OpenClaim := { program := "ytgmieahcpkcabaagreat", sum := "37c8a414bb3ca47efe2fd3f1330bbbb1866bda04f2b761127844c5502b250464", func := "bootjack/bootjacktop.TopVoid", spec := "topVoid", inPlace := ["math/bits.Add64", "math/bits.Sub64"], unfollowed := true, recurses := true, apart := false, narrowed := true }
def TopVoidUptoSaid : Prop := topVoidUptoRow.holds Tryz.pinned (OpenSpec.upto topVoidSpec)

/-- 'bootjacktop.TopKeys', WHERE WHAT IT READS IS OF BULK AT MOST 1048576: true; the input reads as it did. -/
def topKeysUptoRow : OpenClaim := { program := "ytgmieahcpkcabaagreat", sum := "37c8a414bb3ca47efe2fd3f1330bbbb1866bda04f2b761127844c5502b250464", func := "bootjack/bootjacktop.TopKeys", spec := "topKeys", inPlace := ["math/bits.Add64", "math/bits.Sub64"], unfollowed := true, recurses := true, apart := false, narrowed := true }
def TopKeysUptoSaid : Prop := topKeysUptoRow.holds Tryz.pinned (OpenSpec.upto topKeysSpec)

end Rows
end Go.Proofs.YtgmieahcpkcabaaGreat
