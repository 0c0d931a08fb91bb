import Derived.JoinedOf
import Derived.KernelRfl
import Derived.Test.YtgmieahcpkcabaaGreatRows
import Derived.Test.YtgmieahcpkcabaaGreatBnClT
namespace Go.Proofs.YtgmieahcpkcabaaGreat
open Go
set_option maxRecDepth 1000000
theorem andI {a b : Bool} (h : a = true) (h' : b = true) : (a && b) = true := by rw [h, h']; rfl
theorem ip4 : Tryz.prog.inPlace 4 = ["math/bits.Add64", "math/bits.Sub64"] := by unfold Program.inPlace; rw [cl4]; kernel_rfl
theorem uf4 : Tryz.prog.unfollowed 4 = true := by unfold Program.unfollowed; rw [cl4]; kernel_rfl
theorem rc4 : Tryz.prog.recurses 4 = true := by unfold Program.recurses; rw [uf4]; rfl
theorem vn4 : Tryz.prog.varsNamed 4 = [] := by unfold Program.varsNamed; rw [cl4]; kernel_rfl
theorem jf4 : joinedFacts Tryz.prog 4 Tryz.f4 Rows.topNamesSpec Rows.topNamesRow = true := by
  unfold joinedFacts
  rw [ip4, uf4, rc4, vn4]
  refine andI (andI (andI (andI (andI (andI (andI (andI (andI (andI (andI (andI (andI (andI (andI (andI (andI (andI (andI (andI (andI (andI (andI (andI (andI (andI (andI (andI (andI (andI (andI ?_ ?_) ?_) ?_) ?_) ?_) ?_) ?_) ?_) ?_) ?_) ?_) ?_) ?_) ?_) ?_) ?_) ?_) ?_) ?_) ?_) ?_) ?_) ?_) ?_) ?_) ?_) ?_) ?_) ?_) ?_) ?_
  all_goals kernel_rfl
end Go.Proofs.YtgmieahcpkcabaaGreat
