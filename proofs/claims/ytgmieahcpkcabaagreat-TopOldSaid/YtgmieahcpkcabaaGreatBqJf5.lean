import Derived.Test.YtgmieahcpkcabaaGreatBq17
import Derived.JoinedOf
import Derived.KernelRfl
import Derived.Test.YtgmieahcpkcabaaGreatRows
import Derived.Test.YtgmieahcpkcabaaGreatBqCl5
set_option maxRecDepth 100000
set_option linter.unusedSimpArgs false
set_option linter.unusedVariables false
set_option linter.constructorNameAsVariable false
set_option linter.unusedSectionVars false
open Go.Proofs.YtgmieahcpkcabaaGreat
noncomputable section
namespace Go.Proofs.Y
open Go
theorem gG {a b:Bool} (h:a=true) (h':b=true):(a && b)=true:=by rw[h,h']; rfl
theorem ip5:Tryz.prog.inPlace 5=["math/bits.Add64","math/bits.Sub64"]:=by unfold Program.inPlace; rw[cl5]; kernel_rfl
theorem uf5:Tryz.prog.unfollowed 5=true:=by unfold Program.unfollowed; rw[cl5]; kernel_rfl
theorem rc5:Tryz.prog.recurses 5=true:=by unfold Program.recurses; rw[uf5]; rfl
theorem vn5:Tryz.prog.varsNamed 5=[]:=by unfold Program.varsNamed; rw[cl5]; kernel_rfl
theorem jf5:joinedFacts aa 5 Tryz.f5 Rows.topOldSpec Rows.topOldRow=true:=by
 unfold joinedFacts
 rw[ip5,uf5,rc5,vn5]
 refine gG (gG (gG (gG (gG (gG (gG (gG (gG (gG (gG (gG (gG (gG (gG (gG (gG (gG (gG (gG (gG (gG (gG (gG (gG (gG (gG (gG (gG (gG (gG ?_ ?_) ?_) ?_) ?_) ?_) ?_) ?_) ?_) ?_) ?_) ?_) ?_) ?_) ?_) ?_) ?_) ?_) ?_) ?_) ?_) ?_) ?_) ?_) ?_) ?_) ?_) ?_) ?_) ?_) ?_) ?_
 all_goals kernel_rfl
end Go.Proofs.Y
