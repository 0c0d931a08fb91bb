import Derived.Test.YtgmieahcpkcabaaGreatBnPcA
import Derived.Test.YtgmieahcpkcabaaGreatBnPcG
import Derived.Test.YtgmieahcpkcabaaGreatBnPcH
import Derived.Test.YtgmieahcpkcabaaGreatBnPcI
namespace Go.Proofs.YtgmieahcpkcabaaGreat
open Go Go.Sym Go.Ev
set_option maxRecDepth 1000000
noncomputable section
def t_w : List (FuncId × Orc) := ((28, g_m1) :: (32, gOr g_d1 (gOr g_d2 (gOr g_d3 (g_d4)))) :: orcs1)
theorem t_w_ok : AllL (fun p => OrcF Tryz.prog p.1 p.2) t_w := ⟨m1_ok, gOr_ok d1_ok (gOr_ok d2_ok (gOr_ok d3_ok (d4_ok))), orcs1_ok⟩
theorem w_all : pieceB inf t_w 60 8 [] 0 [] (.c (.bool true)) 3312 [] = true := by kernel_rfl
theorem w_ok : OrcF Tryz.prog 8 (gPiece [] 0 [] (.c (.bool true)) 3312 []) := gPiece_ok inf_ok inf_fn t_w_ok w_all
end
end Go.Proofs.YtgmieahcpkcabaaGreat
