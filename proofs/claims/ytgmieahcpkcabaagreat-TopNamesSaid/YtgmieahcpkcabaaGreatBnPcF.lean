import Derived.Test.YtgmieahcpkcabaaGreatBnPcB
import Derived.Test.YtgmieahcpkcabaaGreatBnPcC
import Derived.Test.YtgmieahcpkcabaaGreatBnPcD
import Derived.Test.YtgmieahcpkcabaaGreatBnPcE
namespace Go.Proofs.YtgmieahcpkcabaaGreat
open Go Go.Sym Go.Ev
set_option maxRecDepth 1000000
noncomputable section
def t_k2 : List (FuncId × Orc) := ((167, gOr g_u1 (g_u2)) :: (166, g_c2) :: orcs1)
theorem t_k2_ok : AllL (fun p => OrcF Tryz.prog p.1 p.2) t_k2 := ⟨gOr_ok u1_ok (u2_ok), c2_ok, orcs1_ok⟩
theorem k2_run : pieceB inf t_k2 60 101 [.c (.ptr 70 0), .c (.sl 1747 0 7 none)] 1750 s6 (.c (.int .i64 (.ofNat 0))) 2450 s7 = true := by kernel_rfl
theorem k2_ok : OrcF Tryz.prog 101 g_k2 := gPiece_ok inf_ok inf_fn t_k2_ok k2_run
def t_k1 : List (FuncId × Orc) := ((166, g_c1) :: orcs1)
theorem t_k1_ok : AllL (fun p => OrcF Tryz.prog p.1 p.2) t_k1 := ⟨c1_ok, orcs1_ok⟩
theorem k1_run : pieceB inf t_k1 60 99 [.c (.ptr 70 0), .c (.sl 1116 0 64 none)] 1119 s10 (.c (.int .i64 (.ofNat 0))) 1720 s9 = true := by kernel_rfl
theorem k1_ok : OrcF Tryz.prog 99 g_k1 := gPiece_ok inf_ok inf_fn t_k1_ok k1_run
end
end Go.Proofs.YtgmieahcpkcabaaGreat
