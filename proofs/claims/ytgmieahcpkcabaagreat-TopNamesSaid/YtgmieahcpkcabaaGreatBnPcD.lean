import Derived.Test.YtgmieahcpkcabaaGreatBnPcT
namespace Go.Proofs.YtgmieahcpkcabaaGreat
open Go Go.Sym Go.Ev
set_option maxRecDepth 1000000
noncomputable section
theorem c2_run : pieceB inf orcs1 60 166 [.c (.ptr 70 0)] 1931 s4 (.c (.int .i64 (.ofNat 0))) 2436 s5 = true := by kernel_rfl
theorem c2_ok : OrcF Tryz.prog 166 g_c2 := gPiece_ok inf_ok inf_fn orcs1_ok c2_run
end
end Go.Proofs.YtgmieahcpkcabaaGreat
