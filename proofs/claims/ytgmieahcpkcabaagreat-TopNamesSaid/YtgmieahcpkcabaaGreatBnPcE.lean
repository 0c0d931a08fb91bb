import Derived.Test.YtgmieahcpkcabaaGreatBnPcT
namespace Go.Proofs.YtgmieahcpkcabaaGreat
open Go Go.Sym Go.Ev
set_option maxRecDepth 1000000
noncomputable section
theorem c1_run : pieceB inf orcs1 60 166 [.c (.ptr 70 0)] 1226 s8 (.c (.int .i64 (.ofNat 0))) 1720 s9 = true := by kernel_rfl
theorem c1_ok : OrcF Tryz.prog 166 g_c1 := gPiece_ok inf_ok inf_fn orcs1_ok c1_run
theorem k0_run : pieceB inf orcs1 60 98 [.c (.ptr 70 0), .c (.sl 859 0 216 none)] 862 s11 (.c (.int .i64 (.ofNat 0))) 987 s12 = true := by kernel_rfl
theorem k0_ok : OrcF Tryz.prog 98 g_k0 := gPiece_ok inf_ok inf_fn orcs1_ok k0_run
end
end Go.Proofs.YtgmieahcpkcabaaGreat
