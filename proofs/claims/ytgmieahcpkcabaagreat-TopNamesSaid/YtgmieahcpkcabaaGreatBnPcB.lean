import Derived.Test.YtgmieahcpkcabaaGreatBnPcT
namespace Go.Proofs.YtgmieahcpkcabaaGreat
open Go Go.Sym Go.Ev
set_option maxRecDepth 1000000
noncomputable section
theorem u1_run : pieceB inf orcs1 60 167 [.c (.ptr 371 0), .c (.sl 1747 0 7 none), .c (.fn 168 [])] 1756 s2 (.c (.int .i64 (.ofNat 0))) 1833 s2 = true := by kernel_rfl
theorem u1_ok : OrcF Tryz.prog 167 g_u1 := gPiece_ok inf_ok inf_fn orcs1_ok u1_run
end
end Go.Proofs.YtgmieahcpkcabaaGreat
