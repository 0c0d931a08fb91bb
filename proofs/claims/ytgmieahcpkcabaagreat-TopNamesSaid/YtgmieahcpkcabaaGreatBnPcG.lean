import Derived.Test.YtgmieahcpkcabaaGreatBnPcF
namespace Go.Proofs.YtgmieahcpkcabaaGreat
open Go Go.Sym Go.Ev
set_option maxRecDepth 1000000
noncomputable section
def t_fe : List (FuncId × Orc) := ((98, g_k0) :: (99, g_k1) :: (101, g_k2) :: orcs1)
theorem t_fe_ok : AllL (fun p => OrcF Tryz.prog p.1 p.2) t_fe := ⟨k0_ok, k1_ok, k2_ok, orcs1_ok⟩
theorem fe_run : pieceB inf t_fe 60 14 [.c (.ptr 70 0), .c (.sl 359 0 299 none)] 386 s13 (.c (.int .i64 (.ofNat 0))) 2450 s7 = true := by kernel_rfl
theorem fe_ok : OrcF Tryz.prog 14 g_fe := gPiece_ok inf_ok inf_fn t_fe_ok fe_run
def t_d2 : List (FuncId × Orc) := ((14, g_fe) :: orcs1)
theorem t_d2_ok : AllL (fun p => OrcF Tryz.prog p.1 p.2) t_d2 := ⟨fe_ok, orcs1_ok⟩
theorem d2_run : pieceB inf t_d2 60 32 [.c (.ptr 36 0), .agg [.int .i64 (.ofNat 2), .int .i64 (.ofNat 0), .int .i64 (.ofNat 0), .sl 359 0 299 none]] 381 s16 (.agg [.int .i64 (.ofNat 0), .int .i64 (.ofNat 0), .int .i64 (.ofNat 0), .int .u8 (.ofNat 0), .int .u8 (.ofNat 0), .int .u8 (.ofNat 0), .int .u8 (.ofNat 0), .int .u8 (.ofNat 0), .int .u8 (.ofNat 0), .int .u8 (.ofNat 0), .int .u8 (.ofNat 0), .int .u8 (.ofNat 0), .int .u8 (.ofNat 0), .int .u8 (.ofNat 0), .int .u8 (.ofNat 0), .int .u8 (.ofNat 0), .int .u8 (.ofNat 0), .int .u8 (.ofNat 0), .int .u8 (.ofNat 0), .int .u8 (.ofNat 0), .int .u8 (.ofNat 0), .int .u8 (.ofNat 0), .int .u8 (.ofNat 0), .int .u8 (.ofNat 0), .int .u8 (.ofNat 0), .int .u8 (.ofNat 0), .int .u8 (.ofNat 0), .int .u8 (.ofNat 0), .int .u8 (.ofNat 0), .int .u8 (.ofNat 0), .int .u8 (.ofNat 0), .int .u8 (.ofNat 0), .int .u8 (.ofNat 0), .int .u8 (.ofNat 0), .int .u8 (.ofNat 0), .int .u8 (.ofNat 0), .int .u8 (.ofNat 0), .int .u8 (.ofNat 0), .int .u8 (.ofNat 0), .int .u8 (.ofNat 0), .int .u8 (.ofNat 0), .int .u8 (.ofNat 0), .int .u8 (.ofNat 0), .int .u8 (.ofNat 0), .int .u8 (.ofNat 0), .int .u8 (.ofNat 0), .int .u8 (.ofNat 0), .int .u8 (.ofNat 0), .int .u8 (.ofNat 0), .int .u8 (.ofNat 0), .int .u8 (.ofNat 0), .int .u8 (.ofNat 0), .int .u8 (.ofNat 0), .int .u8 (.ofNat 0), .int .u8 (.ofNat 0), .int .u8 (.ofNat 0), .int .u8 (.ofNat 0), .int .u8 (.ofNat 0), .int .u8 (.ofNat 0), .int .u8 (.ofNat 0), .int .u8 (.ofNat 0), .int .u8 (.ofNat 0), .int .u8 (.ofNat 0), .int .u8 (.ofNat 0), .int .u8 (.ofNat 0), .int .u8 (.ofNat 0), .int .u8 (.ofNat 0)]) 2451 s17 = true := by kernel_rfl
theorem d2_ok : OrcF Tryz.prog 32 g_d2 := gPiece_ok inf_ok inf_fn t_d2_ok d2_run
end
end Go.Proofs.YtgmieahcpkcabaaGreat
