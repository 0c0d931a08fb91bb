import Derived.Test.YtgmieahcpkcabaaGreatBnPcW
namespace Go.Proofs.YtgmieahcpkcabaaGreat
open Go Go.Sym Go.Ev
set_option maxRecDepth 1000000
noncomputable section
def info4 : Info := infOf tdL szL zcL egL [(4, Tryz.f4)] []
theorem info4_ok : IOk Tryz.prog info4 := infOf_ok (by kernel_rfl) td_all sz_all (by kernel_rfl) eg_all ty_all
theorem info4_fn : FnOk Tryz.prog info4 := fnOf_ok (by kernel_rfl) (by kernel_rfl) ⟨Tryz.func4, trivial⟩ (by kernel_rfl)
def t_n : List (FuncId × Orc) := [(8, gPiece [] 0 [] (.c (.bool true)) 3312 [])]
theorem t_n_ok : AllL (fun p => OrcF Tryz.prog p.1 p.2) t_n := ⟨w_ok, trivial⟩
theorem n_run : pieceB info4 t_n 5 4 [] 0 [] (.c (.bool true)) 3312 [] = true := by kernel_rfl
theorem call_pure {P : Program} {f : FuncId} {args : Array Value} {w : World} {v : V} {u : Value} {h' : Hp} (hok : callable P f = true) (hc : CallR P f args w (After w Nm.no nilH v h')) (hv : ∀ bs x, VR bs v x → x = u) : Pure P f args w u := by
  have key : ∀ x w', After w Nm.no nilH v h' x w' → x = u ∧ Mem w w' [] := by
    rintro x w' ⟨bs, _, m, hx⟩
    exact ⟨hv bs x hx, ⟨m.os, m.tape, m.output, m.size, (fun k hk _ => m.old k hk fun ⟨i, b, _, _, hb⟩ => by cases hb), (fun e he => by cases he), List.nodup_nil⟩⟩
  refine ⟨hok, ?_⟩
  rcases hc with ⟨x, w', h1, _⟩ | ⟨_, h2⟩
  · rw [run_callFunc hok] at h1; cases h1
  · exact h2.mono fun e w' ⟨x, he, ha⟩ => ⟨by rw [he, (key x w' ha).1], (key x w' ha).2⟩
theorem names_ok (w : World) : Pure Tryz.prog 4 #[] w (.bool true) :=
  call_pure (by kernel_rfl) (gPiece_ok info4_ok info4_fn t_n_ok n_run [] nilH _ _ rfl Nm.no [] w trivial (HR.nil w)) (fun _ _ h => h)
end
end Go.Proofs.YtgmieahcpkcabaaGreat
