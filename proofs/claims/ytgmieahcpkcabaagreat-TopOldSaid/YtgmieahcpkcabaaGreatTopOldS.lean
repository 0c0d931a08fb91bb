/-
  Proved: TopOld returns true for all of its arguments, as the given row says it (topOld_holds : Rows.TopOldSaid); no condition beyond the row's own.
  The texts Bq.. that it imports are texts of mine, pruned and told shortly by programs of mine.
-/
import Derived.Test.YtgmieahcpkcabaaGreatRows
import Derived.Test.YtgmieahcpkcabaaGreatBq1
import Derived.Test.YtgmieahcpkcabaaGreatBq17
import Derived.Test.YtgmieahcpkcabaaGreatBqJf5
set_option maxRecDepth 100000
set_option linter.unusedSimpArgs false
set_option linter.unusedVariables false
set_option linter.constructorNameAsVariable false
set_option linter.unusedSectionVars false
open Go.Proofs.Y
noncomputable section
namespace Go.Proofs.YtgmieahcpkcabaaGreat
open Go Go.Sym Go.ChangeShapes Go.WideShapes Go.ChangeAt Go.RowKit
theorem own:ownKnob Tryz.prog.godebug=none:=kr
theorem laidOut:laidOutB aa=true:=kr
theorem aTH (os:Os) (started:os.Started) (H:Type) (iM:TypeId×Value->H):ReturnsInHanded {} Tryz.checked os 5 .any (Rows.topOldSpec.pre6 iM aa Tryz.f5 Rows.topOldRow.domain false) (Rows.topOldSpec.post iM aa Tryz.f5 false true false false):=by
 refine returnsInHanded_of_change (C:=Tryz.checked) own started kr Tryz.func5
  (ChangeSpec.witness6 (enc:=iM) (C:=Tryz.checked) false ⟨#[],#[.agg (Array.replicate 32 (.int .u8 0)),.slice none 0 0,.int .u64 0,.int .u64 0,.int .u64 0,.int .u64 0],[]⟩ 8 kr kr kr kr) ?_
 intro W base args ds gs before hval0 hW hcnd _
 have hval:∀(j:Nat) t v,Tryz.f5.params[j]?=some t->args[j]?=some v->Value.okWide aa W .any base t v:=hval0
 have hW':=hW
 obtain⟨p,q,hA0,hV,rfl,hfz,hnd⟩:=hW
 have hA:DataW.TrodAll iM aa W 0 (λ_=>true) true Tryz.f5.params.toList args.toList ds p:=hA0
 rw[Tryz.params5] at hA hval
 obtain⟨v0,vs0,d0,ds0,p0,q0,hargs,rfl,rfl,h0,r0⟩:=trodAll_cons hA
 obtain⟨v1,vs1,d1,ds1,p1,q1,rfl,rfl,rfl,h1,r1⟩:=trodAll_cons r0
 obtain⟨v2,vs2,d2,ds2,p2,q2,rfl,rfl,rfl,h2,r2⟩:=trodAll_cons r1
 obtain⟨v3,vs3,d3,ds3,p3,q3,rfl,rfl,rfl,h3,r3⟩:=trodAll_cons r2
 obtain⟨v4,vs4,d4,ds4,p4,q4,rfl,rfl,rfl,h4,r4⟩:=trodAll_cons r3
 obtain⟨v5,vs5,d5,ds5,p5,q5,rfl,rfl,rfl,h5,r5⟩:=trodAll_cons r4
 obtain⟨rfl,rfl,rfl⟩:=trodAll_nil r5
 obtain rfl:args=#[v0,v1,v2,v3,v4,v5]:=by cases args; simp_all
 obtain⟨rfl,rfl⟩:=trodVars_none hV
 have k0:=h0
 have sV:∀x∈p0,x.block < W.heap.size:=by obtain⟨m,hm⟩:=k0; exact NV m _ _ _ hm
 obtain⟨a0,rfl⟩:=a1L Tryz.underlying27 Tryz.underlying5 kr kr (hval 0 27 v0 rfl rfl) h0
 have k1:=h1
 have lt1:∀x∈p1,x.block < W.heap.size:=by obtain⟨m,hm⟩:=k1; exact NV m _ _ _ hm
 have hs1:=a1M Tryz.underlying36 Tryz.underlying5 kr (hval 1 36 v1 rfl rfl) h1
 have k2:=h2
 have lt2:∀x∈p2,x.block < W.heap.size:=by obtain⟨m,hm⟩:=k2; exact NV m _ _ _ hm
 obtain⟨a2,rfl⟩:=WB Tryz.underlying45 (hval 2 45 v2 rfl rfl) h2
 have k3:=h3
 have lt3:∀x∈p3,x.block < W.heap.size:=by obtain⟨m,hm⟩:=k3; exact NV m _ _ _ hm
 obtain⟨a3,rfl⟩:=WB Tryz.underlying45 (hval 3 45 v3 rfl rfl) h3
 have k4:=h4
 have lt4:∀x∈p4,x.block < W.heap.size:=by obtain⟨m,hm⟩:=k4; exact NV m _ _ _ hm
 obtain⟨a4,rfl⟩:=WB Tryz.underlying45 (hval 4 45 v4 rfl rfl) h4
 have k5:=h5
 have lt5:∀x∈p5,x.block < W.heap.size:=by obtain⟨m,hm⟩:=k5; exact NV m _ _ _ hm
 obtain⟨a5,rfl⟩:=WB Tryz.underlying45 (hval 5 45 v5 rfl rfl) h5
 clear hA0 hval0
 refine (a92 W a0 v1 hs1 a2 a3 a4 a5).below.mono λe W' ⟨he,bel⟩=>?_
 subst he
 exact⟨_,rfl,_,_,_,[],_,[],hW',trodAll_mk1 (shut_bool Tryz.underlying4 _),(trodAll_cons_mk (Below.trod laidOut kr (of_decide_eq_true kr) k0 bel sV) (trodAll_cons_mk (Below.trod laidOut kr (of_decide_eq_true kr) k1 bel lt1) (trodAll_cons_mk (Below.trod laidOut kr (of_decide_eq_true kr) k2 bel lt2) (trodAll_cons_mk (Below.trod laidOut kr (of_decide_eq_true kr) k3 bel lt3) (trodAll_cons_mk (Below.trod laidOut kr (of_decide_eq_true kr) k4 bel lt4) (trodAll_cons_mk (Below.trod laidOut kr (of_decide_eq_true kr) k5 bel lt5) trodAll_mk0)))))),rfl,bel.frame _,λh=>by cases h⟩
theorem topOld_holds:Rows.TopOldSaid:=
 OpenClaim.holds_of_wide 5 Tryz.f5 rfl rfl rfl rfl rfl rfl rfl ⟨rfl,rfl,rfl,rfl,rfl⟩ rfl rfl rfl rfl rfl kr Tryz.func5 jf5
  (of_decide_eq_true kr) (by unfold Func.isWrapper; first | (rw[if_pos (by decide+kernel)]; kernel_rfl) | (rw[if_neg (by decide+kernel)]; exact⟨rfl,rfl⟩))
  (λos started H iM _=>aTH os started H iM)
end Go.Proofs.YtgmieahcpkcabaaGreat
