import Derived.Test.YtgmieahcpkcabaaGreatBq14
import Derived.Test.YtgmieahcpkcabaaGreatBq5
import Derived.Test.YtgmieahcpkcabaaGreatBq6
import Derived.Test.YtgmieahcpkcabaaGreatBq7
set_option maxRecDepth 100000
set_option linter.unusedSimpArgs false
set_option linter.unusedVariables false
set_option linter.constructorNameAsVariable false
set_option linter.unusedSectionVars false
noncomputable section
namespace Go.Proofs.Y
open Go Go.Z
section
variable [kv]
abbrev Ro:X:=j7 (bQ 1 (kI 3 6))
abbrev Rq:X:=j7 (bQ 1 (vq (.v 4) (kI 3 6)))
abbrev aA:X:=eN 0 (.v 1)
theorem XS {E:Env} (b1:0<=N (.v 1)) (b3:0<=N (.v 3)) (b6:0<=N (.v 6)) (b4:0<=N (.v 4)) (h:N (.v 4)<=N (.v 3)):(N Ro=N Rq)=Lz.sameAt (D aA) (N (.v 3)) (N (.v 4)) (N (.v 6)).toNat:=by
 show (D (.v 0) (N (.v 1)+(N (.v 3)+N (.v 6))).toNat=D (.v 0) (N (.v 1)+(N (.v 4)*-1+(N (.v 3)+N (.v 6)))).toNat)=(D (.v 0) ((N (.v 3)+((N (.v 6)).toNat:Int)).toNat+(N (.v 1)).toNat)=D (.v 0) ((N (.v 3)+((N (.v 6)).toNat:Int) - N (.v 4)).toNat+(N (.v 1)).toNat))
 rw[show (N (.v 1)+(N (.v 3)+N (.v 6))).toNat=(N (.v 3)+((N (.v 6)).toNat:Int)).toNat+(N (.v 1)).toNat by omega,show (N (.v 1)+(N (.v 4)*-1+(N (.v 3)+N (.v 6)))).toNat=(N (.v 3)+((N (.v 6)).toNat:Int) - N (.v 4)).toNat+(N (.v 1)).toNat by omega]
abbrev Rr:Nat×Int×Int:=(1,0,1048576)
abbrev amE:VB:=[oB,Rr,(2,0,8192),(3,0,16384),tF,(4,1,4097),(5,1,257),(6,0,257)]
abbrev BB:X:=bz (ir 7 1) 2
abbrev amF:X:=ir 2 3
abbrev Zn:X:=bz amF 5
abbrev Rs:X:=ir 3 4
abbrev amG:X:=qB aA (.v 3) (.v 4) Jr
abbrev zp:V:=tA 0 (.v 1) (.v 2) .a
abbrev aGE:gk:=[(0,zp),(1,EP),(7,vp),(4,MJ),(5,BQ),(6,R5),(34,vO),(35,Fj)]
abbrev mf:Nat×Bl:=z8 0 (.v 7) (.v 0)
abbrev aGF:gk:=[(0,zp),(1,EP),(7,vp),(4,MJ),(5,BQ),(6,R5)]
def HE:Lp:=⟨nK amE [kq,BB,Zn,Rs] (.f 60 amG),aGE,1,[mf],.exit 2,aGF,1,[mf],kq⟩
abbrev am8:X:=fJ (cJ 7 (bQ 1 (kI 6 3)))
def aX6:X:=am8
abbrev am9:X:=.o2 12 Ro Rq
def aX7:X:=am9
theorem aX8:cr aa Tryz.f268.ntmps (aI 8 (loops (aC Tryz.f268))) HE HE.fa:=eX (t:=[]) (lt:=[]) (m:=8) (f:=268) (k:=8) trivial trivial (λ_=>rfl) rfl (.tf Fu (.ge aX6 (.is aX7 true .lf)) .lf) ⟨(uV (λE hF=>by
 obtain⟨hF,h1⟩:=hF
 have h1:N (.v 6) < N (.v 5):=h1
 have b1:=hF.b 1 rfl
 have b2:=hF.b 2 rfl
 have b3:=hF.b 3 rfl
 have b4:=hF.b 4 rfl
 have b5:=hF.b 5 rfl
 have b6:=hF.b 6 rfl
 have b7:=hF.b 7 rfl
 have g0:0<=N (.v 5) - N (.v 6):=hF.g mh
 have g1:0<=N (.v 7) - N (.v 1) - N (.v 2):=hF.g (mt mh)
 have g2:0<=N (.v 2) - N (.v 3) - N (.v 5):=hF.g (mt (mt mh))
 have g3:0<=N (.v 3) - N (.v 4):=hF.g (mt (mt (mt mh)))
 refine⟨?_,?_⟩
 .show 0<=N (.v 7) - (N (.v 1)+(N (.v 6)+N (.v 3))) - 1
  omega
 .have hp:Lz.jA (D aA) (N (.v 3)) (N (.v 4)) (N (.v 5)):=jI (of_decide_eq_true (show decide (yes (Lz.jA (D aA) (N (.v 3)) (N (.v 4)) (N (.v 5)))≠0)=true from hF.t mh))
  refine aRJ ?_
  rw[XS b1.1 b3.1 b6.1 om om]
  exact Lz.aEh hp b6.1 h1) (trivial)),trivial⟩ kr
theorem aX4 (E:Env) (hF:ah HE.fa.fx):0<=N HE.μ:=by
 have h:0<=N (.v 5) - N (.v 6):=hF.g mh
 exact h
theorem aX5:ct aa Tryz.f268.ntmps (aI 8 (loops (aC Tryz.f268))) HE:=aX8.all aX4
theorem aT9:cA aa ((268,8),aW HE):=dZ Tryz.func268 kr aX5
abbrev xw:X:=.f 61 amG
def HF:Lp:=⟨dT amE [bz xw 6,fJ (cJ 5 xw),BB,Zn,Rs] [(.f 60 amG,false)],aGE,1,[mf],.exit 1,aGF,1,[mf],kq⟩
def aYb:X:=am9
def ax3:X:=am8
def aYc:X:=fJ (bz xw 6)
theorem aYd:cr aa Tryz.f268.ntmps (aI 8 (loops (aC Tryz.f268))) HF HF.fa:=eX (t:=[]) (lt:=[]) (m:=8) (f:=268) (k:=8) trivial trivial (λ_=>rfl) rfl (.tf aYb (.ge (fJ kq) (.ge ax3 (.ge aYc .lf))) (.ge (fJ kq) (.ge ax3 .lf))) ⟨(DJ (λE hF=>by
 obtain⟨hF,h1⟩:=hF
 have b1:=hF.b 1 rfl
 have b2:=hF.b 2 rfl
 have b3:=hF.b 3 rfl
 have b4:=hF.b 4 rfl
 have b5:=hF.b 5 rfl
 have b6:=hF.b 6 rfl
 have b7:=hF.b 7 rfl
 have g0:0<=N xw - N (.v 6):=hF.g mh
 have g1:0<=N (.v 5) - N xw - 1:=hF.g (mt mh)
 have g2:0<=N (.v 7) - N (.v 1) - N (.v 2):=hF.g (mt (mt mh))
 have g3:0<=N (.v 2) - N (.v 3) - N (.v 5):=hF.g (mt (mt (mt mh)))
 have g4:0<=N (.v 3) - N (.v 4):=hF.g (mt (mt (mt (mt mh))))
 refine⟨?_,?_,?_⟩
 .show 0<=N (.v 5) - N (.v 6) - 1
  omega
 .show 0<=N (.v 7) - (N (.v 1)+(N (.v 6)+N (.v 3))) - 1
  omega
 .have h1:N Ro=N Rq:=h1
  have hp:¬Lz.jA (D aA) (N (.v 3)) (N (.v 4)) (N (.v 5)):=xo (of_decide_eq_false (show decide (yes (Lz.jA (D aA) (N (.v 3)) (N (.v 4)) (N (.v 5)))≠0)=false from hF.t mh))
  have hl:=Lz.aul om hp
  rw[XS b1.1 b3.1 b6.1 om om] at h1
  have e:N xw=(Lz.ext (D aA) (N (.v 3)) (N (.v 4)) (N (.v 5)).toNat 0:Nat):=rfl
  show 0<=N xw - N (.v 6) - 1
  refine T8.1 λhlt=>?_
  have:(N (.v 6)).toNat=Lz.ext (D aA) (N (.v 3)) (N (.v 4)) (N (.v 5)).toNat 0:=by omega
  rw[this] at h1
  exact hl.2 h1) (trivial)),(uV (λE hF=>by
 obtain⟨hF,h1⟩:=hF
 have b1:=hF.b 1 rfl
 have b2:=hF.b 2 rfl
 have b3:=hF.b 3 rfl
 have b4:=hF.b 4 rfl
 have b5:=hF.b 5 rfl
 have b6:=hF.b 6 rfl
 have b7:=hF.b 7 rfl
 have g0:0<=N xw - N (.v 6):=hF.g mh
 have g1:0<=N (.v 5) - N xw - 1:=hF.g (mt mh)
 have g2:0<=N (.v 7) - N (.v 1) - N (.v 2):=hF.g (mt (mt mh))
 have g3:0<=N (.v 2) - N (.v 3) - N (.v 5):=hF.g (mt (mt (mt mh)))
 have g4:0<=N (.v 3) - N (.v 4):=hF.g (mt (mt (mt (mt mh))))
 refine⟨?_,?_⟩
 .show 0<=N (.v 5) - N (.v 6) - 1
  omega
 .show 0<=N (.v 7) - (N (.v 1)+(N (.v 6)+N (.v 3))) - 1
  omega) (trivial))⟩ kr
theorem aX9 (E:Env) (hF:ah HF.fa.fx):0<=N HF.μ:=by
 have h:0<=N xw - N (.v 6):=hF.g mh
 have h2:0<=N (.v 5) - N xw - 1:=hF.g (mt mh)
 show 0<=N (.v 5) - N (.v 6)
 omega
theorem aYa:ct aa Tryz.f268.ntmps (aI 8 (loops (aC Tryz.f268))) HF:=aYd.all aX9
theorem aUa:cA aa ((268,8),aW HF):=dZ Tryz.func268 kr aYa
abbrev aGG:gk:=[(0,zp),(1,EP),(7,vp),(4,Fj),(5,BQ),(6,vO)]
def HI:Lp:=⟨fj amE [kq,BB,Zn,Rs],aGG,1,[mf],.exit 4,[(0,zp),(1,EP),(7,vp),(4,gw (.f 62 (.c aA aqL))),(5,BQ),(6,vO)],1,[mf],kq⟩
def aYA:X:=am9
def ax6:X:=am8
abbrev aGH:X:=.f 62 (qB aA (.v 3) (.v 4) aNE)
def aYB:X:=ao aGH
def agm:X:=ao (.f 62 (.c aA aqL))
theorem aYC:cr aa Tryz.f268.ntmps (aI 13 (loops (aC Tryz.f268))) HI HI.fa:=eX (t:=[]) (lt:=[]) (m:=8) (f:=268) (k:=13) trivial trivial (λ_=>rfl) rfl (.tf Fu (.tf aYA (.ge ax6 (.same aYB agm .lf)) (.ge ax6 (.same zH agm .lf))) (.same zH agm .lf)) ⟨⟨(uV (λE hF=>by
 obtain⟨⟨hF,h1⟩,h2⟩:=hF
 have h1:N (.v 6) < N (.v 5):=h1
 have b1:=hF.b 1 rfl
 have b2:=hF.b 2 rfl
 have b3:=hF.b 3 rfl
 have b4:=hF.b 4 rfl
 have b5:=hF.b 5 rfl
 have b6:=hF.b 6 rfl
 have b7:=hF.b 7 rfl
 have g0:0<=N (.v 5) - N (.v 6):=hF.g mh
 have g1:0<=N (.v 7) - N (.v 1) - N (.v 2):=hF.g (mt mh)
 have g2:0<=N (.v 2) - N (.v 3) - N (.v 5):=hF.g (mt (mt mh))
 have g3:0<=N (.v 3) - N (.v 4):=hF.g (mt (mt (mt mh)))
 refine⟨?_,?_⟩
 .show 0<=N (.v 7) - (N (.v 1)+(N (.v 6)+N (.v 3))) - 1
  omega
 .have h2:N Ro=N Rq:=h2
  rw[XS b1.1 b3.1 b6.1 om om] at h2
  refine aD ?_
  show Lz.az 0 257 (Lz.ext (D aA) (N (.v 3)) (N (.v 4)) (N (.v 5) - (N (.v 6)+1)).toNat (N (.v 6)+1).toNat:Nat)=Lz.az 0 257 (Lz.ext (D aA) (N (.v 3)) (N (.v 4)) (N (.v 5) - N (.v 6)).toNat (N (.v 6)).toNat:Nat)
  rw[Lz.aRV b6.1 h1 h2]) (trivial)),(uV (λE hF=>by
 obtain⟨⟨hF,h1⟩,h2⟩:=hF
 have h1:N (.v 6) < N (.v 5):=h1
 have b1:=hF.b 1 rfl
 have b2:=hF.b 2 rfl
 have b3:=hF.b 3 rfl
 have b4:=hF.b 4 rfl
 have b5:=hF.b 5 rfl
 have b6:=hF.b 6 rfl
 have b7:=hF.b 7 rfl
 have g0:0<=N (.v 5) - N (.v 6):=hF.g mh
 have g1:0<=N (.v 7) - N (.v 1) - N (.v 2):=hF.g (mt mh)
 have g2:0<=N (.v 2) - N (.v 3) - N (.v 5):=hF.g (mt (mt mh))
 have g3:0<=N (.v 3) - N (.v 4):=hF.g (mt (mt (mt mh)))
 refine⟨?_,?_⟩
 .show 0<=N (.v 7) - (N (.v 1)+(N (.v 6)+N (.v 3))) - 1
  omega
 .have h2:¬N Ro=N Rq:=h2
  rw[XS b1.1 b3.1 b6.1 om om] at h2
  refine aD ?_
  show N (.v 6)=Lz.az 0 257 (Lz.ext (D aA) (N (.v 3)) (N (.v 4)) (N (.v 5) - N (.v 6)).toNat (N (.v 6)).toNat:Nat)
  rw[Lz.aRW h2,Lz.a6 om om]
  omega) (trivial))⟩,⟨λE hF=>(by
 obtain⟨hF,h1⟩:=hF
 have h1:N (.v 5)<=N (.v 6):=h1
 have b1:=hF.b 1 rfl
 have b2:=hF.b 2 rfl
 have b3:=hF.b 3 rfl
 have b4:=hF.b 4 rfl
 have b5:=hF.b 5 rfl
 have b6:=hF.b 6 rfl
 have b7:=hF.b 7 rfl
 refine aD ?_
 show N (.v 6)=Lz.az 0 257 (Lz.ext (D aA) (N (.v 3)) (N (.v 4)) (N (.v 5) - N (.v 6)).toNat (N (.v 6)).toNat:Nat)
 rw[Lz.aRU h1,Lz.a6 om om]
 omega),trivial⟩⟩ kr
theorem aYy (E:Env) (hF:ah HI.fa.fx):0<=N HI.μ:=by
 have h:0<=N (.v 5) - N (.v 6):=hF.g mh
 exact h
theorem aYz:ct aa Tryz.f268.ntmps (aI 13 (loops (aC Tryz.f268))) HI:=aYC.all aYy
theorem aUd:cA aa ((268,13),aW HI):=dZ Tryz.func268 kr aYz
abbrev Zy:X:=kK aA 3 (zF 5 4 6 IX)
def HH:Lp:=⟨fj [oB,Rr,(2,0,8192),(3,0,16384),tF,(4,1,4097),(5,1,257),(6,0,257),(8,0,4097)] [kq,BB,Zn],aGG,1,[mf],.exit 0,[(4,gw (.f 63 Zy)),(5,gw (.f 64 Zy))],1,[mf],bz (.i 4097) 4⟩
abbrev Zz:X:=EI (MB dW 3) dW 3
def aYp:X:=.o1 8 (MB Zz 4)
abbrev aGI:X:=kK aA 3 (eZ 4 IV)
def aYq:X:=.f 60 aGI
def ax4:X:=aGH
def aYt:X:=cJ 5 ax4
abbrev aGJ:X:=kK aA 3 (bL 5 EG (di ax4 (.v 4)))
def aYu:X:=ao (.f 63 aGJ)
def V6:X:=ao (.f 63 Zy)
def aYv:X:=ao (.f 64 aGJ)
def V7:X:=ao (.f 64 Zy)
def ax5:X:=.f 61 aGI
def aYw:X:=Su IV ax5
abbrev aGK:X:=kK aA 3 (xF 5 EG 6 IX)
def aYr:X:=ao (.f 63 aGK)
def aYs:X:=ao (.f 64 aGK)
theorem aYx:cr aa Tryz.f268.ntmps (aI 5 (loops (aC Tryz.f268))) HH HH.fa:=eX (t:=[]) (lt:=[((268,8),gC (aW HE) (aW HF)),((268,13),aW HI)]) (m:=8) (f:=268) (k:=5) trivial ⟨(jE (aT9) (aUa)),aUd,trivial⟩ (λ_=>rfl) rfl (.tf aYp (.tf Fu (.tf aYq (.ge Rs (.ge (bz dW 4) (.ge aYt (.same aYu V6 (.same aYv V7 .lf))))) (.ge Rs (.ge (bz dW 4) (.ge ax5 (.ge aYw (.same aYr V6 (.same aYs V7 .lf))))))) (.same zH V6 (.same (fP 8) V7 .lf))) (.same zH V6 (.same (fP 8) V7 .lf))) ⟨⟨⟨(oC5 (λE hF=>by
 obtain⟨⟨⟨hF,h0⟩,h1⟩,h2⟩:=hF
 have h0:N (.v 4)<=N Zz:=h0
 refine⟨?_,?_,?_,?_,?_⟩
 .rw[sW] at h0
  have hm:=Lz.uM (N (.v 3))
  have h1:N (.v 6) < N (.v 5):=h1
  have b1:=hF.b 1 rfl
  have b2:=hF.b 2 rfl
  have b3:=hF.b 3 rfl
  have b4:=hF.b 4 rfl
  have b5:=hF.b 5 rfl
  have b6:=hF.b 6 rfl
  have b7:=hF.b 7 rfl
  have g0:0<=N (.v 5) - N (.v 6):=hF.g mh
  have g1:0<=N (.v 7) - N (.v 1) - N (.v 2):=hF.g (mt mh)
  have g2:0<=N (.v 2) - N (.v 3) - N (.v 5):=hF.g (mt (mt mh))
  have h2:Lz.jA (D aA) (N (.v 3)) (N (.v 4)) (N (.v 6)+1):=jI (of_decide_eq_true h2)
  show 0<=N (.v 3) - N (.v 4)
  omega
 .rw[sW] at h0
  have hm:=Lz.uM (N (.v 3))
  have h1:N (.v 6) < N (.v 5):=h1
  have b1:=hF.b 1 rfl
  have b2:=hF.b 2 rfl
  have b3:=hF.b 3 rfl
  have b4:=hF.b 4 rfl
  have b5:=hF.b 5 rfl
  have b6:=hF.b 6 rfl
  have b7:=hF.b 7 rfl
  have g0:0<=N (.v 5) - N (.v 6):=hF.g mh
  have g1:0<=N (.v 7) - N (.v 1) - N (.v 2):=hF.g (mt mh)
  have g2:0<=N (.v 2) - N (.v 3) - N (.v 5):=hF.g (mt (mt mh))
  have h2:Lz.jA (D aA) (N (.v 3)) (N (.v 4)) (N (.v 6)+1):=jI (of_decide_eq_true h2)
  show 0<=4096 - N (.v 4)
  omega
 .rw[sW] at h0
  have hm:=Lz.uM (N (.v 3))
  have h1:N (.v 6) < N (.v 5):=h1
  have b1:=hF.b 1 rfl
  have b2:=hF.b 2 rfl
  have b3:=hF.b 3 rfl
  have b4:=hF.b 4 rfl
  have b5:=hF.b 5 rfl
  have b6:=hF.b 6 rfl
  have b7:=hF.b 7 rfl
  have g0:0<=N (.v 5) - N (.v 6):=hF.g mh
  have g1:0<=N (.v 7) - N (.v 1) - N (.v 2):=hF.g (mt mh)
  have g2:0<=N (.v 2) - N (.v 3) - N (.v 5):=hF.g (mt (mt mh))
  have h2:Lz.jA (D aA) (N (.v 3)) (N (.v 4)) (N (.v 6)+1):=jI (of_decide_eq_true h2)
  have hc:=Lz.aeU (r:=(D aA)) (a:=N (.v 3)) (d:=N (.v 4)) b6.1 h1 b5.2
  show 0<=N (.v 5) - Lz.az 0 257 (Lz.ext (D aA) (N (.v 3)) (N (.v 4)) (N (.v 5) - (N (.v 6)+1)).toNat (N (.v 6)+1).toNat:Nat)
  rw[hc.1]
  have:=hc.2.1
  omega
 .rw[sW] at h0
  have hm:=Lz.uM (N (.v 3))
  have h1:N (.v 6) < N (.v 5):=h1
  have b1:=hF.b 1 rfl
  have b2:=hF.b 2 rfl
  have b3:=hF.b 3 rfl
  have b4:=hF.b 4 rfl
  have b5:=hF.b 5 rfl
  have b6:=hF.b 6 rfl
  have b7:=hF.b 7 rfl
  have g0:0<=N (.v 5) - N (.v 6):=hF.g mh
  have g1:0<=N (.v 7) - N (.v 1) - N (.v 2):=hF.g (mt mh)
  have g2:0<=N (.v 2) - N (.v 3) - N (.v 5):=hF.g (mt (mt mh))
  have h2:Lz.jA (D aA) (N (.v 3)) (N (.v 4)) (N (.v 6)+1):=jI (of_decide_eq_true h2)
  have hc:=Lz.aeU (r:=(D aA)) (a:=N (.v 3)) (d:=N (.v 4)) b6.1 h1 b5.2
  refine aD ?_
  show Lz.az 0 257 (Lz.fU (D aA) (N (.v 3)) (N (.v 5)) (N (.v 4)+1) (Lz.az 0 257 (Lz.ext (D aA) (N (.v 3)) (N (.v 4)) (N (.v 5) - (N (.v 6)+1)).toNat (N (.v 6)+1).toNat:Nat)) (N (.v 4))).1=Lz.az 0 257 (Lz.fU (D aA) (N (.v 3)) (N (.v 5)) (N (.v 4)) (N (.v 6)) (N (.v 8))).1
  rw[hc.1,Lz.asZ (dist:=N (.v 8)) h0 h1 h2]
 .rw[sW] at h0
  have hm:=Lz.uM (N (.v 3))
  have h1:N (.v 6) < N (.v 5):=h1
  have b1:=hF.b 1 rfl
  have b2:=hF.b 2 rfl
  have b3:=hF.b 3 rfl
  have b4:=hF.b 4 rfl
  have b5:=hF.b 5 rfl
  have b6:=hF.b 6 rfl
  have b7:=hF.b 7 rfl
  have g0:0<=N (.v 5) - N (.v 6):=hF.g mh
  have g1:0<=N (.v 7) - N (.v 1) - N (.v 2):=hF.g (mt mh)
  have g2:0<=N (.v 2) - N (.v 3) - N (.v 5):=hF.g (mt (mt mh))
  have h2:Lz.jA (D aA) (N (.v 3)) (N (.v 4)) (N (.v 6)+1):=jI (of_decide_eq_true h2)
  have hc:=Lz.aeU (r:=(D aA)) (a:=N (.v 3)) (d:=N (.v 4)) b6.1 h1 b5.2
  refine aD ?_
  show Lz.az 0 4097 (Lz.fU (D aA) (N (.v 3)) (N (.v 5)) (N (.v 4)+1) (Lz.az 0 257 (Lz.ext (D aA) (N (.v 3)) (N (.v 4)) (N (.v 5) - (N (.v 6)+1)).toNat (N (.v 6)+1).toNat:Nat)) (N (.v 4))).2=Lz.az 0 4097 (Lz.fU (D aA) (N (.v 3)) (N (.v 5)) (N (.v 4)) (N (.v 6)) (N (.v 8))).2
  rw[hc.1,Lz.asZ (dist:=N (.v 8)) h0 h1 h2]) (trivial)),(oC6 (λE hF=>by
 obtain⟨⟨⟨hF,h0⟩,h1⟩,h2⟩:=hF
 have h0:N (.v 4)<=N Zz:=h0
 refine⟨?_,?_,?_,?_,?_,?_⟩
 .rw[sW] at h0
  have hm:=Lz.uM (N (.v 3))
  have h1:N (.v 6) < N (.v 5):=h1
  have b1:=hF.b 1 rfl
  have b2:=hF.b 2 rfl
  have b3:=hF.b 3 rfl
  have b4:=hF.b 4 rfl
  have b5:=hF.b 5 rfl
  have b6:=hF.b 6 rfl
  have b7:=hF.b 7 rfl
  have g0:0<=N (.v 5) - N (.v 6):=hF.g mh
  have g1:0<=N (.v 7) - N (.v 1) - N (.v 2):=hF.g (mt mh)
  have g2:0<=N (.v 2) - N (.v 3) - N (.v 5):=hF.g (mt (mt mh))
  have h2:¬Lz.jA (D aA) (N (.v 3)) (N (.v 4)) (N (.v 6)+1):=xo (of_decide_eq_false h2)
  show 0<=N (.v 3) - N (.v 4)
  omega
 .rw[sW] at h0
  have hm:=Lz.uM (N (.v 3))
  have h1:N (.v 6) < N (.v 5):=h1
  have b1:=hF.b 1 rfl
  have b2:=hF.b 2 rfl
  have b3:=hF.b 3 rfl
  have b4:=hF.b 4 rfl
  have b5:=hF.b 5 rfl
  have b6:=hF.b 6 rfl
  have b7:=hF.b 7 rfl
  have g0:0<=N (.v 5) - N (.v 6):=hF.g mh
  have g1:0<=N (.v 7) - N (.v 1) - N (.v 2):=hF.g (mt mh)
  have g2:0<=N (.v 2) - N (.v 3) - N (.v 5):=hF.g (mt (mt mh))
  have h2:¬Lz.jA (D aA) (N (.v 3)) (N (.v 4)) (N (.v 6)+1):=xo (of_decide_eq_false h2)
  show 0<=4096 - N (.v 4)
  omega
 .rw[sW] at h0
  have hm:=Lz.uM (N (.v 3))
  have h1:N (.v 6) < N (.v 5):=h1
  have b1:=hF.b 1 rfl
  have b2:=hF.b 2 rfl
  have b3:=hF.b 3 rfl
  have b4:=hF.b 4 rfl
  have b5:=hF.b 5 rfl
  have b6:=hF.b 6 rfl
  have b7:=hF.b 7 rfl
  have g0:0<=N (.v 5) - N (.v 6):=hF.g mh
  have g1:0<=N (.v 7) - N (.v 1) - N (.v 2):=hF.g (mt mh)
  have g2:0<=N (.v 2) - N (.v 3) - N (.v 5):=hF.g (mt (mt mh))
  have h2:¬Lz.jA (D aA) (N (.v 3)) (N (.v 4)) (N (.v 6)+1):=xo (of_decide_eq_false h2)
  show (0:Int)<=(Lz.ext (D aA) (N (.v 3)) (N (.v 4)) (N (.v 6)+1).toNat 0:Nat)
  omega
 .rw[sW] at h0
  have hm:=Lz.uM (N (.v 3))
  have h1:N (.v 6) < N (.v 5):=h1
  have b1:=hF.b 1 rfl
  have b2:=hF.b 2 rfl
  have b3:=hF.b 3 rfl
  have b4:=hF.b 4 rfl
  have b5:=hF.b 5 rfl
  have b6:=hF.b 6 rfl
  have b7:=hF.b 7 rfl
  have g0:0<=N (.v 5) - N (.v 6):=hF.g mh
  have g1:0<=N (.v 7) - N (.v 1) - N (.v 2):=hF.g (mt mh)
  have g2:0<=N (.v 2) - N (.v 3) - N (.v 5):=hF.g (mt (mt mh))
  have h2:¬Lz.jA (D aA) (N (.v 3)) (N (.v 4)) (N (.v 6)+1):=xo (of_decide_eq_false h2)
  have hl:=(Lz.aul om h2).1
  show 0<=N (.v 6)+1 - (Lz.ext (D aA) (N (.v 3)) (N (.v 4)) (N (.v 6)+1).toNat 0:Nat) - 1
  omega
 .rw[sW] at h0
  have hm:=Lz.uM (N (.v 3))
  have h1:N (.v 6) < N (.v 5):=h1
  have b1:=hF.b 1 rfl
  have b2:=hF.b 2 rfl
  have b3:=hF.b 3 rfl
  have b4:=hF.b 4 rfl
  have b5:=hF.b 5 rfl
  have b6:=hF.b 6 rfl
  have b7:=hF.b 7 rfl
  have g0:0<=N (.v 5) - N (.v 6):=hF.g mh
  have g1:0<=N (.v 7) - N (.v 1) - N (.v 2):=hF.g (mt mh)
  have g2:0<=N (.v 2) - N (.v 3) - N (.v 5):=hF.g (mt (mt mh))
  have h2:¬Lz.jA (D aA) (N (.v 3)) (N (.v 4)) (N (.v 6)+1):=xo (of_decide_eq_false h2)
  refine aD ?_
  show Lz.az 0 257 (Lz.fU (D aA) (N (.v 3)) (N (.v 5)) (N (.v 4)+1) (N (.v 6)) (N (.v 8))).1=Lz.az 0 257 (Lz.fU (D aA) (N (.v 3)) (N (.v 5)) (N (.v 4)) (N (.v 6)) (N (.v 8))).1
  rw[Lz.asW h0 h1 h2]
 .rw[sW] at h0
  have hm:=Lz.uM (N (.v 3))
  have h1:N (.v 6) < N (.v 5):=h1
  have b1:=hF.b 1 rfl
  have b2:=hF.b 2 rfl
  have b3:=hF.b 3 rfl
  have b4:=hF.b 4 rfl
  have b5:=hF.b 5 rfl
  have b6:=hF.b 6 rfl
  have b7:=hF.b 7 rfl
  have g0:0<=N (.v 5) - N (.v 6):=hF.g mh
  have g1:0<=N (.v 7) - N (.v 1) - N (.v 2):=hF.g (mt mh)
  have g2:0<=N (.v 2) - N (.v 3) - N (.v 5):=hF.g (mt (mt mh))
  have h2:¬Lz.jA (D aA) (N (.v 3)) (N (.v 4)) (N (.v 6)+1):=xo (of_decide_eq_false h2)
  refine aD ?_
  show Lz.az 0 4097 (Lz.fU (D aA) (N (.v 3)) (N (.v 5)) (N (.v 4)+1) (N (.v 6)) (N (.v 8))).2=Lz.az 0 4097 (Lz.fU (D aA) (N (.v 3)) (N (.v 5)) (N (.v 4)) (N (.v 6)) (N (.v 8))).2
  rw[Lz.asW h0 h1 h2]) (trivial))⟩,(uV (λE hF=>by
 obtain⟨⟨hF,h0⟩,h1⟩:=hF
 have h1:N (.v 5)<=N (.v 6):=h1
 have b1:=hF.b 1 rfl
 have b2:=hF.b 2 rfl
 have b3:=hF.b 3 rfl
 have b4:=hF.b 4 rfl
 have b5:=hF.b 5 rfl
 have b6:=hF.b 6 rfl
 have b7:=hF.b 7 rfl
 have b8:=hF.b 8 rfl
 refine⟨?_,?_⟩
 .refine aD ?_
  show N (.v 6)=Lz.az 0 257 (Lz.fU (D aA) (N (.v 3)) (N (.v 5)) (N (.v 4)) (N (.v 6)) (N (.v 8))).1
  rw[Lz.asY h1]
  exact (Lz.a6 om om).symm
 .refine aD ?_
  show N (.v 8)=Lz.az 0 4097 (Lz.fU (D aA) (N (.v 3)) (N (.v 5)) (N (.v 4)) (N (.v 6)) (N (.v 8))).2
  rw[Lz.asY h1]
  exact (Lz.a6 (by exact b8.1) (by exact b8.2)).symm) (trivial))⟩,(uV (λE hF=>by
 obtain⟨hF,h0⟩:=hF
 have h0:N Zz < N (.v 4):=h0
 refine⟨?_,?_⟩
 .rw[sW] at h0
  have b1:=hF.b 1 rfl
  have b2:=hF.b 2 rfl
  have b3:=hF.b 3 rfl
  have b4:=hF.b 4 rfl
  have b5:=hF.b 5 rfl
  have b6:=hF.b 6 rfl
  have b7:=hF.b 7 rfl
  have b8:=hF.b 8 rfl
  refine aD ?_
  show N (.v 6)=Lz.az 0 257 (Lz.fU (D aA) (N (.v 3)) (N (.v 5)) (N (.v 4)) (N (.v 6)) (N (.v 8))).1
  rw[Lz.asX h0]
  exact (Lz.a6 om om).symm
 .rw[sW] at h0
  have b1:=hF.b 1 rfl
  have b2:=hF.b 2 rfl
  have b3:=hF.b 3 rfl
  have b4:=hF.b 4 rfl
  have b5:=hF.b 5 rfl
  have b6:=hF.b 6 rfl
  have b7:=hF.b 7 rfl
  have b8:=hF.b 8 rfl
  refine aD ?_
  show N (.v 8)=Lz.az 0 4097 (Lz.fU (D aA) (N (.v 3)) (N (.v 5)) (N (.v 4)) (N (.v 6)) (N (.v 8))).2
  rw[Lz.asX h0]
  exact (Lz.a6 (by exact b8.1) (by exact b8.2)).symm) (trivial))⟩ kr
theorem aYn (E:Env) (hF:ah HH.fa.fx):0<=N HH.μ:=by
 have:=(hF.b 4 rfl).2
 show 0<=4097 - N (.v 4)
 omega
theorem aYo:ct aa Tryz.f268.ntmps (aI 5 (loops (aC Tryz.f268))) HH:=aYx.all aYn
theorem aUc:cA aa ((268,5),aW HH):=dZ Tryz.func268 kr aYo
end
end Go.Proofs.Y
namespace Go.Proofs.Y
open Go Go.Z
section
variable [kv]
abbrev RD:X:=pD aA 3 (bQ 2 (mP 3 nH)) aj xQ
def azN:X:=.f 63 RD
def ahK:X:=.o2 11 azN cq
abbrev RE:X:=pD aA 3 (.i 257) aj xQ
def azO:X:=.f 63 RE
def ahL:X:=.o2 11 azO cq
abbrev RF:X:=.o2 11 amF (.i 257)
def ahJ:Sp:=pB (fj [oB,Rr,(2,1,8192),(3,0,16384),tF] [BB,fJ amF]) [zp,EP] mf (tz (nM (.o3 1 RF (pz ahK azN) (pz ahL azO))) (nM (.o3 1 RF (pz ahK (.f 64 RD)) (pz ahL (.f 64 RE))))) [mf]
abbrev RG:X:=kK aA 2 I7
abbrev ZA:X:=.f 66 RG
def WL:Sp:={ahJ with v:=tz (nM ZA) (nM (.f 67 RG)),l':=ahJ.l'}
theorem a2e:ab aa 268 ahJ:=aG (t:=[]) (lt:=[((268,5),aW HH)]) (m:=8) trivial ⟨aUc,trivial⟩ (.tf RF (.tf ahK .lf .lf) (.tf ahL .lf .lf)) kr
abbrev aGL:X:=.o2 11 (.f 63 RD) cq
abbrev aGM:X:=.o2 11 (.f 63 RE) cq
theorem a2f:ab aa 268 WL:=aL a2e [((ao (.o3 1 RF (pz aGL (.f 63 RD)) (pz aGM (.f 63 RE)))),(ao ZA)),((ao (.o3 1 RF (pz aGL (.f 64 RD)) (pz aGM (.f 64 RE)))),(ao (.f 67 RG)))] _ _ (al (λE hF=>(by
 refine aD ?_
 rw[pX,pX,pX]
 show (if N (.v 2) - N (.v 3) < 257 then (if Lz.az 0 257 (Lz.fU (D aA) (N (.v 3)) (N (.v 2)+N (.v 3)*-1) 1 0 0).1 < 3 then 0 else Lz.az 0 257 (Lz.fU (D aA) (N (.v 3)) (N (.v 2)+N (.v 3)*-1) 1 0 0).1) else if Lz.az 0 257 (Lz.fU (D aA) (N (.v 3)) 257 1 0 0).1 < 3 then 0 else Lz.az 0 257 (Lz.fU (D aA) (N (.v 3)) 257 1 0 0).1)=Lz.bN (D aA) (N (.v 2)) (N (.v 3))
 unfold Lz.bN Lz.wq Lz.Db
 rw[Lz.agE,show (N (.v 2)+N (.v 3)*-1)=N (.v 2) - N (.v 3) by omega]
 by_cases h:N (.v 2) - N (.v 3) < 257
 .simp only[if_pos h]
 .simp only[if_neg h]))<|al (λE hF=>(by
 refine aD ?_
 rw[pX,pX,pX]
 show (if N (.v 2) - N (.v 3) < 257 then (if Lz.az 0 257 (Lz.fU (D aA) (N (.v 3)) (N (.v 2)+N (.v 3)*-1) 1 0 0).1 < 3 then 0 else Lz.az 0 4097 (Lz.fU (D aA) (N (.v 3)) (N (.v 2)+N (.v 3)*-1) 1 0 0).2) else if Lz.az 0 257 (Lz.fU (D aA) (N (.v 3)) 257 1 0 0).1 < 3 then 0 else Lz.az 0 4097 (Lz.fU (D aA) (N (.v 3)) 257 1 0 0).2)=Lz.bD (D aA) (N (.v 2)) (N (.v 3))
 unfold Lz.bD Lz.Kn Lz.wq Lz.Db
 rw[Lz.agE,show (N (.v 2)+N (.v 3)*-1)=N (.v 2) - N (.v 3) by omega]
 by_cases h:N (.v 2) - N (.v 3) < 257
 .simp only[if_pos h]
 .simp only[if_neg h]))<|aN) kr
theorem azn:aY aa (268,av WL):=cf a2f
abbrev BD:X:=mP 11 cq
abbrev ana:X:=bQ 11 (.f 70 RG)
abbrev EA(a:X):X:=.o2 2 a cq
abbrev aGN:X:=.f 71 (kK aA 2 (cN 3 12 (bj (.v 11))))
def K9:Lp:=⟨fj [oB,Rr,(2,1,8192),(3,0,16384),tF,(11,0,8192)] [BB,ir 3 11],[(0,zp),(3,lH 1 (.v 11)),(4,EP)],2,[mf,(1,abd BD (.v 12))],.exit 0,[(3,lH 2 ana)],3,[mf,(2,abd (EA ana) aGN)],bz (.i 16384) 3⟩
def agq:X:=ZA
def aYV:X:=qu agq
def aye:X:=bQ 3 agq
def ayf:X:=.o2 0 R9 (.f 70 (lE aA (.v 2) aye))
def aY3:X:=ao ayf
def ayg:X:=ana
def agt:X:=ao ayg
def agu:X:=EA ayf
def aY4:X:=ao agu
def agv:X:=ao (EA ayg)
abbrev aGO:X:=r9 (.f 67 RG) BN
def aYW:X:=bk (.f 71 (pD aA 2 aye (bZ (.v 12) BD agq aj aGO) (bj R9))) agu
def agr:X:=aGN
def aYX:X:=bk agr agu
def ayd:X:=.o2 0 R9 (.f 70 (kK aA 2 aMd))
def aYY:X:=ao ayd
def ags:X:=EA ayd
def aYZ:X:=ao ags
abbrev aGu:X:=j7 (kI 1 3)
abbrev am1:X:=oY 12 BD ae bA (lD aGu)
def aY0:X:=bk (.f 71 (pD aA 2 (nE 3) am1 (bj R9))) ags
def aY1:X:=bk agr ags
def aY2:X:=bk agr BD
abbrev aGv:X:=bZ (.v 12) BD ZA aj aGO
theorem aY5:cr aa Tryz.f210.ntmps (aI 5 (loops (aC Tryz.f210))) K9 K9.fa:=eX (t:=[(268,av WL)]) (lt:=[]) (m:=8) (f:=210) (k:=5) ⟨azn,trivial⟩ trivial (λ_=>rfl) rfl (.tf (xE 3 2) (.tf aYV (.same aY3 agt (.same aY4 agv (.same aYW aYX .lf))) (.same aYY agt (.same aYZ agv (.same aY0 aY1 .lf)))) (.same (fP 11) agt (.same (ao BD) agv (.same (zU 12 BD) aY2 .lf)))) ⟨⟨(DJ (λE hF=>by
 obtain⟨⟨hF,h1⟩,h2⟩:=hF
 have h1:N (.v 3) < N (.v 2):=h1
 have b1:=hF.b 1 rfl
 have b2:=hF.b 2 rfl
 have b3:=hF.b 3 rfl
 have b11:=hF.b 11 rfl
 have h2:0 < Lz.bN (D aA) (N (.v 2)) (N (.v 3)):=h2
 have hL:Lz.fY (D aA) (N (.v 2)) (N (.v 3))=Lz.bN (D aA) (N (.v 2)) (N (.v 3)):=if_pos h2
 have h_0:Lz.fi (D aA) (N (.v 2)) (N (.v 3))=Lz.bN (D aA) (N (.v 2)) (N (.v 3)):=if_pos h2
 have h_1:Lz.fH (D aA) (N (.v 2)) (N (.v 3))=Lz.bD (D aA) (N (.v 2)) (N (.v 3)):=if_pos h2
 have h_2:Lz.fI (D aA) (N (.v 2)) (N (.v 3))=0:=if_pos h2
 have hc:=Lz.X3 (r:=(D aA)) b3.1 b2.2 h1
 refine⟨?_,?_,?_⟩
 .rw[hL] at hc
  refine aD ?_
  show N (.v 11)+1+Lz.dd (D aA) (N (.v 2)) (N (.v 3)+Lz.bN (D aA) (N (.v 2)) (N (.v 3)))=N (.v 11)+Lz.dd (D aA) (N (.v 2)) (N (.v 3))
  omega
 .rw[hL] at hc
  refine aD ?_
  show (N (.v 11)+1+Lz.dd (D aA) (N (.v 2)) (N (.v 3)+Lz.bN (D aA) (N (.v 2)) (N (.v 3))))*3=(N (.v 11)+Lz.dd (D aA) (N (.v 2)) (N (.v 3)))*3
  omega
 .rw[hL] at hc
  refine aq (λq hq=>?_) _
  have hq:(q:Int) < (N (.v 11)+1+Lz.dd (D aA) (N (.v 2)) (N (.v 3)+Lz.bN (D aA) (N (.v 2)) (N (.v 3))))*3:=hq
  have hu:∀q:Nat,(q:Int) < 3*(N (.v 11)+1)->D aGv q=Lz.gE (D (.v 12)) (N (.v 11)) (Lz.fi (D aA) (N (.v 2)) (N (.v 3))) (Lz.fH (D aA) (N (.v 2)) (N (.v 3))) (Lz.fI (D aA) (N (.v 2)) (N (.v 3))) q:=λq hq=>by
   rw[h_0,h_1,h_2]
   unfold Lz.gE
   have e3:N BD=N (.v 11)*3:=rfl
   rw[cE,cE,cE,e3]
   by_cases q1:(q:Int) < N (.v 11)*3
   .rw[if_pos q1,if_pos om]
   .have p1:¬(q:Int) < 3*N (.v 11):=by omega
    rw[if_neg q1,if_neg p1]
    have n1:N aj=1:=rfl
    rw[n1,adJ]
    by_cases q2:(q:Int)=3*N (.v 11)
    .have c1:((q - (N (.v 11)*3).toNat:Nat):Int) < 1:=by omega
     rw[if_pos c1,if_pos q2]; rfl
    .have c1:¬((q - (N (.v 11)*3).toNat:Nat):Int) < 1:=by omega
     rw[if_neg c1,if_neg q2]
     by_cases q3:(q:Int)=3*N (.v 11)+1
     .have c2:((q - (N (.v 11)*3).toNat - Int.toNat 1:Nat):Int) < 1:=by omega
      rw[if_pos c2,if_pos q3]; rfl
     .have c2:¬((q - (N (.v 11)*3).toNat - Int.toNat 1:Nat):Int) < 1:=by omega
      rw[if_neg c2,if_neg q3,ite_self]
  show (Lz.eB (D aA) (N (.v 2)) (N (.v 3)+Lz.bN (D aA) (N (.v 2)) (N (.v 3))) (D aGv) (N (.v 11)+1)).1 q=(Lz.eB (D aA) (N (.v 2)) (N (.v 3)) (D (.v 12)) (N (.v 11))).1 q
  have:=Lz.X5 b3.1 b2.2 h1 b11.1 hu q om
  rw[hL] at this
  exact this) (trivial)),(DJ (λE hF=>by
 obtain⟨⟨hF,h1⟩,h2⟩:=hF
 have h1:N (.v 3) < N (.v 2):=h1
 have b1:=hF.b 1 rfl
 have b2:=hF.b 2 rfl
 have b3:=hF.b 3 rfl
 have b11:=hF.b 11 rfl
 have h2:¬0 < Lz.bN (D aA) (N (.v 2)) (N (.v 3)):=by have h2:Lz.bN (D aA) (N (.v 2)) (N (.v 3))<=0:=h2; omega
 have hL:Lz.fY (D aA) (N (.v 2)) (N (.v 3))=1:=if_neg h2
 have h_0:Lz.fi (D aA) (N (.v 2)) (N (.v 3))=0:=if_neg h2
 have h_1:Lz.fH (D aA) (N (.v 2)) (N (.v 3))=0:=if_neg h2
 have h_2:Lz.fI (D aA) (N (.v 2)) (N (.v 3))=(D aA) (N (.v 3)).toNat:=if_neg h2
 have hc:=Lz.X3 (r:=(D aA)) b3.1 b2.2 h1
 refine⟨?_,?_,?_⟩
 .rw[hL] at hc
  refine aD ?_
  show N (.v 11)+1+Lz.dd (D aA) (N (.v 2)) (N (.v 3)+1)=N (.v 11)+Lz.dd (D aA) (N (.v 2)) (N (.v 3))
  omega
 .rw[hL] at hc
  refine aD ?_
  show (N (.v 11)+1+Lz.dd (D aA) (N (.v 2)) (N (.v 3)+1))*3=(N (.v 11)+Lz.dd (D aA) (N (.v 2)) (N (.v 3)))*3
  omega
 .rw[hL] at hc
  refine aq (λq hq=>?_) _
  have hq:(q:Int) < (N (.v 11)+1+Lz.dd (D aA) (N (.v 2)) (N (.v 3)+1))*3:=hq
  have hu:∀q:Nat,(q:Int) < 3*(N (.v 11)+1)->D am1 q=Lz.gE (D (.v 12)) (N (.v 11)) (Lz.fi (D aA) (N (.v 2)) (N (.v 3))) (Lz.fH (D aA) (N (.v 2)) (N (.v 3))) (Lz.fI (D aA) (N (.v 2)) (N (.v 3))) q:=λq hq=>by
   rw[h_0,h_1,h_2]
   unfold Lz.gE
   have e3:N BD=N (.v 11)*3:=rfl
   rw[cE,cE,cE,e3]
   by_cases q1:(q:Int) < N (.v 11)*3
   .rw[if_pos q1,if_pos om]
   .have p1:¬(q:Int) < 3*N (.v 11):=by omega
    rw[if_neg q1,if_neg p1]
    have n1:N aj=1:=rfl
    have n2:N bA=2:=rfl
    have ec:N aGu=(D aA) (N (.v 3)).toNat:=by
     show D (.v 0) (N (.v 1)+N (.v 3)).toNat=D (.v 0) ((N (.v 3)).toNat+(N (.v 1)).toNat)
     congr 1; omega
    rw[n1,n2]
    by_cases q2:(q:Int)=3*N (.v 11)
    .have c1:((q - (N (.v 11)*3).toNat:Nat):Int) < 2:=by omega
     rw[if_pos c1,if_pos q2]; rfl
    .rw[if_neg q2]
     by_cases q3:(q:Int)=3*N (.v 11)+1
     .have c1:((q - (N (.v 11)*3).toNat:Nat):Int) < 2:=by omega
      rw[if_pos c1,if_pos q3]; rfl
     .have c1:¬((q - (N (.v 11)*3).toNat:Nat):Int) < 2:=by omega
      have c2:((q - (N (.v 11)*3).toNat - Int.toNat 2:Nat):Int) < 1:=by omega
      have q4:(q:Int)=3*N (.v 11)+2:=by omega
      rw[if_neg c1,if_neg q3,if_pos c2,if_pos q4]
      exact ec
  show (Lz.eB (D aA) (N (.v 2)) (N (.v 3)+1) (D am1) (N (.v 11)+1)).1 q=(Lz.eB (D aA) (N (.v 2)) (N (.v 3)) (D (.v 12)) (N (.v 11))).1 q
  have:=Lz.X5 b3.1 b2.2 h1 b11.1 hu q om
  rw[hL] at this
  exact this) (trivial))⟩,(DJ (λE hF=>by
 have h1:N (.v 2)<=N (.v 3):=hF.2
 have hc:=Lz.a9X (r:=(D aA)) h1
 refine⟨?_,?_,?_⟩
 .refine aD ?_
  show N (.v 11)=N (.v 11)+Lz.dd (D aA) (N (.v 2)) (N (.v 3))
  omega
 .refine aD ?_
  show N (.v 11)*3=(N (.v 11)+Lz.dd (D aA) (N (.v 2)) (N (.v 3)))*3
  omega
 .refine aq (λq _=>?_) _
  show D (.v 12) q=(Lz.eB (D aA) (N (.v 2)) (N (.v 3)) (D (.v 12)) (N (.v 11))).1 q
  rw[Lz.It _ _ h1]) (trivial))⟩ kr
theorem aYU (E:Env) (hF:ah K9.fa.fx):0<=N K9.μ:=by
 have:=(hF.b 3 rfl).2
 show 0<=16384 - N (.v 3)
 omega
theorem aYT:∀M,qN aa Tryz.f210.ntmps (aI 5 (loops (aC Tryz.f210))) K9 M:=aY5.lpm aYU
abbrev am2:VB:=[oB,Rr,(2,1,8192),tF]
abbrev Zx:X:=kK aA 2 qz
abbrev IJ:X:=.f 70 Zx
abbrev aGw:V:=lH 1 IJ
abbrev Mm:X:=.f 71 (qB aA (.v 2) ae xQ)
abbrev aGx:List (Nat×Bl):=[mf,(1,abd (EA IJ) Mm)]
def agn:Lp:=⟨jv am2 BB,[(0,zp),(3,vF),(4,eJ)],1,[mf],.exit 0,[(3,aGw)],2,aGx,ae⟩
def V8:X:=.f 66 Zx
def aYK:X:=qu V8
def ax9:X:=.o2 0 aj (.f 70 (lE aA (.v 2) V8))
def aYQ:X:=ao ax9
def aya:X:=IJ
def ayb:X:=ao aya
def agp:X:=EA ax9
def aYR:X:=ao agp
def ayc:X:=ao (EA aya)
abbrev aGy:X:=r9 (.f 67 Zx) BN
def aYS:X:=bk (.f 71 (pD aA 2 V8 (r9 V8 aGy) xH)) agp
def ax7:X:=Mm
def aYL:X:=bk ax7 agp
def ax8:X:=.o2 0 aj (.f 70 (kK aA 2 xH))
def aYM:X:=ao ax8
def ago:X:=EA ax8
def aYN:X:=ao ago
abbrev aGz:X:=j7 (.v 1)
abbrev am3:X:=tP ae aGz ae
def aYO:X:=bk (.f 71 (pD aA 2 aj am3 xH)) ago
def aYP:X:=bk ax7 ago
abbrev aGA:X:=r9 (.f 66 Zx) aGy
theorem aYJ:ct aa Tryz.f210.ntmps (aI 5 (loops (aC Tryz.f210))) agn:=aSm (t:=[(268,av WL)]) (lt:=[]) (m:=8) (f:=210) (k:=5) (lp2:=K9) ⟨azn,trivial⟩ trivial aYT (λ_=>rfl) rfl (.tf aYK (.same aYQ ayb (.same aYR ayc (.same aYS aYL .lf))) (.same aYM ayb (.same aYN ayc (.same aYO aYP .lf)))) ⟨(DJ (λE hF=>by
 obtain⟨hF,h2⟩:=hF
 have b1:=hF.b 1 rfl
 have b2:=hF.b 2 rfl
 have h2:0 < Lz.bN (D aA) (N (.v 2)) 0:=h2
 have hL:Lz.fY (D aA) (N (.v 2)) 0=Lz.bN (D aA) (N (.v 2)) 0:=if_pos h2
 have h_0:Lz.fi (D aA) (N (.v 2)) 0=Lz.bN (D aA) (N (.v 2)) 0:=if_pos h2
 have h_1:Lz.fH (D aA) (N (.v 2)) 0=Lz.bD (D aA) (N (.v 2)) 0:=if_pos h2
 have h_2:Lz.fI (D aA) (N (.v 2)) 0=0:=if_pos h2
 have h1:(0:Int) < N (.v 2):=by omega
 have hc:=Lz.X3 (r:=(D aA)) (aP 0) b2.2 h1
 refine⟨?_,?_,?_⟩
 .rw[hL,Int.zero_add] at hc
  refine aD ?_
  show 1+Lz.dd (D aA) (N (.v 2)) (Lz.bN (D aA) (N (.v 2)) 0)=Lz.dd (D aA) (N (.v 2)) 0
  exact hc
 .rw[hL,Int.zero_add] at hc
  refine aD ?_
  show (1+Lz.dd (D aA) (N (.v 2)) (Lz.bN (D aA) (N (.v 2)) 0))*3=(Lz.dd (D aA) (N (.v 2)) 0)*3
  rw[hc]
 .rw[hL,Int.zero_add] at hc
  refine aq (λq hq=>?_) _
  have hq:(q:Int) < (1+Lz.dd (D aA) (N (.v 2)) (Lz.bN (D aA) (N (.v 2)) 0))*3:=hq
  have hu:∀q:Nat,(q:Int) < 3*(0+1)->D aGA q=Lz.gE (D ae) 0 (Lz.fi (D aA) (N (.v 2)) 0) (Lz.fH (D aA) (N (.v 2)) 0) (Lz.fI (D aA) (N (.v 2)) 0) q:=λq hq=>by
   rw[h_0,h_1,h_2]
   unfold Lz.gE
   have p1:¬(q:Int) < 3*0:=by omega
   have n1:N aj=1:=rfl
   rw[cE,cE,n1,adJ,if_neg p1]
   by_cases q2:(q:Int)=3*0
   .have c1:(q:Int) < 1:=by omega
    rw[if_pos c1,if_pos q2]; rfl
   .have c1:¬(q:Int) < 1:=by omega
    rw[if_neg c1,if_neg q2]
    by_cases q3:(q:Int)=3*0+1
    .have c2:((q - Int.toNat 1:Nat):Int) < 1:=by omega
     rw[if_pos c2,if_pos q3]; rfl
    .have c2:¬((q - Int.toNat 1:Nat):Int) < 1:=by omega
     rw[if_neg c2,if_neg q3,ite_self]
  show (Lz.eB (D aA) (N (.v 2)) (Lz.bN (D aA) (N (.v 2)) 0) (D aGA) 1).1 q=(Lz.eB (D aA) (N (.v 2)) 0 (D ae) 0).1 q
  have:=Lz.X5 (aP 0) b2.2 h1 (aP 0) hu q om
  rw[hL,Int.zero_add,Int.zero_add] at this
  exact this) (trivial)),(DJ (λE hF=>by
 obtain⟨hF,h2⟩:=hF
 have b1:=hF.b 1 rfl
 have b2:=hF.b 2 rfl
 have h2:¬0 < Lz.bN (D aA) (N (.v 2)) 0:=by have h2:Lz.bN (D aA) (N (.v 2)) 0<=0:=h2; omega
 have hL:Lz.fY (D aA) (N (.v 2)) 0=1:=if_neg h2
 have h_0:Lz.fi (D aA) (N (.v 2)) 0=0:=if_neg h2
 have h_1:Lz.fH (D aA) (N (.v 2)) 0=0:=if_neg h2
 have h_2:Lz.fI (D aA) (N (.v 2)) 0=(D aA) (0:Int).toNat:=if_neg h2
 have h1:(0:Int) < N (.v 2):=by omega
 have hc:=Lz.X3 (r:=(D aA)) (aP 0) b2.2 h1
 refine⟨?_,?_,?_⟩
 .rw[hL,Int.zero_add] at hc
  refine aD ?_
  show 1+Lz.dd (D aA) (N (.v 2)) 1=Lz.dd (D aA) (N (.v 2)) 0
  exact hc
 .rw[hL,Int.zero_add] at hc
  refine aD ?_
  show (1+Lz.dd (D aA) (N (.v 2)) 1)*3=(Lz.dd (D aA) (N (.v 2)) 0)*3
  rw[hc]
 .rw[hL,Int.zero_add] at hc
  refine aq (λq hq=>?_) _
  have hq:(q:Int) < (1+Lz.dd (D aA) (N (.v 2)) 1)*3:=hq
  have hu:∀q:Nat,(q:Int) < 3*(0+1)->D am3 q=Lz.gE (D ae) 0 (Lz.fi (D aA) (N (.v 2)) 0) (Lz.fH (D aA) (N (.v 2)) 0) (Lz.fI (D aA) (N (.v 2)) 0) q:=λq hq=>by
   rw[h_0,h_1,h_2]
   unfold Lz.gE
   have p1:¬(q:Int) < 3*0:=by omega
   have n1:N aj=1:=rfl
   have n2:N bA=2:=rfl
   have ec:N aGz=(D aA) (0:Int).toNat:=by
    show D (.v 0) (N (.v 1)).toNat=D (.v 0) ((0:Int).toNat+(N (.v 1)).toNat)
    rw[show (0:Int).toNat=0 from rfl,Nat.zero_add]
   rw[cE,cE,n1,n2,if_neg p1]
   by_cases q2:(q:Int)=3*0
   .have c1:(q:Int) < 2:=by omega
    rw[if_pos c1,if_pos q2]; rfl
   .rw[if_neg q2]
    by_cases q3:(q:Int)=3*0+1
    .have c1:(q:Int) < 2:=by omega
     rw[if_pos c1,if_pos q3]; rfl
    .have c1:¬(q:Int) < 2:=by omega
     have c2:((q - Int.toNat 2:Nat):Int) < 1:=by omega
     have q4:(q:Int)=3*0+2:=by omega
     rw[if_neg c1,if_neg q3,if_pos c2,if_pos q4]
     exact ec
  show (Lz.eB (D aA) (N (.v 2)) 1 (D am3) 1).1 q=(Lz.eB (D aA) (N (.v 2)) 0 (D ae) 0).1 q
  have:=Lz.X5 (aP 0) b2.2 h1 (aP 0) hu q om
  rw[hL,Int.zero_add] at this
  exact this) (trivial))⟩ kr
theorem aUg:cA aa ((210,5),aW agn):=dZ Tryz.func210 kr aYJ
def ajU:Sp:=⟨jv am2 BB,[zp],1,[mf],aGw,2,aGx⟩
theorem a6A:ab aa 210 ajU:=aG (t:=[]) (lt:=[((210,5),aW agn)]) (m:=8) trivial ⟨aUg,trivial⟩ .lf kr
theorem a1B:aY aa (210,av ajU):=cf a6A
end
end Go.Proofs.Y
namespace Go.Proofs.Y
open Go Go.Z
section
variable [kv]
def a6a:X:=Mm
def a6b:X:=IJ
abbrev aGB:X:=di a6a a6b
def ajI:X:=.o2 0 bM (.f 56 aGB)
abbrev vj:X:=.f 80 (.c aA oH)
abbrev aGC:Fa:=fj am2 [BB,B3 vj]
def aCt:Sp:=kT aGC [zp] [mf] (xK (.sl 1 0 ae ajI .g) oM) mf (cj 1 ajI (jK (.f 55 aGB) ajI))
abbrev am4:X:=jK (.f 81 (.c aA oH)) vj
def pSq:Sp:={aCt with v:=xK (.sl 1 0 ae vj .g) oM,l':=[mf,cj 1 vj am4]}
abbrev IK:X:=.o2 0 bM (.f 56 (di Mm IJ))
theorem a59:ab aa 132 aCt:=dj (t:=[(210,av ajU),(209,av ai3)]) (lt:=[]) (m:=8) ⟨a1B,a1h,trivial⟩ trivial (.is (.f 54 (qB Mm ae IJ qz)) true (.same (ao IK) (ao vj) (.ge (.o2 1 vj IK) (.ge (.o2 1 IK vj) .lf)))) ⟨λE hF=>(dS (show Lz.np (Lz.eB (D aA) (N (.v 2)) 0 (D ae) 0).1 0 (Lz.dd (D aA) (N (.v 2)) 0) 0 from Lz.a91 _ (λq=>hF.vb 0 0 255 rfl _) (by have:=(hF.b 2 rfl).1; omega) (hF.b 2 rfl).2 _)),⟨λE hF=>aD rfl,⟨λE hF=>(by show 0<=Lz.dk (D aA) (N (.v 2)) - Lz.dk (D aA) (N (.v 2)); omega),⟨λE hF=>(by show 0<=Lz.dk (D aA) (N (.v 2)) - Lz.dk (D aA) (N (.v 2)); omega),df rfl⟩⟩⟩⟩ kr
theorem a6c:ab aa 132 pSq:=aL a59 [((ao IK),(ao vj)),((I3 (.f 55 (di Mm IJ)) IK IK),(bk am4 IK))] _ _ (al (λE hF=>aD rfl)<|al (λE hF=>(aq (λ_ _=>rfl) _))<|aN) kr
theorem a1q:aY aa (132,av pSq):=cf a6c
def aAt:Sp:=kT aGC [zp] [mf] (xK (.sl 1 0 ae (.o2 0 vj bM) .g) oM) mf (cj 1 (.o2 0 vj bM) (cz (.o1 3 vj) (yb vj) (JM 2) (nI 2 aH) am4))
theorem a3p:ab aa 68 aAt:=aG (t:=[(132,av pSq)]) (lt:=[]) (m:=12) ⟨a1q,trivial⟩ trivial .lf kr
end
end Go.Proofs.Y
namespace Go.Proofs.Y
open Go Go.Z
section
open Hz
abbrev am5:X:=.o2 10 bH aH
abbrev RB:X:=.o1 3 am5
abbrev RC:X:=nI 50 aH
abbrev am6:X:=bk Ml bH
abbrev aGD:X:=cz (.o1 3 bH) RB (JM 50) RC am6
abbrev am7:X:=NI aGD (.o2 0 bH bM)
abbrev Ez:X:=kt (kP am7) Tm
abbrev qs:X:=kt Zh amN
abbrev amZ:X:=kP qs
abbrev aGq:X:=bZ j6 aH Ez aU amZ
abbrev aGr:X:=bZ aj aj ae bA (gF my jk aGq)
abbrev aGs:X:=FT (cz nT nU nW jw (r9 (.v 6) aGr))
abbrev Rz(a:Nat)(b:X):X:=.f 1130 (eZ a b)
def aEo:X:=Rz 22 aGs
abbrev aGt:X:=bZ am7 aU (.o1 3 bH) aj (bZ RB aj (JM 50) aj (r9 RC Ml))
def Vy:X:=Bu 6 (sj jk j6 Ez aU qs (tO aEo aGt))
abbrev th:X:=B3 bH
abbrev Zw:V:=z7 (.v 22)
abbrev am0:V:=oI 0 (.v 50) .a
abbrev RA:Bl:=⟨5,qH (.v 50) (.v 71),true,0⟩
abbrev anj:X:=fP 50
abbrev ank:Nat×Bl:=(1,⟨3,[.a [.i64] aj anj],false,0⟩)
abbrev mg:X:=.i 292
abbrev eC:X:=.o2 0 bH mg
def aiC:Sp:=⟨fj [lu,jf,fe,gi,iW,(22,0,255)] [gP,th],[Zw,.agg [eO,dQ,ed,vv 1 aj (.k aj)],am0],2,[(0,RA),ank],xK (.sl 2 0 ae eC .g) oM,3,[(0,RA),ank,cj 2 eC Vy]⟩
abbrev anl:X:=.f 1210 (iE 6 1 2 50 (eZ 71 aEo))
def aBh:Sp:={aiC with v:=aiC.v,l':=[(0,RA),ank,cj 2 eC anl]}
theorem a4s:ab aa 28 aiC:=aG (t:=[(116,au Qb),(69,au aCs),(63,au uW),(64,au wX),(52,au rp),(68,au aAt)]) (lt:=[]) (m:=30) ⟨(aw W5),(aw a56),(aw wV),(aw y6),(aw sY),(aw a3p),trivial⟩ trivial .lf kr
theorem a4t:ab aa 28 aBh:=aL a4s [((bk Vy eC),(bk anl eC))] _ _ (al (λE hF=>(aq (λq _=>by
 have b:=cO hF.vb Vy 0 255 kr q
 have e:D anl q=Lz.az 0 255 (D Vy q):=kr
 rw[e,Lz.a6 b.1 b.2]) _))<|aN) kr
abbrev aGZ:X:=lD (.v 50)
def W1:Sp:={aBh with l:=[(0,RA),(1,⟨3,[.a [.i64] aj aGZ],false,0⟩)]}
theorem aiD:ab aa 28 W1:=Dh a4t [((lD aGZ),(lD anj))] _ (λE hF q hq=>by
 simp only[ep,gn,or_false] at hq
 rcases hq with rfl
 exact aq (λq hq=>by
  have hq:(q:Int) < 1:=hq
  obtain rfl:q=0:=by omega
  show N (.v 50)=N (.v 50)+0
  omega) _) kr
theorem aQw (E:Env) (r s n o:X) (q:Nat):D (.f 1200 (.c r (.c s (.c n (.c o .n))))) q=Lz.az 0 255 (if (q:Int) < N n then D r (q+(N s).toNat) else D o q):=rfl
theorem Au {E:Env} {r s n o:X} (hr:∀q,0<=D r q/\D r q<=255) (ho:∀q,0<=D o q/\D o q<=255) (q:Nat):D (.f 1200 (.c r (.c s (.c n (.c o .n))))) q=if (q:Int) < N n then D r (q+(N s).toNat) else D o q:=by
 rw[aQw]
 split
 .exact Lz.a6 (hr _).1 (hr _).2
 .exact Lz.a6 (ho _).1 (ho _).2
theorem aQx (E:Env) (r s n o:X) (q:Nat):0<=D (.f 1200 (.c r (.c s (.c n (.c o .n))))) q/\D (.f 1200 (.c r (.c s (.c n (.c o .n))))) q<=255:=Lz.cH (lo:=0) (hi:=255) dc _
theorem Kt {E:Env} {r s n o e m m1:X} (hr:∀q,0<=D r q/\D r q<=255) (ho:∀q,0<=D o q/\D o q<=255) (h0:0<=N n) (hs:0<=N s) (he:N e=N s+N n) (h1:N m=N n+1) (h2:N m1=N n+1) (q:Nat):D (.o3 0 (.f 1200 (.c r (.c s (.c n (.c o .n))))) n (.o3 0 (.o2 14 r e) aj (.o2 15 (.f 1200 (.c r (.c s (.c n (.c o .n))))) m))) q=D (.f 1200 (.c r (.c s (.c m1 (.c o .n))))) q:=by
 rw[Au hr ho,cE,cE]
 by_cases c:(q:Int) < N n
 .rw[if_pos c,if_pos om,Au hr ho,if_pos c]
 .rw[if_neg c]
  by_cases c1:((q - (N n).toNat:Nat):Int) < N aj
  .have c1:((q - (N n).toNat:Nat):Int) < 1:=c1
   rw[if_pos (by exact c1),if_pos om]
   show D r (N e).toNat=_
   congr 1
   omega
  .have c2:¬((q - (N n).toNat:Nat):Int) < 1:=c1
   rw[if_neg c1,if_neg om]
   show D (.f 1200 (.c r (.c s (.c n (.c o .n))))) (q - (N n).toNat - (N aj).toNat+(N m).toNat)=_
   rw[Au hr ho,if_neg (by have e:N aj=1:=rfl; rw[e]; omega)]
   congr 1
   have e:N aj=1:=rfl
   rw[e]
   omega
theorem UI {E:Env} {r s n o r' s' z:X} (hr:∀q,0<=D r' q/\D r' q<=255) (hz:N z=0) (q:Nat):D (.f 1200 (.c r' (.c s' (.c z (.c (.f 1200 (.c r (.c s (.c n (.c o .n))))) .n))))) q=D (.f 1200 (.c r (.c s (.c n (.c o .n))))) q:=by
 rw[Au hr (λq=>aQx E _ _ _ _ q),if_neg om]
abbrev rK:Nat×Int×Int:=(63,0,255)
abbrev aG0:VB:=[(130,0,255),(131,0,1048576),(132,0,4095),(142,0,188420),rK,(140,1,5),(143,0,16),(144,0,16)]
abbrev RO:X:=nE 132
abbrev aG1:X:=fZ 130 (kI 131 132)
abbrev BE:ai:=fQ 143
abbrev xx:ai:=fQ 144
abbrev BF:ai:=fQ 142
abbrev vk:X:=qv 63
abbrev anm:X:=.f 1200 (zF 130 131 132 vk)
abbrev xy(a:List ai)(b c:P1):V:=.dK [.agg a,b,c]
abbrev aG2:V:=xy [ag,fE] aay oM
abbrev aG3:X:=FJ anm (.v 132) aG1 anm RO
def ahO:Sp:=pB (jv aG0 (fJ (cJ 142 RO))) [bS,xJ aG1] (0,⟨185,[BE,xx,zk,fQ 132,BF,.a [.u8] dW anm,bC],false,0⟩) aG2 [(0,⟨185,[BE,xx,zk,aF RO,BF,.a [.u8] dW aG3,bC],false,0⟩)]
abbrev aG4:X:=.f 1200 (tD 130 131 RO vk)
def wU:Sp:={ahO with v:=ahO.v,l':=[(0,⟨185,[BE,xx,zk,aF RO,BF,.a [.u8] dW aG4,bC],false,0⟩)]}
theorem a2m:ab aa 47 ahO:=aG (t:=[]) (lt:=[]) (m:=30) trivial trivial .lf kr
theorem yZ:ab aa 47 wU:=aL a2m [((pC aG3),(pC aG4))] _ _ (al (λE hF=>(aq (λq _=>Kt (show ∀q,0<=D (.v 130) q/\D (.v 130) q<=255 from hF.vb 130 _ _ rfl) (show ∀q,0<=D (.v 63) q/\D (.v 63) q<=255 from hF.vb 63 _ _ rfl) (hF.b 132 rfl).1 (hF.b 131 rfl).1 rfl rfl rfl q) _))<|aN) kr
theorem aQy {E:Env} {r s o m m1:X} (hr:∀q,0<=D r q/\D r q<=255) (ho:∀q,0<=D o q/\D o q<=255) (hm:N m=1) (h1:N m1=1) (q:Nat):D (.o3 0 (.o2 14 r s) aj (.o2 15 o m)) q=D (.f 1200 (.c r (.c s (.c m1 (.c o .n))))) q:=by
 rw[Au hr ho,cE,h1]
 by_cases c:(q:Int) < N aj
 .have c':(q:Int) < 1:=c
  obtain rfl:q=0:=by omega
  rw[if_pos c,if_pos om,Nat.zero_add]
  rfl
 .have c':¬(q:Int) < 1:=c
  rw[if_neg c,if_neg om]
  show D o (q - 1+(N m).toNat)=_
  congr 1
  omega
abbrev aG5:X:=fZ 130 (.v 131)
abbrev aG6:X:=r9 aG5 (eN 63 aj)
def ahR:Sp:=pB (jv aG0 (cJ 142 bA)) [bS,xJ aG5] (0,⟨185,[BE,xx,zk,ag,BF,.a [.u8] dW (.v 63),bC],false,0⟩) aG2 [(0,⟨185,[BE,xx,zk,aE,BF,.a [.u8] dW aG6,bC],false,0⟩)]
abbrev aG7:X:=.f 1200 (tD 130 131 aj vk)
def PM:Sp:={ahR with v:=ahR.v,l':=[(0,⟨185,[BE,xx,zk,aE,BF,.a [.u8] dW aG7,bC],false,0⟩)]}
theorem a2r:ab aa 47 ahR:=aG (t:=[]) (lt:=[]) (m:=30) trivial trivial .lf kr
theorem WM:ab aa 47 PM:=aL a2r [((pC aG6),(pC aG7))] _ _ (al (λE hF=>(aq (λq _=>aQy (show ∀q,0<=D (.v 130) q/\D (.v 130) q<=255 from hF.vb 130 _ _ rfl) (show ∀q,0<=D (.v 63) q/\D (.v 63) q<=255 from hF.vb 63 _ _ rfl) rfl rfl q) _))<|aN) kr
theorem aev {E:Env} {r s n o e z:X} (hr:∀q,0<=D r q/\D r q<=255) (ho:∀q,0<=D o q/\D o q<=255) (h0:0<=N n) (hs:0<=N s) (he:N e=N s+N n) (q:Nat) (hq:(q:Int) < N n+1):D (.o3 0 (.f 1200 (.c r (.c s (.c n (.c o .n))))) n (.o3 0 (.o2 14 r e) aj z)) q=D r (q+(N s).toNat):=by
 rw[cE,cE]
 by_cases c:(q:Int) < N n
 .rw[if_pos c,Au hr ho,if_pos c]
 .rw[if_neg c,if_pos (by have e:N aj=1:=rfl; rw[e]; omega)]
  show D r (N e).toNat=_
  congr 1
  omega
theorem aQz {E:Env} {r s n n' o e:X} (hr:∀q,0<=D r q/\D r q<=255) (ho:∀q,0<=D o q/\D o q<=255) (h0:0<=N n) (hs:0<=N s) (he:N e=N s+N n) (hn:N n'=N n) (q:Nat) (hq:(q:Int) < N n+1):D (.o3 0 (.f 1200 (.c r (.c s (.c n (.c o .n))))) n' (.o2 14 r e)) q=D r (q+(N s).toNat):=by
 rw[cE,hn]
 by_cases c:(q:Int) < N n
 .rw[if_pos c,Au hr ho,if_pos c]
 .rw[if_neg c]
  show D r (N e).toNat=_
  congr 1
  omega
def bJ:X:=Bu 6 (sj jk j6 Ez aU qs (tO (.v 8) aGt))
abbrev gv:X:=.f 1210 (iE 6 1 2 50 (cy 71 IX))
theorem q6 {E:Env} (hb:∀q,0<=D bJ q/\D bJ q<=255) (q:Nat):D gv q=D bJ q:=by
 have e:D gv q=Lz.az 0 255 (D bJ q):=kr
 rw[e,Lz.a6 (hb q).1 (hb q).2]
theorem G3 {E:Env} (q:Nat):0<=D gv q/\D gv q<=255:=bI.ok 1210 _ q 0 255 rfl
abbrev ZF:X:=lD aj
abbrev ZG:X:=cz nT nU nW jw (r9 (.v 6) ZF)
theorem G4 {E:Env} (q:Nat) (hq:(q:Int) < 8):D bJ q=D ZG q:=by
 obtain rfl | rfl | rfl | rfl | rfl | rfl | rfl | rfl:q=0\/q=1\/q=2\/q=3\/q=4\/q=5\/q=6\/q=7:=by omega
 all_goals kernel_rfl
abbrev aG8:VB:=[lu,jf,fe,gi,iW,jg,rK]
abbrev RJ:Bl:=oC aH ZG
def aik:Sp:=pB (cI aG8) aOK (0,RJ) (mj [aF acO,aE]) [(0,RJ)]
theorem aAK:ab aa 160 aik:=aG (t:=[]) (lt:=[]) (m:=30) trivial trivial .lf kr
abbrev ti(a b:X):X:=.f 1200 (qB gv a b vk)
abbrev RK:X:=ti ae jh
abbrev EB(a:X):X:=.o2 14 gv a
abbrev ZD:X:=EB jh
def aAL:Sp:={aik with l:=[cj 0 aH (.o3 0 RK jh ZD)]}
abbrev Mn:X:=ck ZG
theorem a3H:ab aa 160 aAL:=Dh aAK [((ck (.o3 0 RK jh ZD)),Mn)] _ (λE hF q hq=>by
 simp only[ep,gn,or_false] at hq
 rcases hq with rfl
 exact aq (λq hq=>by
  have hq:(q:Int) < 8:=hq
  rw[cE]
  have e1:=q6 (E:=E) (λq=>cO hF.vb bJ 0 255 kr q) q
  by_cases c:(q:Int) < N jh
  .rw[if_pos c,Au (λq=>G3 q) (show ∀q,0<=D (.v 63) q/\D (.v 63) q<=255 from hF.vb 63 _ _ rfl),if_pos c,show q+(N ae).toNat=q from rfl,e1,G4 q hq]
  .rw[if_neg c]
   have c:¬(q:Int) < 7:=c
   obtain rfl:q=7:=by omega
   show D gv 7=_
   rw[e1,G4 7 hq]) _) kr
abbrev ane:ai:=aF aH
abbrev aGR:V:=xy [aE,dM 1 aH] vw oM
abbrev RL:ai:=aF nZ
abbrev aGS:X:=FJ RK jh ZD RK aH
def azQ:Sp:=kT (cI [lu,jf,fe,gi,iW,jg,rK,(143,0,16),(144,0,16)]) [bS,xJ ZD] [(0,⟨185,[BE,xx,aE,amU,ane,.a [.u8] dW RK,bC],false,0⟩)] aGR (0,⟨185,[aE,xx,cW,ag,RL,.a [.u8] dW aGS,bC],false,0⟩) (1,RJ)
abbrev anf:X:=.f 1200 (tC gv aH (ti ae aH) .n)
abbrev ang:Bl:=oC aH gv
def azP:Sp:={azQ with v:=aGR,l':=[(0,⟨185,[aE,xx,cW,ag,RL,.a [.u8] dW anf,bC],false,0⟩),(1,ang)]}
theorem a2j:ab aa 47 azQ:=aG (t:=[(160,au aAL)]) (lt:=[]) (m:=30) ⟨(aw a3H),trivial⟩ trivial .lf kr
abbrev RM:X:=ck gv
theorem a2k:ab aa 47 azP:=aL a2j [((pC aGS),(pC anf)),(Mn,RM)] _ _ (al (λE hF=>(aq (λq _=>(Kt (λq=>G3 q) (show ∀q,0<=D (.v 63) q/\D (.v 63) q<=255 from hF.vb 63 _ _ rfl) (show (0:Int)<=N jh from show (0:Int)<=7 by decide) (show (0:Int)<=N ae from aP 0) rfl rfl rfl q).trans (UI (λq=>G3 q) rfl q).symm) _))<|al (λE hF=>(aq (λq hq=>by rw[q6 (λq=>cO hF.vb bJ 0 255 kr q) q,G4 q hq]) _))<|aN) kr
abbrev aGT:Fa:=cI [(130,0,255),rK]
abbrev aGU:X:=fZ 130 (.i 223)
abbrev Mo:X:=.i 215
abbrev EC(a:Nat)(b c:X):X:=.f 1200 (bL a b c)
abbrev anh:X:=EC 130 aH (.c Mo vk)
abbrev nv(a b c:ai)(d:X):Bl:=⟨185,[aE,ag,a,b,c,.a [.u8] dW d,bC],false,0⟩
abbrev aGV:V:=xy [cW,dM 1 nZ] vw oM
abbrev RN:ai:=aF aU
abbrev ZE:X:=FJ anh Mo aGU anh nZ
def azR:Sp:=kT aGT [bS,xJ aGU] [(0,nv cW (aF Mo) RL anh)] aGV (0,nv a9 ag RN ZE) (cj 1 nZ ZE)
abbrev aGW:X:=EC 130 ff (di ae (EC 130 aH (.c nZ vk)))
def ahN:Sp:={azR with v:=aGV,l':=[(0,nv a9 ag RN aGW),cj 1 nZ (eN 130 aH)]}
theorem a2l:ab aa 47 azR:=aG (t:=[]) (lt:=[]) (m:=30) trivial trivial .lf kr
theorem azS:ab aa 47 ahN:=aL a2l [((pC ZE),(pC aGW)),((bk ZE nZ),(bk (eN 130 aH) nZ))] _ _ (al (λE hF=>(aq (λq _=>(Kt (show ∀q,0<=D (.v 130) q/\D (.v 130) q<=255 from hF.vb 130 _ _ rfl) (show ∀q,0<=D (.v 63) q/\D (.v 63) q<=255 from hF.vb 63 _ _ rfl) (show (0:Int)<=N Mo from show (0:Int)<=215 by decide) (show (0:Int)<=N aH from show (0:Int)<=8 by decide) rfl rfl rfl q).trans (UI (show ∀q,0<=D (.v 130) q/\D (.v 130) q<=255 from hF.vb 130 _ _ rfl) rfl q).symm) _))<|al (λE hF=>(aq (λq hq=>by exact aev (r:=(.v 130)) (s:=aH) (n:=Mo) (o:=(.v 63)) (e:=(.i 223)) (show ∀q,0<=D (.v 130) q/\D (.v 130) q<=255 from hF.vb 130 _ _ rfl) (show ∀q,0<=D (.v 63) q/\D (.v 63) q<=255 from hF.vb 63 _ _ rfl) (show (0:Int)<=N Mo from show (0:Int)<=215 by decide) (show (0:Int)<=N aH from show (0:Int)<=8 by decide) rfl q (by exact hq)) _))<|aN) kr
abbrev aGX:X:=fZ 130 (.i 287)
abbrev ani:X:=EC 130 ff (.c BZ vk)
abbrev aGY:V:=xy [a9,dM 1 aU] vw oM
abbrev ZB:X:=FJ ani BZ aGX ani aU
def azX:Sp:=kT aGT [bS,xJ aGX] [(0,nv a9 (aF BZ) RN ani)] aGY (0,nv kM ag kM ZB) (cj 1 aU ZB)
abbrev aGP:X:=EC 130 nu (di ae (EC 130 ff (.c aU vk)))
def ahQ:Sp:={azX with v:=aGY,l':=[(0,nv kM ag kM aGP),cj 1 aU (eN 130 ff)]}
theorem a2q:ab aa 47 azX:=aG (t:=[]) (lt:=[]) (m:=30) trivial trivial .lf kr
theorem azY:ab aa 47 ahQ:=aL a2q [((pC ZB),(pC aGP)),((kP ZB),(kP (eN 130 ff)))] _ _ (al (λE hF=>(aq (λq _=>(Kt (show ∀q,0<=D (.v 130) q/\D (.v 130) q<=255 from hF.vb 130 _ _ rfl) (show ∀q,0<=D (.v 63) q/\D (.v 63) q<=255 from hF.vb 63 _ _ rfl) (show (0:Int)<=N BZ from show (0:Int)<=63 by decide) (show (0:Int)<=N ff from show (0:Int)<=224 by decide) rfl rfl rfl q).trans (UI (show ∀q,0<=D (.v 130) q/\D (.v 130) q<=255 from hF.vb 130 _ _ rfl) rfl q).symm) _))<|al (λE hF=>(aq (λq hq=>by exact aev (r:=(.v 130)) (s:=ff) (n:=BZ) (o:=(.v 63)) (e:=(.i 287)) (show ∀q,0<=D (.v 130) q/\D (.v 130) q<=255 from hF.vb 130 _ _ rfl) (show ∀q,0<=D (.v 63) q/\D (.v 63) q<=255 from hF.vb 63 _ _ rfl) (show (0:Int)<=N BZ from show (0:Int)<=63 by decide) (show (0:Int)<=N ff from show (0:Int)<=224 by decide) rfl q (by exact hq)) _))<|aN) kr
theorem O6 {E:Env} (hb:∀q,0<=D bJ q/\D bJ q<=255):D gv 288=N bH % 256/\D gv 289=N RB/\D gv 290=N (.v 50) % 256/\D gv 291=N RC:=
 ⟨(q6 hb 288).trans kr,(q6 hb 289).trans kr,(q6 hb 290).trans kr,(q6 hb 291).trans kr⟩
abbrev zq:X:=ti nu cq
theorem aeu {E:Env} (h63:∀q,0<=D (.v 63) q/\D (.v 63) q<=255) (q:Nat) (hq:q < 3):D zq q=D gv (q+288):=by
 rw[Au (λq=>G3 q) h63,if_pos (show (q:Int) < N cq from by have e:N cq=3:=rfl; omega)]
 rfl
abbrev RH:X:=sc (pM zq) (TI zq)
theorem akT {E:Env} (hb:∀q,0<=D bJ q/\D bJ q<=255) (h63:∀q,0<=D (.v 63) q/\D (.v 63) q<=255) (h:N bH<=4096):N RH=N bH:=by
 have b:4<=N bH:=(bI.ok 80 _ 0 4 188420 rfl).1
 have e:=O6 hb
 have e1:N RB=N bH / 256 % 256:=by
  have e2:N am5=N bH / 256:=@uk _ E bH 8 om
  rw[yq,e2]
 refine (pj (k:=8) (m:=256) (a:=N bH % 256) (b:=N bH / 256 % 256) rfl ?_ ?_ om om om).trans om
 .show D zq 0=_
  rw[aeu h63 0 dc,e.1]
 .show D zq 1=_
  rw[aeu h63 1 dc,e.2.1,e1]
abbrev IL:X:=.i 291
abbrev RI:X:=EB IL
abbrev anb:X:=sc (.o2 14 zq bA) RI
theorem aEH {E:Env} (hb:∀q,0<=D bJ q/\D bJ q<=255) (h63:∀q,0<=D (.v 63) q/\D (.v 63) q<=255) (h0:0<=N (.v 50)) (h:N (.v 50)<=8192):N anb=N (.v 50):=by
 have e:=O6 hb
 have e1:N RC=N (.v 50) / 256:=@uk _ E (.v 50) 8 h0
 refine (pj (k:=8) (m:=256) (a:=N (.v 50) % 256) (b:=N (.v 50) / 256) rfl ?_ ?_ om om om).trans om
 .show D zq 2=_
  rw[aeu h63 2 dc,e.2.2.1]
 .show D gv 291=_
  rw[e.2.2.2,e1]
abbrev aGQ:V:=xy [kM,aJm] vw oM
abbrev ZC:X:=FJ zq cq RI zq bM
def azW:Sp:=kT (jv aG8 th) [bS,xJ RI] [(0,nv kM a9 kM zq)] aGQ (0,nv lz ag (aF RH) ZC) (cj 1 bM ZC)
abbrev anc:ai:=aF bH
abbrev aHp:X:=.f 1200 (tC gv mg (ti nu bM) .n)
abbrev aHq:Bl:=nv lz ag anc aHp
abbrev ant:X:=.o2 15 gv nu
abbrev qt:ai:=.a [.u8] bM ant
def azV:Sp:={azW with v:=aGQ,l':=[(0,aHq),(1,⟨5,[qt],false,1⟩)]}
theorem a2o:ab aa 47 azW:=dj (t:=[]) (lt:=[]) (m:=30) trivial trivial (.ge (.o2 1 RH bH) (.ge (.o2 1 bH RH) (.ge (bz anb 50) (.ge (cJ 50 anb) .lf)))) ⟨λE hF=>(dP (akT (λq=>cO hF.vb bJ 0 255 kr q) (show ∀q,0<=D (.v 63) q/\D (.v 63) q<=255 from hF.vb 63 _ _ rfl) (by have h:=hF.g (x:=.o2 1 dW bH) mh; have h:(0:Int)<=4096 - N bH:=h; omega))),⟨λE hF=>(dR (akT (λq=>cO hF.vb bJ 0 255 kr q) (show ∀q,0<=D (.v 63) q/\D (.v 63) q<=255 from hF.vb 63 _ _ rfl) (by have h:=hF.g (x:=.o2 1 dW bH) mh; have h:(0:Int)<=4096 - N bH:=h; omega))),⟨λE hF=>(dP (aEH (λq=>cO hF.vb bJ 0 255 kr q) (show ∀q,0<=D (.v 63) q/\D (.v 63) q<=255 from hF.vb 63 _ _ rfl) (by have:=(hF.b 50 rfl); omega) (by have:=(hF.b 50 rfl); omega))),⟨λE hF=>(dR (aEH (λq=>cO hF.vb bJ 0 255 kr q) (show ∀q,0<=D (.v 63) q/\D (.v 63) q<=255 from hF.vb 63 _ _ rfl) (by have:=(hF.b 50 rfl); omega) (by have:=(hF.b 50 rfl); omega))),df rfl⟩⟩⟩⟩ kr
theorem a2p:ab aa 47 azV:=aL a2o [((ao RH),(ao bH)),((pC ZC),(pC aHp)),((bk ZC bM),(bk ant bM))] _ _ (al (λE hF=>(aD (akT (λq=>cO hF.vb bJ 0 255 kr q) (show ∀q,0<=D (.v 63) q/\D (.v 63) q<=255 from hF.vb 63 _ _ rfl) (by have h:=hF.g (x:=.o2 1 dW bH) mh; have h:(0:Int)<=4096 - N bH:=h; omega))))<|al (λE hF=>(aq (λq _=>(Kt (λq=>G3 q) (show ∀q,0<=D (.v 63) q/\D (.v 63) q<=255 from hF.vb 63 _ _ rfl) (show (0:Int)<=N cq from show (0:Int)<=3 by decide) (show (0:Int)<=N nu from show (0:Int)<=288 by decide) rfl rfl rfl q).trans (UI (λq=>G3 q) rfl q).symm) _))<|al (λE hF=>(aq (λq hq=>by exact aev (r:=gv) (s:=nu) (n:=cq) (o:=(.v 63)) (e:=IL) (λq=>G3 q) (show ∀q,0<=D (.v 63) q/\D (.v 63) q<=255 from hF.vb 63 _ _ rfl) (show (0:Int)<=N cq from show (0:Int)<=3 by decide) (show (0:Int)<=N nu from show (0:Int)<=288 by decide) rfl q (by exact hq)) _))<|aN) kr
abbrev anu:X:=fZ 130 (bQ 142 IL)
abbrev anv:X:=IQ 142
abbrev ZO:X:=EC 130 mg (.c anv vk)
abbrev aHr:V:=xy [lz,dM 1 (.v 142)] vw oM
abbrev aHs:X:=FJ ZO (BS 142) anu ZO (.v 142)
abbrev aHt:X:=.o3 0 ZO (BS 142) anu
def azT:Sp:=kT (jv [(130,0,255),rK,(142,1,188420)] (bz dW 142)) [bS,xJ anu] [(0,nv lz (aF anv) BF ZO)] aHr (0,⟨185,[aE,aE,ag,ag,ag,.a [.u8] dW aHs,bC],false,0⟩) (oD 1 142 aHt)
abbrev aHu:X:=EC 130 mg (cy 142 vk)
def ahP:Sp:={azT with v:=aHr,l':=[(0,⟨185,[aE,aE,ag,ag,ag,.a [.u8] dW aHu,bC],false,0⟩),oD 1 142 (eN 130 mg)]}
theorem a2n:ab aa 47 azT:=aG (t:=[]) (lt:=[]) (m:=30) trivial trivial .lf kr
theorem azU:ab aa 47 ahP:=aL a2n [((pC aHs),(pC aHu)),((iU aHt 142),(iU (eN 130 mg) 142))] _ _ (al (λE hF=>(aq (λq _=>Kt (show ∀q,0<=D (.v 130) q/\D (.v 130) q<=255 from hF.vb 130 _ _ rfl) (show ∀q,0<=D (.v 63) q/\D (.v 63) q<=255 from hF.vb 63 _ _ rfl) (by have h:=(hF.b 142 rfl); show (0:Int)<=N (.v 142) - 1; omega) (show (0:Int)<=N mg from show (0:Int)<=292 by decide) (by show N (.v 142)+291=292+(N (.v 142) - 1); omega) (by show N (.v 142)=N (.v 142) - 1+1; omega) (by show N (.v 142)=N (.v 142) - 1+1; omega) q) _))<|al (λE hF=>(aq (λq hq=>by exact aQz (r:=(.v 130)) (s:=mg) (n:=anv) (o:=(.v 63)) (e:=(bQ 142 IL)) (show ∀q,0<=D (.v 130) q/\D (.v 130) q<=255 from hF.vb 130 _ _ rfl) (show ∀q,0<=D (.v 63) q/\D (.v 63) q<=255 from hF.vb 63 _ _ rfl) (by have h:=(hF.b 142 rfl); show (0:Int)<=N (.v 142) - 1; omega) (show (0:Int)<=N mg from show (0:Int)<=292 by decide) (by show N (.v 142)+291=292+(N (.v 142) - 1); omega) (by show N (.v 142)+-1=N (.v 142) - 1; omega) q (by have hq:(q:Int) < N (.v 142):=hq; show (q:Int) < N (.v 142) - 1+1; omega)) _))<|aN) kr
theorem cC {E:Env} {a n b:X} (k:Nat) (hn:N n=k) (q:Nat):D (.o3 0 a n b) (q+k)=D b q:=by
 rw[cE,if_neg om]
 congr 1
 omega
theorem ij {E:Env} {a n b b':X} {m k:Nat} (hn:N n=k) (h:∀q,q < m->D b q=D b' q) (q:Nat) (hq:q < k+m):D (.o3 0 a n b) q=D (.o3 0 a n b') q:=by
 rw[cE,cE]
 by_cases c:(q:Int) < N n
 .rw[if_pos c,if_pos c]
 .rw[if_neg c,if_neg c]
  exact h _ om
theorem UO {E:Env} {a n b:X} {k:Nat} (hn:N n=k) (q:Nat) (hq:q < k):D (.o3 0 a n b) q=D a q:=by
 rw[cE,if_pos om]
abbrev ZP:X:=tO qs (.v 8)
abbrev aHv:X:=sj my jk j6 aH Ez ZP
abbrev aHw:X:=cz nT nU nW jw (bZ (.v 6) aj aj aj (.o3 0 ae bA aHv))
def Pc:X:=aHw
def Wk:X:=aHv
def AA:X:=Ez
def UX:X:=am7
theorem O5 {E:Env} (hb:∀q,0<=D bJ q/\D bJ q<=255) (q:Nat) (hq:q < 224):D gv q=D Pc q:=(q6 hb q).trans ((ij (k:=1) (m:=223) rfl (ij (k:=1) (m:=222) rfl (ij (k:=1) (m:=221) rfl (ij (k:=1) (m:=220) rfl (ij (k:=1) (m:=219) rfl (ij (k:=1) (m:=218) rfl (ij (k:=2) (m:=216) rfl (ij (k:=8) (m:=208) rfl (ij (k:=8) (m:=200) rfl (ij (k:=8) (m:=192) rfl (ij (k:=64) (m:=128) rfl (ij (k:=64) (m:=64) rfl (λq hq=>UO (k:=64) rfl q hq))))))))))))) q hq)
abbrev ZQ:X:=.o2 15 gv aH
theorem au1 {E:Env} (hb:∀q,0<=D bJ q/\D bJ q<=255) (q:Nat) (hq:q < 216):D ZQ q=D Wk q:=(q6 hb (q+8)).trans ((cC 1 rfl (q+7)).trans ((cC 1 rfl (q+6)).trans ((cC 1 rfl (q+5)).trans ((cC 1 rfl (q+4)).trans ((cC 1 rfl (q+3)).trans ((cC 1 rfl (q+2)).trans ((cC 2 rfl q).trans ((ij (k:=8) (m:=208) rfl (ij (k:=8) (m:=200) rfl (ij (k:=8) (m:=192) rfl (ij (k:=64) (m:=128) rfl (ij (k:=64) (m:=64) rfl (λq hq=>UO (k:=64) rfl q hq)))))) q hq))))))))
abbrev RR:X:=.o2 15 gv ff
theorem Vz {E:Env} (hb:∀q,0<=D bJ q/\D bJ q<=255) (q:Nat) (hq:q < 64):D RR q=D UX q:=(q6 hb (q+224)).trans ((cC 1 rfl (q+223)).trans ((cC 1 rfl (q+222)).trans ((cC 1 rfl (q+221)).trans ((cC 1 rfl (q+220)).trans ((cC 1 rfl (q+219)).trans ((cC 1 rfl (q+218)).trans ((cC 2 rfl (q+216)).trans ((cC 8 rfl (q+208)).trans ((cC 8 rfl (q+200)).trans ((cC 8 rfl (q+192)).trans ((cC 64 rfl (q+128)).trans ((cC 64 rfl (q+64)).trans ((cC 64 rfl q).trans (UO (k:=64) rfl q hq))))))))))))))
abbrev ZR:X:=.o2 15 gv mg
theorem au0 {E:Env} (hb:∀q,0<=D bJ q/\D bJ q<=255) (q:Nat):D ZR q=D Ml q:=(q6 hb (q+292)).trans ((cC 1 rfl (q+291)).trans ((cC 1 rfl (q+290)).trans ((cC 1 rfl (q+289)).trans ((cC 1 rfl (q+288)).trans ((cC 1 rfl (q+287)).trans ((cC 1 rfl (q+286)).trans ((cC 2 rfl (q+284)).trans ((cC 8 rfl (q+276)).trans ((cC 8 rfl (q+268)).trans ((cC 8 rfl (q+260)).trans ((cC 64 rfl (q+196)).trans ((cC 64 rfl (q+132)).trans ((cC 64 rfl (q+68)).trans ((cC 64 rfl (q+4)).trans ((cC 1 rfl (q+3)).trans ((cC 1 rfl (q+2)).trans ((cC 1 rfl (q+1)).trans (cC 1 rfl q))))))))))))))))))
theorem au2 {E:Env} (hb:∀q,0<=D bJ q/\D bJ q<=255) (t:X) (q:Nat):D (.o3 0 nT aj (.o3 0 nU aj (.o3 0 nW aj (.o3 0 jw aj (.o3 0 (.v 6) aj (.o3 0 aj aj (.o3 0 ae bA (.o3 0 my aH (.o3 0 jk aH (.o3 0 j6 aH (.o3 0 Ez aU (.o3 0 qs aU (.o3 0 (.v 8) aU t))))))))))))) q=D (.o3 0 gv ff t) q:=by
 rw[@cE _ E gv]
 by_cases c:(q:Int) < N ff
 .have c':q < 224:=by have c:(q:Int) < 224:=c; omega
  rw[if_pos c,O5 hb q c']
  exact (ij (k:=1) (m:=223) rfl (ij (k:=1) (m:=222) rfl (ij (k:=1) (m:=221) rfl (ij (k:=1) (m:=220) rfl (ij (k:=1) (m:=219) rfl (ij (k:=1) (m:=218) rfl (ij (k:=2) (m:=216) rfl (ij (k:=8) (m:=208) rfl (ij (k:=8) (m:=200) rfl (ij (k:=8) (m:=192) rfl (ij (k:=64) (m:=128) rfl (ij (k:=64) (m:=64) rfl (λq hq=>UO (k:=64) rfl q hq))))))))))))) q c'
 .have c':¬(q:Int) < 224:=c
  rw[if_neg c]
  obtain⟨p,rfl⟩:∃p,q=p+224:=⟨q - 224,by omega⟩
  rw[show p+224 - (N ff).toNat=p from by show p+224 - 224=p; omega]
  exact ((cC 1 rfl (p+223)).trans ((cC 1 rfl (p+222)).trans ((cC 1 rfl (p+221)).trans ((cC 1 rfl (p+220)).trans ((cC 1 rfl (p+219)).trans ((cC 1 rfl (p+218)).trans ((cC 2 rfl (p+216)).trans ((cC 8 rfl (p+208)).trans ((cC 8 rfl (p+200)).trans ((cC 8 rfl (p+192)).trans ((cC 64 rfl (p+128)).trans ((cC 64 rfl (p+64)).trans (cC 64 rfl p)))))))))))))
abbrev anw:VB:=[lu,jf,fe,gi,iW,jg,nY,ku,iG,jN,iH,(101,0,1),(102,0,5),(113,0,1048576),(120,-1,1),tS,tT,TD,tU]
abbrev anx:X×Bool:=(.f 1132 (dG acX (FT (Bu 6 (gF jk j6 (tO AA amZ)))) IX),true)
abbrev aHx:Fa:=dT anw [gP,ye,arH,kV] [Cx,anx,vW]
abbrev RS:Nat×Bl:=cj 8 nZ Wk
abbrev aHy:List (Nat×Bl):=[cQ,cP [cY,fK,bg,gh,a9,qE Mn,ag,ag,eY,eY,ag,ft,ft,ft,ns,iq,ag,ag,fc,ag,cK,cK],vY,v9,kW,kX,eP,RS]
abbrev ZS:ai:=qE Pc
abbrev nw:ai:=oO AA
abbrev ju:ai:=oO qs
abbrev aHz:X:=bZ (.v 80) cD nT aj (cz nU nW jw (.v 6) (bZ aj aj ae bA (sj my jk j6 aH AA (tO qs aPd))))
def ait:Sp:=⟨aHx,ade,11,aHy,eJ,11,[cQ,cP [cY,fK,bg,gh,a9,ZS,eO,aE,dQ,ed,a8,nw,ju,fS,ns,iq,ag,ag,fc,ag,cK,cK],vY,v9,ac7,m5 aHz,eP,RS]⟩
abbrev iT:ai:=qE gv
abbrev aHe:X:=oY 80 cD gv ff aPc
abbrev aHf:Nat×Bl:=m5 aHe
abbrev aHg:List (Nat×Bl):=[cQ,cP [cY,fK,bg,gh,a9,iT,eO,aE,dQ,ed,a8,nw,ju,fS,ns,iq,ag,ag,fc,ag,cK,cK],vY,v9,ac7,aHf,eP,RS]
def aA4:Sp:={ait with v:=ait.v,l':=aHg}
theorem a4a:ab aa 98 ait:=aG (t:=[(98,au aA3)]) (lt:=[]) (m:=30) ⟨(aw a39),trivial⟩ trivial .lf kr
abbrev ED:X:=vi gv
theorem a4b:ab aa 98 aA4:=aL a4a [((vi Pc),ED),((m4 aHz),(m4 aHe))] _ _ (al (λE hF=>(aq (λq hq=>(O5 (λq=>cO hF.vb bJ 0 255 kr q) q (by have hq:(q:Int) < 224:=hq; omega)).symm) _))<|al (λE hF=>(aq (λq _=>Dg (λ_ _=>rfl) (λq=>au2 (λq=>cO hF.vb bJ 0 255 kr q) _ q) q) _))<|aN) kr
abbrev ann:ai:=qE RM
abbrev aHh:Nat×Bl:=cP [cY,fK,bg,gh,a9,ann,ag,ag,eY,eY,ag,ft,ft,ft,ns,iq,ag,ag,fc,ag,cK,cK]
abbrev ZL:List (Nat×Bl):=[cQ,aHh,vY,v9,kW,kX,eP,cj 8 nZ ZQ]
def aA5:Sp:={aA4 with l:=ZL}
abbrev ano:X:=vi RM
theorem a4c:ab aa 98 aA5:=Dh a4b [(ano,(vi Mn)),((bk ZQ nZ),(bk Wk nZ))] _ (λE hF q hq=>by
 simp only[ep,gn,or_false] at hq
 rcases hq with rfl | rfl
 .exact aq (λq _=>by
   rw[cE,cE]
   by_cases c:(q:Int) < N aH
   .rw[if_pos c,if_pos c,q6 (λq=>cO hF.vb bJ 0 255 kr q) q,G4 q c]
   .rw[if_neg c,if_neg c]) _
 .exact aq (λq hq=>by exact au1 (λq=>cO hF.vb bJ 0 255 kr q) q (by have hq:(q:Int) < 216:=hq; omega)) _) kr
abbrev aHi:Fa:=dT anw [gP,ye,arF] [Cx,anx]
def ais:Sp:=⟨aHi,ade,11,aHy,TM,11,[cQ,cP [cY,fK,bg,gh,a9,ZS,ag,ag,eY,eY,ag,ft,ft,ft,ns,iq,ag,ag,fc,ag,cK,cK],vY,v9,kW,kX,eP,RS]⟩
abbrev aHj:List (Nat×Bl):=[cQ,cP [cY,fK,bg,gh,a9,iT,ag,ag,eY,eY,ag,ft,ft,ft,ns,iq,ag,ag,fc,ag,cK,cK],vY,v9,kW,kX,eP,RS]
def aA1:Sp:={ais with v:=ais.v,l':=aHj}
theorem a36:ab aa 98 ais:=aG (t:=[(98,au aA0)]) (lt:=[]) (m:=30) ⟨(aw a35),trivial⟩ trivial .lf kr
theorem a37:ab aa 98 aA1:=aL a36 [((vi Pc),ED)] _ _ (al (λE hF=>(aq (λq hq=>(O5 (λq=>cO hF.vb bJ 0 255 kr q) q (by have hq:(q:Int) < 224:=hq; omega)).symm) _))<|aN) kr
def aA2:Sp:={aA1 with l:=ZL}
theorem a38:ab aa 98 aA2:=Dh a37 [(ano,(vi Mn)),((bk ZQ nZ),(bk Wk nZ))] _ (λE hF q hq=>by
 simp only[ep,gn,or_false] at hq
 rcases hq with rfl | rfl
 .exact aq (λq _=>by
   rw[cE,cE]
   by_cases c:(q:Int) < N aH
   .rw[if_pos c,if_pos c,q6 (λq=>cO hF.vb bJ 0 255 kr q) q,G4 q c]
   .rw[if_neg c,if_neg c]) _
 .exact aq (λq hq=>by exact au1 (λq=>cO hF.vb bJ 0 255 kr q) q (by have hq:(q:Int) < 216:=hq; omega)) _) kr
def aAM:Sp:={aik with l:=[(0,ang)]}
theorem a3I:ab aa 160 aAM:=Dh aAK [(RM,Mn)] _ (λE hF q hq=>by
 simp only[ep,gn,or_false] at hq
 rcases hq with rfl
 exact aq (λq hq=>by rw[q6 (λq=>cO hF.vb bJ 0 255 kr q) q,G4 q hq]) _) kr
abbrev ZM:X:=cz nT nU nW jw (bZ (.v 6) aj aj aj (bk ae bA))
theorem aS2 {E:Env} (q:Nat) (hq:(q:Int) < 8):D ZM q=D ZG q:=by
 obtain rfl | rfl | rfl | rfl | rfl | rfl | rfl | rfl:q=0\/q=1\/q=2\/q=3\/q=4\/q=5\/q=6\/q=7:=by omega
 all_goals kernel_rfl
theorem aS1 {E:Env} (hb:∀q,0<=D bJ q/\D bJ q<=255) (q:Nat):D ZM q=D RM q:=by
 rw[@cE _ E gv]
 by_cases c:(q:Int) < N aH
 .rw[if_pos c,q6 hb q,G4 q c]
  exact aS2 q c
 .rw[if_neg c]
  have c:¬(q:Int) < 8:=c
  obtain⟨p,rfl⟩:∃p,q=p+8:=⟨q - 8,by omega⟩
  exact (cC 1 rfl (p+7)).trans ((cC 1 rfl (p+6)).trans ((cC 1 rfl (p+5)).trans ((cC 1 rfl (p+4)).trans ((cC 1 rfl (p+3)).trans ((cC 1 rfl (p+2)).trans (cC 2 rfl p))))))
def aja:Sp:=⟨fj anw [gP,ye],[bS,.agg [aE,dM 8 aH]],11,[cQ,cP [cY,fK,bg,gh,a9,qE ae,ag,ag,eY,eY,ag,ft,ft,ft,ns,iq,ag,ag,fc,ag,cK,cK],(8,ang)],eJ,11,[cQ,cP [cY,fK,bg,gh,a9,qE ZM,ag,ag,eY,eY,ag,ft,ft,ft,ns,iq,ag,ag,fc,ag,cK,cK],(8,RJ)]⟩
def aBU:Sp:={aja with v:=aja.v,l':=[cQ,aHh,(8,RJ)]}
theorem a5l:ab aa 48 aja:=dj (t:=[(160,au aAM)]) (lt:=[]) (m:=30) ⟨(aw a3I),trivial⟩ trivial (.ge (bz acO 6) (.ge (cJ 6 acO) .lf)) ⟨λE hF=>dP (rfl),⟨λE hF=>dR (rfl),df rfl⟩⟩ kr
theorem a5m:ab aa 48 aBU:=aL a5l [((vi ZM),ano)] _ _ (al (λE hF=>(aq (λq _=>aS1 (λq=>cO hF.vb bJ 0 255 kr q) q) _))<|aN) kr
abbrev aHk:List V:=[bS,.agg [cW,dM 8 nZ]]
def aBW:Sp:=⟨aHx,aHk,11,ZL,eJ,11,aHg⟩
theorem a5o:ab aa 48 aBW:=aG (t:=[(98,au aA5)]) (lt:=[]) (m:=30) ⟨(aw a4c),trivial⟩ trivial .lf kr
def aBV:Sp:=⟨aHi,aHk,11,ZL,TM,11,aHj⟩
theorem a5n:ab aa 48 aBV:=aG (t:=[(98,au aA2)]) (lt:=[]) (m:=30) ⟨(aw a38),trivial⟩ trivial .lf kr
abbrev anp:X:=sc (EB nu) (EB (.i 289))
theorem aEG {E:Env} (hb:∀q,0<=D bJ q/\D bJ q<=255) (h:N bH<=4096):N anp=N bH:=by
 have b:4<=N bH:=(bI.ok 80 _ 0 4 188420 rfl).1
 have e:=O6 hb
 have e2:N am5=N bH / 256:=@uk _ E bH 8 om
 have e1:N RB=N bH / 256 % 256:=by rw[yq,e2]
 exact (pj (k:=8) (m:=256) (a:=N bH % 256) (b:=N bH / 256 % 256) rfl (show N (EB nu)=_ from e.1) (show N (EB (.i 289))=_ from e.2.1.trans e1) om om om).trans om
abbrev RP:X:=sc (EB (.i 290)) RI
theorem akU {E:Env} (hb:∀q,0<=D bJ q/\D bJ q<=255) (h0:0<=N (.v 50)) (h:N (.v 50)<=8192):N RP=N (.v 50):=by
 have e:=O6 hb
 have e1:N RC=N (.v 50) / 256:=@uk _ E (.v 50) 8 h0
 exact (pj (k:=8) (m:=256) (a:=N (.v 50) % 256) (b:=N (.v 50) / 256) rfl (show N (EB (.i 290))=_ from e.2.2.1) (show N RI=_ from e.2.2.2.trans e1) om om om).trans om
abbrev anq:Nat×Bl:=(8,⟨5,[qt],false,1⟩)
def ajb:Sp:=⟨fj [lu,jf,fe,gi,iW,jg,nY,ku,iG,jN,iH,(101,0,1),(102,0,5),(113,0,1048576),(120,-1,1),tS,tT,TD,tU,qI] [gP,th],[bS,.agg [kM,dM 8 bM]],16,[cQ,cP [cY,fK,bg,gh,a9,iT,eO,aE,dQ,ed,a8,nw,ju,fS,ko,iq,ag,ag,fc,ag,lv,j5],anq],eJ,16,[cQ,cP [cY,fK,bg,gh,a9,iT,eO,aE,dQ,ed,a8,nw,ju,fS,ko,qt,aF RP,ag,fc,ag,lv,j5],anq]⟩
def aBZ:Sp:={ajb with v:=ajb.v,l':=[cQ,cP [cY,fK,bg,gh,a9,iT,eO,aE,dQ,ed,a8,nw,ju,fS,ko,qt,a8,ag,fc,ag,lv,j5],anq]}
theorem a5r:ab aa 48 ajb:=dj (t:=[]) (lt:=[]) (m:=30) trivial trivial (.ge (.o2 1 anp bH) (.ge (.o2 1 bH anp) (.ge (bz RP 50) (.ge (cJ 50 RP) .lf)))) ⟨λE hF=>(dP (aEG (λq=>cO hF.vb bJ 0 255 kr q) (by have h:=hF.g (x:=.o2 1 dW bH) (mt mh); have h:(0:Int)<=4096 - N bH:=h; omega))),⟨λE hF=>(dR (aEG (λq=>cO hF.vb bJ 0 255 kr q) (by have h:=hF.g (x:=.o2 1 dW bH) (mt mh); have h:(0:Int)<=4096 - N bH:=h; omega))),⟨λE hF=>(dP (akU (λq=>cO hF.vb bJ 0 255 kr q) (by have:=(hF.b 50 rfl); omega) (by have:=(hF.b 50 rfl); omega))),⟨λE hF=>(dR (akU (λq=>cO hF.vb bJ 0 255 kr q) (by have:=(hF.b 50 rfl); omega) (by have:=(hF.b 50 rfl); omega))),df rfl⟩⟩⟩⟩ kr
theorem a5s:ab aa 48 aBZ:=aL a5r [((ao RP),anj)] _ _ (al (λE hF=>(aD (akU (λq=>cO hF.vb bJ 0 255 kr q) (by have:=(hF.b 50 rfl); omega) (by have:=(hF.b 50 rfl); omega))))<|aN) kr
abbrev RQ:X:=kP RR
abbrev anr:X:=kt RQ Tm
def Pb:X:=Bu 6 (gF jk j6 (tO anr ZP))
def KT:X:=kt (Bu 6 (sj jk j6 anr aU qs aFU)) JR
def Di:X:=anr
def KS:X:=kt ED JR
abbrev aHl:X:=bZ ant bM Ml BA ae
abbrev aHm:X:=kt aHl aGa
def aeK:X:=aHm
theorem K0 {E:Env} (h:N bH<=4096):N BA=N bH:=Lz.a6 (Lz.QH (D (.v 71)) (N (.v 50))).1 h
theorem UY {E:Env} (hb:∀q,0<=D bJ q/\D bJ q<=255):D Di=D AA:=OM E _ _ _ (aq (λq hq=>by exact Vz hb q (by have hq:(q:Int) < 64:=hq; omega)) _)
theorem aTC {E:Env} {t:X} (hb:∀q,0<=D bJ q/\D bJ q<=255):D (.o3 0 nT aj (.o3 0 nU aj (.o3 0 nW aj (.o3 0 jw aj (.o3 0 (.v 6) aj (.o3 0 aj aj (.o3 0 ae bA (.o3 0 my aH (.o3 0 jk aH (.o3 0 j6 aH (.o3 0 Di aU (.o3 0 qs aU (.o3 0 (.v 8) aU t)))))))))))))=D (.o3 0 nT aj (.o3 0 nU aj (.o3 0 nW aj (.o3 0 jw aj (.o3 0 (.v 6) aj (.o3 0 aj aj (.o3 0 ae bA (.o3 0 my aH (.o3 0 jk aH (.o3 0 j6 aH (.o3 0 Ez aU (.o3 0 qs aU (.o3 0 (.v 8) aU t))))))))))))):=by
 simp only[yg]
 rw[UY hb]
 rfl
theorem VO {E:Env} (hb:∀q,0<=D bJ q/\D bJ q<=255) (q:Nat) (hq:q < 224):D Pb q=D gv q:=by
 have e:D Pb=D Pc:=by
  show D (Bu 6 (gF jk j6 (tO Di ZP)))=D (Bu 6 (gF jk j6 (tO AA ZP)))
  simp only[yg]
  rw[UY hb]
 rw[e,O5 hb q hq]
theorem id_eq {E:Env} (hb:∀q,0<=D bJ q/\D bJ q<=255):D KT=D KS:=OM E _ _ _ ((aTC (t:=.i 0) hb).trans (funext λq=>au2 hb _ q))
theorem a9N {E:Env} (hb:∀q,0<=D bJ q/\D bJ q<=255) (h:N bH<=4096) (q:Nat):D aHl q=D aGD q:=by
 have e:=O6 hb
 by_cases c:q < 4
 .rw[cE,if_pos (show (q:Int) < N bM from by show (q:Int) < 4; omega)]
  obtain rfl | rfl | rfl | rfl:q=0\/q=1\/q=2\/q=3:=by omega
  .exact e.1
  .exact e.2.1
  .exact e.2.2.1
  .exact e.2.2.2
 .obtain⟨p,rfl⟩:∃p,q=p+4:=⟨q - 4,by omega⟩
  refine (cC 4 rfl p).trans (Eq.symm ((cC 1 rfl (p+3)).trans ((cC 1 rfl (p+2)).trans ((cC 1 rfl (p+1)).trans ((cC 1 rfl p).trans ?_)))))
  rw[cE,cE,K0 h]
theorem aRs {E:Env} (hb:∀q,0<=D bJ q/\D bJ q<=255) (h:N bH<=4096):D UX=D aeK:=by
 refine (OM E _ _ _ (funext λq=>(a9N hb h q).symm)).trans (KH E _ _ _ ?_)
 show N bH+4=N BA+4
 rw[K0 h]
abbrev ans:X:=bk RQ gO
theorem ayk {E:Env} (hb:∀q,0<=D bJ q/\D bJ q<=255) (h:N bH<=4096):D ans=D (bk (kP aeK) gO):=aq (λq _=>Dg (λq hq=>by rw[Vz hb q (by have hq:(q:Int) < 64:=hq; omega),aRs hb h]) (λ_=>rfl) q) _
abbrev aHn:List V:=[bS,.agg [a9,dM 8 aU]]
abbrev Mp:Nat×Bl:=cj 8 aU RR
abbrev vl:ai:=Jm RQ
abbrev ZN:X:=.c (sj my jk j6 aH Di qs) zm
abbrev aHo:X:=Ae ZN aU Rj ZN oV
abbrev ZH:X:=gF Ri pt (pT KT aHo)
abbrev aG9:X:=bZ amc (.i 2808) RR aU aFS
abbrev aHa:Nat×Bl:=(20,FB ZN Y8 ZN)
abbrev aHb:Nat×Bl:=cj 22 jM aHo
def ajc:Sp:=⟨dT [lu,jf,fe,gi,iW,jg,nY,ku,iG,jN,iH] [gP,kV] amq,aHn,20,[cQ,cP [cY,ag,bg,cW,a9,iT,eO,aE,dQ,ed,a8,nw,ju,fS,ns,iq,ag,ag,kH,ag,cK,cK],amf,kW,kX,eP,Mp,amg],eJ,25,[cQ,cP [cY,ag,bg,cW,a9,qE Pb,eO,aE,dQ,ed,a8,oO Di,ju,fS,vl,iq,ag,ag,kH,ag,Ma,Mb],jO 3 [lM,te,eY,eY,ag,ft,de,ag,ag,kH,ag,pU KT,Mc],Y4,m5 (bZ IE dA (Ek aj pt ZH) il aG9),eP,Mp,ame,aHa,(21,En),aHb,amA,Af 24 pt ZH]⟩
abbrev zu:ai:=pU KS
abbrev ZI:X:=.c (sj my jk j6 aH AA qs) zm
abbrev aHc:X:=Ae ZI aU Rj ZI oV
abbrev ZJ:X:=gF Ri pt (pT KS aHc)
abbrev aHd:Nat×Bl:=m5 (bZ IE dA (Ek aj pt ZJ) il aG9)
abbrev ZK:Bl:=FB ZI Y8 ZI
abbrev ZW:Bl:=oC jM aHc
abbrev aHV:Bl:=oC tV (pT pt ZJ)
def aB0:Sp:={ajc with v:=ajc.v,l':=[cQ,cP [cY,ag,bg,cW,a9,iT,eO,aE,dQ,ed,a8,nw,ju,fS,vl,iq,ag,ag,kH,ag,Ma,Mb],jO 3 [lM,te,eY,eY,ag,ft,de,ag,ag,kH,ag,zu,Mc],Y4,aHd,eP,Mp,ame,(20,ZK),(21,En),(22,ZW),amA,(24,aHV)]}
abbrev ZX:X:=vi Pb
theorem a5t:ab aa 48 ajc:=dj (t:=[(99,au aBd)]) (lt:=[]) (m:=30) ⟨(aw a4m),trivial⟩ trivial (.same ED ZX (.same RQ (kP UX) .lf)) ⟨λE hF=>(aq (λq hq=>(VO (λq=>cO hF.vb bJ 0 255 kr q) q (by have hq:(q:Int) < 224:=hq; omega)).symm) _),⟨λE hF=>(aq (λq hq=>Vz (λq=>cO hF.vb bJ 0 255 kr q) q (by have hq:(q:Int) < 64:=hq; omega)) _),df rfl⟩⟩ kr
theorem a5u:ab aa 48 aB0:=aL a5t [(KT,KS),(Di,AA),(ZX,ED)] _ _ (al (λE hF=>(id_eq (λq=>cO hF.vb bJ 0 255 kr q)))<|al (λE hF=>(UY (λq=>cO hF.vb bJ 0 255 kr q)))<|al (λE hF=>(aq (λq hq=>VO (λq=>cO hF.vb bJ 0 255 kr q) q (by have hq:(q:Int) < 224:=hq; omega)) _))<|aN) kr
abbrev aHW:List V:=[bS,.agg [lz,dM 8 bH]]
abbrev aHX:Nat×Bl:=cj 8 bH ZR
abbrev ZY:ai:=Jm (kP aeK)
abbrev ZZ:X:=gF j6 KS amz
abbrev aHY:X:=gF Bv CB ZZ
def aBX:Sp:=⟨dT [lu,jf,fe,gi,iW,jg,nY,ku,iG,jN,iH,Zi,Ac,Et,Ad,zj] [th,gP,kV] Zl,aHW,20,[cQ,cP [cY,ag,bg,cW,a9,iT,eO,aE,dQ,ed,a8,nw,ju,fS,vl,qt,a8,ag,fc,ag,lv,j5],Ew,(12,En),Za,kW,kX,eP,aHX,Zb,rJ,Zc],eJ,23,[cQ,cP [cY,ag,bg,cW,a9,iT,eO,aE,dQ,ed,a8,nw,Eu,fS,ZY,qt,a8,aE,fc,a8,lv,j5],jO 3 [lM,te,eY,eY,ag,ft,de,ag,aE,fc,a8,zu,Zd],Rl,m5 (oY 80 Em (Bt bA aHY) il amM),eP,Ep,amt,zn,Rk,rJ,(20,zo),amu,cj 22 tV aHY]⟩
abbrev aHZ:X:=bk (kP aHm) gO
theorem a5p:ab aa 48 aBX:=dj (t:=[(101,au aBR)]) (lt:=[]) (m:=30) ⟨(aw a5i),trivial⟩ trivial (.ge Zj (.ge Zk (.same qs IG (.same ans aHZ (.same (bk ZR bH) am6 .lf))))) ⟨λE hF=>dP (K0 (by have h:=hF.g (x:=.o2 1 dW bH) mh; have h:(0:Int)<=4096 - N bH:=h; omega)),⟨λE hF=>dR (K0 (by have h:=hF.g (x:=.o2 1 dW bH) mh; have h:(0:Int)<=4096 - N bH:=h; omega)),⟨λE hF=>KH E _ _ _ (by show (0:Int)+N (.v 50)=_; omega),⟨λE hF=>(ayk (λq=>cO hF.vb bJ 0 255 kr q) (by have h:=hF.g (x:=.o2 1 dW bH) mh; have h:(0:Int)<=4096 - N bH:=h; omega)),⟨λE hF=>(aq (λq _=>au0 (λq=>cO hF.vb bJ 0 255 kr q) q) _),df rfl⟩⟩⟩⟩⟩ kr
abbrev aH0:X:=bZ aGo (.i 5272) RR aU aGp
def ajd:Sp:=⟨dT [lu,jf,fe,gi,iW,jg,nY,ku,iG,jN,iH,tS,tT,F4,tU] [gP,kV] amO,aHn,20,[cQ,cP [cY,aE,bg,lz,a9,iT,eO,aE,dQ,ed,a8,nw,ju,fS,ns,iq,ag,ag,kH,ag,cK,cK],amP,kW,kX,eP,Mp,amQ,amR],eJ,25,[cQ,cP [cY,aE,bg,lz,a9,qE Pb,eO,aE,dQ,ed,a8,oO Di,ju,fS,vl,iq,ag,ag,kH,ag,Ma,Mb],jO 3 [lM,ag,vZ,v7,v8,tX,de,aE,ag,kH,ag,pU KT,Mc],Zs,m5 (oY 80 IH (Ek bM vh ZH) il aH0),eP,Mp,amT,aHa,(21,Ey),aHb,amV,Af 24 vh ZH]⟩
abbrev aH1:Nat×Bl:=m5 (oY 80 IH (Ek bM vh ZJ) il aH0)
abbrev aH2:Bl:=oC tV (pT vh ZJ)
def aB1:Sp:={ajd with v:=ajd.v,l':=[cQ,cP [cY,aE,bg,lz,a9,iT,eO,aE,dQ,ed,a8,nw,ju,fS,vl,iq,ag,ag,kH,ag,Ma,Mb],jO 3 [lM,ag,vZ,v7,v8,tX,de,aE,ag,kH,ag,zu,Mc],Zs,aH1,eP,Mp,amT,(20,ZK),(21,Ey),(22,ZW),amV,(24,aH2)]}
theorem a5v:ab aa 48 ajd:=dj (t:=[(99,au aBe)]) (lt:=[]) (m:=30) ⟨(aw a4n),trivial⟩ trivial (.same ED ZX (.same RQ (kP UX) .lf)) ⟨λE hF=>(aq (λq hq=>(VO (λq=>cO hF.vb bJ 0 255 kr q) q (by have hq:(q:Int) < 224:=hq; omega)).symm) _),⟨λE hF=>(aq (λq hq=>Vz (λq=>cO hF.vb bJ 0 255 kr q) q (by have hq:(q:Int) < 64:=hq; omega)) _),df rfl⟩⟩ kr
theorem a5w:ab aa 48 aB1:=aL a5v [(KT,KS),(Di,AA),(ZX,ED)] _ _ (al (λE hF=>(id_eq (λq=>cO hF.vb bJ 0 255 kr q)))<|al (λE hF=>(UY (λq=>cO hF.vb bJ 0 255 kr q)))<|al (λE hF=>(aq (λq hq=>VO (λq=>cO hF.vb bJ 0 255 kr q) q (by have hq:(q:Int) < 224:=hq; omega)) _))<|aN) kr
abbrev aH3:X:=gF Bw CB ZZ
def aBY:Sp:=⟨dT [lu,jf,fe,gi,iW,jg,nY,ku,iG,jN,iH,tS,tT,F4,tU,Zi,Ac,Et,Ad,zj] [th,gP,kV] Zt,aHW,20,[cQ,cP [cY,aE,bg,lz,a9,iT,eO,aE,dQ,ed,a8,nw,ju,fS,vl,qt,a8,ag,fc,ag,lv,j5],Ew,(12,Ey),Zu,kW,kX,eP,aHX,Zv,rJ,BC],eJ,24,[cQ,cP [cY,aE,bg,lz,a9,iT,eO,aE,dQ,ed,a8,nw,Eu,fS,ZY,qt,a8,aE,fc,a8,lv,j5],jO 3 [lM,ag,vZ,v7,v8,tX,de,aE,aE,fc,a8,zu,Zd],Rt,m5 (mq (.v 80) gO Ru dA Zo xR (Bt bA aH3) il amK),eP,Ep,amI,zn,Rv,rJ,BC,(20,zo),amJ,(22,Rw),cj 23 tV aH3]⟩
theorem a5q:ab aa 48 aBY:=dj (t:=[(101,au aBS)]) (lt:=[]) (m:=30) ⟨(aw a5k),trivial⟩ trivial (.ge Zj (.ge Zk (.same qs IG (.same ans aHZ (.same (bk ZR bH) am6 .lf))))) ⟨λE hF=>dP (K0 (by have h:=hF.g (x:=.o2 1 dW bH) mh; have h:(0:Int)<=4096 - N bH:=h; omega)),⟨λE hF=>dR (K0 (by have h:=hF.g (x:=.o2 1 dW bH) mh; have h:(0:Int)<=4096 - N bH:=h; omega)),⟨λE hF=>KH E _ _ _ (by show (0:Int)+N (.v 50)=_; omega),⟨λE hF=>(ayk (λq=>cO hF.vb bJ 0 255 kr q) (by have h:=hF.g (x:=.o2 1 dW bH) mh; have h:(0:Int)<=4096 - N bH:=h; omega)),⟨λE hF=>(aq (λq _=>au0 (λq=>cO hF.vb bJ 0 255 kr q) q) _),df rfl⟩⟩⟩⟩⟩ kr
end
end Go.Proofs.Y
namespace Go.Z
open Go Go.Sym Go.RowKit
open Go.Ev (T K Ex DH DF a7)
section
variable [bI]
def afz (I:Info) (call:FuncId->List V->Hp->Option (V×Hp)) (nt:Nat) (pl:Nat->List K) (lps:Nat->Option iv) (x:Code) (lp:Lp):Bool:=match code I call nt pl lps x (bO lp.s) (aK lp.n lp.l) with
 | some (.norm,s1,h1)=>DM I.F lp s1 h1 || QD I.F lp s1 h1
 | _=>false
def JPM (P:Program) (nt:Nat) (x:Code) (lp:Lp) (M:Nat):Prop:=∀(E:Env),@ah _ E lp.fa.fx->@N _ E lp.μ < M->∀bs a w,@SR _ E bs (bO lp.s) a nt->@HR _ E w bs (aK lp.n lp.l)->∀Q,(∀ex a1 w1,@iu _ E nt bs w (aK lp.n lp.l) lp.ex (bO lp.s') (aK lp.n' lp.l') ex a1 w1->Exit.then (fL P x Q) Q ex a1 w1)->fL P x Q a w
def sw (P:Program) (nt:Nat) (x:Code) (lp:Lp) (fa:Fa):Prop:=∀M,JPM P nt x lp M->∀(E:Env),@ah _ E fa.fx->@N _ E lp.μ < ((M+1:Nat):Int)->∀bs a w,@SR _ E bs (bO lp.s) a nt->@HR _ E w bs (aK lp.n lp.l)->∀Q,(∀ex a1 w1,@iu _ E nt bs w (aK lp.n lp.l) lp.ex (bO lp.s') (aK lp.n' lp.l') ex a1 w1->Exit.then (fL P x Q) Q ex a1 w1)->fL P x Q a w
theorem sw.all {P:Program} {nt:Nat} {x:Code} {lp:Lp} (hs:sw P nt x lp lp.fa) (h0:∀(E:Env),@ah _ E lp.fa.fx->0<=@N _ E lp.μ):ct P nt x lp:=by
 have key:∀M,JPM P nt x lp M:=by
  intro M
  induction M with
  | zero=>intro E hF hlt; have:(0:Int)<=@N _ E lp.μ:=h0 E hF; exfalso; simp at hlt; omega
  | succ M ih=>exact λE hF hlt=>hs M ih E hF hlt
 intro E hF bs a w hS hR Q hq
 have h1:=h0 E hF
 exact key ((@N _ E lp.μ).toNat+1) E hF om bs a w hS hR Q hq
section
variable [Env] {F:Fx} {bs:Nm} {w:World} {I:Info} {P:Program} {nt:Nat} {a:Act}
theorem aTn {x:Code} {lp:Lp} (hx:lp.ex=.norm) (hI:dm P I) {call:FuncId->List V->Hp->Option (V×Hp)} (hC:ua P call) (hm:P.follows .mixedOrders=true) {pl:Nat->List K} {lps:Nat->Option iv} (hL:∀p∈loops x,∀g,lps p.1=some g->qM P nt g p.2) (hc:ky I nt pl x=true) (hb:afz I call nt pl lps x lp=true) {M:Nat} (hM:JPM P nt x lp M) (hlt:N lp.μ < ((M+1:Nat):Int)) (hS:SR bs (bO lp.s) a nt) (hR:HR w bs (aK lp.n lp.l)) {Q:Exit->Act->World->Prop} (hq:∀ex a1 w1,iu nt bs w (aK lp.n lp.l) lp.ex (bO lp.s') (aK lp.n' lp.l') ex a1 w1->Exit.then (fL P x Q) Q ex a1 w1):fL P x Q a w:=by
 have hF:=hI.F
 unfold afz at hb
 have run:=λe s1 h1 he=>na hI hC hm (lp:=lps) (pl:=pl) x hL hc (bO lp.s) (aK lp.n lp.l) e s1 h1 he bs a w hS hR
 split at hb
 .rename_i s1 h1 he
  refine fL.step (wp_mono (run _ _ _ he) ?_)
  rintro ex a1 w1 ⟨rfl,bs1,hS1,hR1,hM1⟩
  show fL P x Q a1 w1
  rw[dt] at hb
  rcases hb with hb | hb
  .obtain⟨bs3,o1,o2,o3⟩:=H5 hF hb hR hS1 hR1 hM1
   have:=hq (OK lp.ex) a1 w1 ⟨rfl,bs3,o1,o2,o3⟩
   rw[hx] at this
   exact this
  .unfold QD at hb
   simp only[ar] at hb
   obtain⟨b1,⟨b2,b3⟩,b4⟩:=hb
   obtain⟨i1,i2,i3,i4⟩:=La hF b1 hS1 hR1
   have d1:=lZ hF b2
   rw[fm] at d1
   refine hM _ i1 om _ a1 w1 i2 i3 Q λex a2 w2 hg=>?_
   obtain⟨g1,bs2,g2,g3,g4⟩:=i4 ex a2 w2 hg
   obtain⟨bs3,o1,o2,o3⟩:=H5 hF b4 hR g2 g3 (hM1.trans g4)
   exact hq ex a2 w2 ⟨g1,bs3,o1,o2,o3⟩
 .cases hb
end
end
end Go.Z
namespace Go.Proofs.Y
open Go Go.Z
section
variable [bI]
def jP (t:OT) (lt:LT) (m:Nat) (f:FuncId) (k:Nat) (fn:Func) (lp:Lp) (fa:Fa):Bool:=
 Go.Z.ky (bR fa.fx) fn.ntmps ((bR fa.fx).pl f) (aI k (loops (aC fn))) && afz (bR fa.fx) (uv (bR fa.fx) (λf=>wF f fa.fx t) (λf k=>pc f k fa.fx lt) m) fn.ntmps ((bR fa.fx).pl f) (λk=>pc f k fa.fx lt) (aI k (loops (aC fn))) lp
theorem aTh {t:OT} {lt:LT} (ht:dB (aY aa) t) (hl:dB (cA aa) lt) {m:Nat} {f:FuncId} {k:Nat} {fn:Func} {lp:Lp} (hx:lp.ex=.norm) {fa:Fa} (hz:(bR fa.fx).fn f=some fn) (hb:fn.body=some (aC fn)) (h:jP t lt m f k fn lp fa=true):sw aa fn.ntmps (aI k (loops (aC fn))) lp fa:=by
 intro M hM E hF hlt bs a w hS hR Q hq
 simp only[jP,ar] at h
 have hO:=@H3 _ _ E (bR fa.fx) hF t ht
 have hFn:=@Bq _ E fa.fx
 have hL:=@HJ _ _ E (bR fa.fx) hF hFn lt hl
 refine @aTn _ E bs w (bR fa.fx) aa fn.ntmps a _ lp hx (@vg _ E _ hF) _ (@De _ E _ _ (@vg _ E _ hF) hFn _ _ hO hL m) hFn.mixed _ _ ?_ h.1 h.2 M hM hlt hS hR Q hq
 intro q hq g hg
 refine hL f fn _ hz hb q ?_ g hg
 rcases K3 (k:=k) (loops (aC fn)) with e | e
 .rw[e] at hq; cases hq
 .exact uL e q hq
theorem AS {t:OT} {lt:LT} (ht:dB (aY aa) t) (hl:dB (cA aa) lt) {m:Nat} {f:FuncId} {k:Nat} {fn:Func} {lp:Lp} (hx:lp.ex=.norm) (hz:∀F,(bR F).fn f=some fn) (hb:fn.body=some (aC fn)) (tr:Tr) (ho:Ob lp.fa (λE=>@ah _ E lp.fa.fx) tr) (h:cx (jP t lt m f k fn lp) lp.fa tr=true):sw aa fn.ntmps (aI k (loops (aC fn))) lp lp.fa:=λM hM E hF=>
 Og (R:=λE=>@N _ E lp.μ < ((M+1:Nat):Int)->∀bs a w,@SR _ E bs (bO lp.s) a fn.ntmps->@HR _ E w bs (aK lp.n lp.l)->∀Q,(∀ex a1 w1,@iu _ E fn.ntmps bs w (aK lp.n lp.l) lp.ex (bO lp.s') (aK lp.n' lp.l') ex a1 w1->Exit.then (fL aa (aI k (loops (aC fn))) Q) Q ex a1 w1)->fL aa (aI k (loops (aC fn))) Q a w) (λ_ h E hF=>aTh ht hl hx (hz _) hb h M hM E hF) ho h E hF hF
end
end Go.Proofs.Y
namespace Go.Proofs.Y
open Go Go.Z
section
open Hz
abbrev BH:Nat×Int×Int:=(60,0,1048576)
abbrev oA:X:=ir 61 62
abbrev rL:X:=kI 60 62
abbrev anD:X:=bz rL 131
abbrev BI:X:=kI 60 61
abbrev aH4:Fa:=fj [BH,zR,Ej,rK,zZ,z1,z2,xW,xX,xY,xZ,x5,tI,qI,x7,tH,zY,xS,xT,xU,xV,ku,(130,0,255),(131,0,1048576),(140,1,5),(141,0,1048576),(142,0,188420),(143,0,16),(144,0,16),Fw] [oA,anD,Su (kI 131 142) BI,cJ 141 BI,.o2 1 (.o2 0 (.i 4095) (.v 131)) BI]
abbrev Mu:Nat×V:=(17,tA 30 (.v 60) (.v 61) .a)
abbrev Mw:Nat×V:=(18,lB 61)
abbrev zw:gk:=[tm,Mu,Mw,(19,aFu)]
abbrev zx:ai:=aF rL
abbrev aH5:Nat×Bl:=(7,⟨185,[BE,xx,zk,aF anD,BF,.a [.u8] dW (.f 1200 (tD 130 131 anD vk)),bC],false,0⟩)
abbrev Z0:Nat×Bl:=oD 30 141 (.v 130)
abbrev aH6:Nat×Bl:=(7,⟨185,[BE,xx,zk,aF (bz BI 131),BF,.a [.u8] dW (.f 1200 (tD 130 131 (bz BI 131) vk)),bC],false,0⟩)
def DA:Lp:=⟨aH4,zw,31,[cQ,cP [cY,fK,bg,gh,qD,vM,oQ,oR,oS,oT,oN,lI,oP,lJ,ko,lK,a8,mV,zx,kS,cK,cK],aH5,Z0],.exit 1,[],31,[cQ,cP [cY,fK,bg,gh,qD,vM,oQ,oR,oS,oT,oN,lI,oP,lJ,ko,lK,a8,mV,aF BI,kS,cK,cK],aH6,Z0],oA⟩
abbrev aHI:X:=xE 62 61
theorem aZM:cr aa Tryz.f14.ntmps (aI 6 (loops (aC Tryz.f14))) DA DA.fa:=eX (t:=[(47,au wU)]) (lt:=[]) (m:=30) (f:=14) (k:=6) ⟨(aw yZ),trivial⟩ trivial (λ_=>rfl) rfl (.tf aHI .lf .lf) ⟨trivial,trivial⟩ kr
theorem aZL (E:Env) (hF:ah DA.fa.fx):0<=N DA.μ:=by have h:=hF.g (x:=.o2 1 (.v 61) (.v 62)) mh; exact h
theorem agx:ct aa Tryz.f14.ntmps (aI 6 (loops (aC Tryz.f14))) DA:=aZM.all aZL
def AX:Lp:=⟨aH4,zw,31,[cQ,cP [cY,fK,bg,gh,qD,vM,oQ,oR,oS,oT,oN,lI,oP,lJ,ko,lK,a8,mV,zx,kS,lv,j5],aH5,Z0],.exit 1,[],31,[cQ,cP [cY,fK,bg,gh,qD,vM,oQ,oR,oS,oT,oN,lI,oP,lJ,ko,lK,a8,mV,aF BI,kS,lv,j5],aH6,Z0],oA⟩
theorem aZO:cr aa Tryz.f14.ntmps (aI 6 (loops (aC Tryz.f14))) AX AX.fa:=eX (t:=[(47,au wU)]) (lt:=[]) (m:=30) (f:=14) (k:=6) ⟨(aw yZ),trivial⟩ trivial (λ_=>rfl) rfl (.tf aHI .lf .lf) ⟨trivial,trivial⟩ kr
theorem aZN (E:Env) (hF:ah AX.fa.fx):0<=N AX.μ:=by have h:=hF.g (x:=.o2 1 (.v 61) (.v 62)) mh; exact h
theorem V9:ct aa Tryz.f14.ntmps (aI 6 (loops (aC Tryz.f14))) AX:=aZO.all aZN
abbrev anz:VB:=[BH,zR,Ej,rK,lu,jf,fe,gi,iW,jg,nY,ku,iG,jN,iH,(101,0,1),(102,0,5),(120,-1,1),tS,tT,TD,tU]
abbrev Mq:X:=.o2 1 eC BI
abbrev Mr(a:X):X:=.o2 1 BI a
abbrev mO:Nat×Bl:=cj 30 eC gv
def AW:Lp:=⟨fj anz [oA,Mq,gP,ye,Jv rL,Mr aH],zw,31,[cQ,cP [cY,fK,bg,gh,a9,qE ae,ag,ag,eY,eY,ag,ft,ft,ft,ns,iq,ag,ag,zx,ag,cK,cK],(7,⟨185,[ag,ag,aE,zx,ane,.a [.u8] dW (ti ae rL),bC],false,0⟩),mO],.norm,[tm,Mu,Mw,(19,gw (bz aH 60))],31,[cQ,cP [cY,fK,bg,gh,a9,ann,ag,ag,eY,eY,ag,ft,ft,ft,ns,iq,ag,ag,ane,ag,cK,cK],(7,nv cW ag RL anf),mO],oA⟩
abbrev a_Y:X:=Ng rL
abbrev EE(a:X):X:=.o2 11 a_Y a
theorem aWq:sw aa Tryz.f14.ntmps (aI 6 (loops (aC Tryz.f14))) AW AW.fa:=AS (t:=[(47,bG (au wU) (au azP)),(48,au aBU)]) (lt:=[]) (m:=30) (f:=14) (k:=6) ⟨(cS (aw yZ) (aw a2k)),(aw a5m),trivial⟩ trivial rfl (λ_=>rfl) rfl (.tf (EE aH) .lf .lf) ⟨trivial,trivial⟩ kr
theorem aWp (E:Env) (hF:ah AW.fa.fx):0<=N AW.μ:=by have h:=hF.g (x:=.o2 1 (.v 61) (.v 62)) mh; exact h
theorem V4:ct aa Tryz.f14.ntmps (aI 6 (loops (aC Tryz.f14))) AW:=aWq.all aWp
abbrev ZV:X:=.o2 1 rL aH
abbrev aHJ:X×Bool:=(.f 1132 (dG acX aGs IX),true)
abbrev aHK:List (Nat×Bl):=[cQ,cP [cY,fK,bg,gh,a9,ann,ag,ag,eY,eY,ag,ft,ft,ft,ns,iq,ag,ag,zx,ag,cK,cK],(7,nv cW (aF ZV) RL (ti aH ZV)),mO,vY,v9,kW,kX,eP]
abbrev BG:ai:=oO Ez
def Dw:Lp:=⟨dT anz [oA,Mq,gP,ye,ZV,rO 223 rL,Mr ff,arH,kV] [Cx,aHJ,vW],zw,31,aHK,.norm,[tm,Mu,Mw,(19,gw (bz ff 60))],31,[cQ,cP [cY,fK,bg,gh,a9,iT,eO,aE,dQ,ed,a8,BG,ju,fS,ns,iq,ag,ag,aF ff,ag,cK,cK],(7,nv a9 ag RN (.f 1200 (tC gv ff (ti aH nZ) .n))),mO,vY,v9,ac7,aHf,eP],oA⟩
theorem aWs:sw aa Tryz.f14.ntmps (aI 6 (loops (aC Tryz.f14))) Dw Dw.fa:=AS (t:=[(47,bG (au wU) (au ahN)),(48,au aBW)]) (lt:=[]) (m:=30) (f:=14) (k:=6) ⟨(cS (aw yZ) (aw azS)),(aw a5o),trivial⟩ trivial rfl (λ_=>rfl) rfl (.tf (EE ff) .lf .lf) ⟨trivial,trivial⟩ kr
theorem aWr (E:Env) (hF:ah Dw.fa.fx):0<=N Dw.μ:=by have h:=hF.g (x:=.o2 1 (.v 61) (.v 62)) mh; exact h
theorem agd:ct aa Tryz.f14.ntmps (aI 6 (loops (aC Tryz.f14))) Dw:=aWs.all aWr
def K6:Lp:=⟨dT anz [oA,Mq,gP,ye,ZV,rO 223 rL,Mr ff,arF] [Cx,aHJ],zw,31,aHK,.ret,[(4,TM)],31,[(0,⟨114,[bg,aPf,a9,nR,cK],false,0⟩),mO,vY,v9,kW,kX,eP],oA⟩
theorem aWG:cr aa Tryz.f14.ntmps (aI 6 (loops (aC Tryz.f14))) K6 K6.fa:=eX (t:=[(47,bG (au wU) (au ahN)),(48,au aBV)]) (lt:=[]) (m:=30) (f:=14) (k:=6) ⟨(cS (aw yZ) (aw azS)),(aw a5n),trivial⟩ trivial (λ_=>rfl) rfl (.tf (EE ff) .lf .lf) ⟨trivial,trivial⟩ kr
theorem aWE (E:Env) (hF:ah K6.fa.fx):0<=N K6.μ:=by have h:=hF.g (x:=.o2 1 (.v 61) (.v 62)) mh; exact h
theorem aWF:ct aa Tryz.f14.ntmps (aI 6 (loops (aC Tryz.f14))) K6:=aWG.all aWE
abbrev anA:X:=.o2 1 rL nu
def Dx:Lp:=⟨fj [BH,zR,Ej,rK,lu,jf,fe,gi,iW,jg,nY,ku,iG,jN,iH,(101,0,1),(102,0,5),(120,-1,1),tS,tT,TD,tU,qI] [oA,Mq,gP,th,anA,.o2 1 IL rL,Mr mg],zw,31,[cQ,cP [cY,fK,bg,gh,a9,iT,eO,aE,dQ,ed,a8,BG,ju,fS,ko,iq,ag,ag,zx,ag,lv,j5],(7,nv kM (aF anA) kM (ti nu anA)),mO],.norm,[tm,Mu,Mw,(19,gw (bz mg 60))],31,[cQ,cP [cY,fK,bg,gh,a9,iT,eO,aE,dQ,ed,a8,BG,ju,fS,ko,qt,a8,ag,aF mg,ag,lv,j5],(7,aHq),mO],oA⟩
theorem aWz:sw aa Tryz.f14.ntmps (aI 6 (loops (aC Tryz.f14))) Dx Dx.fa:=AS (t:=[(47,bG (au wU) (au azV)),(48,au aBZ)]) (lt:=[]) (m:=30) (f:=14) (k:=6) ⟨(cS (aw yZ) (aw a2p)),(aw a5s),trivial⟩ trivial rfl (λ_=>rfl) rfl (.tf (EE mg) .lf .lf) ⟨trivial,trivial⟩ kr
theorem aWy (E:Env) (hF:ah Dx.fa.fx):0<=N Dx.μ:=by have h:=hF.g (x:=.o2 1 (.v 61) (.v 62)) mh; exact h
theorem age:ct aa Tryz.f14.ntmps (aI 6 (loops (aC Tryz.f14))) Dx:=aWz.all aWy
abbrev anB:X:=.o2 1 rL ff
abbrev aHL:List X:=[oA,Mq,gP,kV,anB,rO 287 rL,Mr nu]
abbrev aHM:Nat×Bl:=(7,nv a9 (aF anB) RN (ti ff anB))
abbrev aHN:gk:=[tm,Mu,Mw,(19,gw (bz nu 60))]
abbrev aHO:ai:=dM 33 jM
abbrev aHP:ai:=tg 35
abbrev aHQ:Nat×Bl:=(7,nv kM ag kM (.f 1200 (tC gv nu (ti ff aU) .n)))
def Hl:Lp:=⟨dT [BH,zR,Ej,rK,lu,jf,fe,gi,iW,jg,nY,ku,iG,jN,iH] aHL amq,zw,31,[cQ,cP [cY,ag,bg,cW,a9,iT,eO,aE,dQ,ed,a8,BG,ju,fS,ns,iq,ag,ag,zx,ag,cK,cK],aHM,mO,amf,kW,kX,eP,amg],.norm,aHN,36,[cQ,cP [cY,ag,bg,cW,a9,iT,eO,aE,dQ,ed,a8,nw,ju,fS,vl,iq,ag,ag,kH,ag,lG 31,lG 32],jO 3 [lM,te,eY,eY,ag,ft,de,ag,ag,kH,ag,zu,aHO],Y4,aHd,eP,(10,rI (dM 34 aj) aE ag amd),(31,ZK),(32,En),(33,ZW),qp 34 [a9,aE,aHP],(35,aHV),aHQ,mO],oA⟩
theorem aWu:sw aa Tryz.f14.ntmps (aI 6 (loops (aC Tryz.f14))) Hl Hl.fa:=AS (t:=[(47,bG (au wU) (au ahQ)),(48,au aB0)]) (lt:=[]) (m:=30) (f:=14) (k:=6) ⟨(cS (aw yZ) (aw azY)),(aw a5u),trivial⟩ trivial rfl (λ_=>rfl) rfl (.tf (EE nu) .lf .lf) ⟨trivial,trivial⟩ kr
theorem aWt (E:Env) (hF:ah Hl.fa.fx):0<=N Hl.μ:=by have h:=hF.g (x:=.o2 1 (.v 61) (.v 62)) mh; exact h
theorem axS:ct aa Tryz.f14.ntmps (aI 6 (loops (aC Tryz.f14))) Hl:=aWu.all aWt
abbrev anC:X:=.o2 1 rL mg
abbrev aHR:List X:=[oA,Mq,th,gP,kV,anC,.o2 1 (.o2 0 bH IL) rL,Mr eC]
abbrev aHS:Nat×Bl:=(7,nv lz (aF anC) anc (ti mg anC))
abbrev RT:X:=bz eC 60
abbrev aHT:gk:=[tm,Mu,Mw,(19,gw RT)]
abbrev Ms:ai:=aF eC
abbrev aHU:Nat×Bl:=cP [cY,ag,bg,cW,a9,iT,eO,aE,dQ,ed,a8,nw,Eu,fS,ZY,qt,a8,aE,Ms,a8,lv,j5]
abbrev aHA:ai:=dM 31 jM
abbrev ZT:X:=pS eC
abbrev aHB:X:=gF Bv ZT ZZ
abbrev aHC:Nat×Bl:=m5 (oY 80 Em (Bt bA aHB) il amM)
abbrev aHD:ai:=dM 32 bA
abbrev aHE:Bl:=oC tV aHB
abbrev ZU:Nat×Bl:=(7,⟨185,[aE,aE,ag,ag,ag,.a [.u8] dW (ti mg bH),bC],false,0⟩)
def Dy:Lp:=⟨dT [BH,zR,Ej,rK,lu,jf,fe,gi,iW,jg,nY,ku,iG,jN,iH,Ac,Et,Ad,zj] aHR Zl,zw,31,[cQ,cP [cY,ag,bg,cW,a9,iT,eO,aE,dQ,ed,a8,BG,ju,fS,vl,qt,a8,ag,zx,ag,lv,j5],aHS,mO,Ew,(12,En),Za,kW,kX,eP,Zb,rJ,Zc],.norm,aHT,34,[cQ,aHU,jO 3 [lM,te,eY,eY,ag,ft,de,ag,aE,Ms,a8,zu,aHA],Rl,aHC,eP,(10,rI aHD aE ag ams),zn,Rk,(31,zo),qp 32 [a9,aE,Er,a9,cW,tg 33],(33,aHE),ZU,mO],oA⟩
theorem aWB:sw aa Tryz.f14.ntmps (aI 6 (loops (aC Tryz.f14))) Dy Dy.fa:=AS (t:=[(47,bG (au wU) (au ahP)),(48,au aBX)]) (lt:=[]) (m:=30) (f:=14) (k:=6) ⟨(cS (aw yZ) (aw azU)),(aw a5p),trivial⟩ trivial rfl (λ_=>rfl) rfl (.tf (EE eC) .lf .lf) ⟨trivial,trivial⟩ kr
theorem aWA (E:Env) (hF:ah Dy.fa.fx):0<=N Dy.μ:=by have h:=hF.g (x:=.o2 1 (.v 61) (.v 62)) mh; exact h
theorem agf:ct aa Tryz.f14.ntmps (aI 6 (loops (aC Tryz.f14))) Dy:=aWB.all aWA
def K5:Lp:=⟨dT [BH,zR,Ej,rK,lu,jf,fe,gi,iW,jg,nY,ku,iG,jN,iH,tS,tT,F4,tU] aHL amO,zw,31,[cQ,cP [cY,aE,bg,lz,a9,iT,eO,aE,dQ,ed,a8,BG,ju,fS,ns,iq,ag,ag,zx,ag,cK,cK],aHM,mO,amP,kW,kX,eP,amQ,amR],.norm,aHN,36,[cQ,cP [cY,aE,bg,lz,a9,iT,eO,aE,dQ,ed,a8,nw,ju,fS,vl,iq,ag,ag,kH,ag,lG 31,lG 32],jO 3 [lM,ag,vZ,v7,v8,tX,de,aE,ag,kH,ag,zu,aHO],Zs,aH1,eP,(10,rI (dM 34 bM) aE ag amS),(31,ZK),(32,Ey),(33,ZW),qp 34 [a9,aE,Er,a9,cW,Zr,cW,a9,Ry,a9,kM,aHP],(35,aH2),aHQ,mO],oA⟩
theorem aWx:sw aa Tryz.f14.ntmps (aI 6 (loops (aC Tryz.f14))) K5 K5.fa:=AS (t:=[(47,bG (au wU) (au ahQ)),(48,au aB1)]) (lt:=[]) (m:=30) (f:=14) (k:=6) ⟨(cS (aw yZ) (aw azY)),(aw a5w),trivial⟩ trivial rfl (λ_=>rfl) rfl (.tf (EE nu) .lf .lf) ⟨trivial,trivial⟩ kr
theorem aWv (E:Env) (hF:ah K5.fa.fx):0<=N K5.μ:=by have h:=hF.g (x:=.o2 1 (.v 61) (.v 62)) mh; exact h
theorem aWw:ct aa Tryz.f14.ntmps (aI 6 (loops (aC Tryz.f14))) K5:=aWx.all aWv
abbrev aHF:Nat×Bl:=cP [cY,aE,bg,lz,a9,iT,eO,aE,dQ,ed,a8,nw,Eu,fS,ZY,qt,a8,aE,Ms,a8,lv,j5]
abbrev aHG:X:=gF Bw ZT ZZ
abbrev aHH:Nat×Bl:=m5 (mq (.v 80) gO Ru dA Zo xR (Bt bA aHG) il amK)
abbrev aIa:Bl:=oC tV aHG
def Hm:Lp:=⟨dT [BH,zR,Ej,rK,lu,jf,fe,gi,iW,jg,nY,ku,iG,jN,iH,tS,tT,F4,tU,Ac,Et,Ad,zj] aHR Zt,zw,31,[cQ,cP [cY,aE,bg,lz,a9,iT,eO,aE,dQ,ed,a8,BG,ju,fS,vl,qt,a8,ag,zx,ag,lv,j5],aHS,mO,Ew,(12,Ey),Zu,kW,kX,eP,Zv,rJ,BC],.norm,aHT,35,[cQ,aHF,jO 3 [lM,ag,vZ,v7,v8,tX,de,aE,aE,Ms,a8,zu,aHA],Rt,aHH,eP,(10,rI aHD cW aE amH),zn,Rv,BC,(31,zo),qp 32 [cW,aE,dM 33 qL,a9,cW,tg 34],(33,Rw),(34,aIa),ZU,mO],oA⟩
theorem aWD:sw aa Tryz.f14.ntmps (aI 6 (loops (aC Tryz.f14))) Hm Hm.fa:=AS (t:=[(47,bG (au wU) (au ahP)),(48,au aBY)]) (lt:=[]) (m:=30) (f:=14) (k:=6) ⟨(cS (aw yZ) (aw azU)),(aw a5q),trivial⟩ trivial rfl (λ_=>rfl) rfl (.tf (EE eC) .lf .lf) ⟨trivial,trivial⟩ kr
theorem aWC (E:Env) (hF:ah Hm.fa.fx):0<=N Hm.μ:=by have h:=hF.g (x:=.o2 1 (.v 61) (.v 62)) mh; exact h
theorem axT:ct aa Tryz.f14.ntmps (aI 6 (loops (aC Tryz.f14))) Hm:=aWD.all aWC
end
end Go.Proofs.Y
namespace Go.Z
open Go Go.Sym Go.RowKit
open Go.Ev (T K Ex DH DF a7)
section
def avC (F:Fx) (lp:Lp) (m:Mt) (fr:Fr) (h:Hp):Bool:=OQ F fr lp.s (eM m.1) (aV m.2) && (DT F (eM m.1) m.2 lp.n lp.n' h lp.l lp.l' && (Vh F (eM m.1) lp.fa && oy lp.s'))
def Lf (F:Fx) (s:gk):gk:=s.map λx=>(x.1,nV F x.2)
def gI (lp:Lp) (F:Fx):iv:=λfr h=>
 let m:=A0 lp fr h
 bif avC F lp m fr h then some (lp.ex,bO (Lf F (u0 (eM m.1) (iS (aV m.2) lp.n h.nx) lp.s')),HV F (lp.l'.map λx=>iS (aV m.2) lp.n h.nx x.1) (hOut (eM m.1) (aV m.2) lp.n lp.n' lp.l lp.l' h)) else none
section
variable [Env] {F:Fx} {bs bs' bs1:Nm} {w w':World} {h h':Hp} {I:Info} {P:Program} {nt:Nat} {fr:Fr} {a:Act}
theorem SR.nf (hF:ah F):∀{s:gk},oy s=true->SR bs (bO s) a nt->SR bs (bO (Lf F s)) a nt:=by
 intro s ht hS
 refine⟨hS.defers,hS.size,hS.le,λd v hd hv=>?_⟩
 have key:∀{s:gk},oy s=true->(bO (Lf F s)).get d=some v->∃v0,(bO s).get d=some v0/\v=nV F v0:=by
  intro s
  induction s with
  | nil=>intro _ hh; unfold Lf bO at hh; simp only[List.map_nil] at hh; rw[Go.Ev.T.qd] at hh; cases hh
  | cons x r ih=>
   intro hs hh
   obtain⟨t',v'⟩:=x
   simp only[oy,Ub,ar] at hs
   have h5:t' < 512:=iw hs.1
   rw[show Lf F ((t',v')::r)=(t',nV F v')::Lf F r from rfl,bO,show DF=9 from rfl,Go.Ev.T.qe 9 _ _ _ _ (show t' < 512 from h5) hd] at hh
   rw[bO,show DF=9 from rfl,Go.Ev.T.qe 9 _ _ _ _ (show t' < 512 from h5) hd]
   by_cases e:d=t'
   .rw[if_pos e] at hh ⊢
    cases hh
    exact⟨v',rfl,rfl⟩
   .rw[if_neg e] at hh ⊢
    exact ih hs.2 hh
 obtain⟨v0,h1,rfl⟩:=key ht hv
 obtain⟨u,h2,h3⟩:=hS.get d v0 hd h1
 exact⟨u,h2,agQ hF h3⟩
theorem a9c {σ:Nat->X} {τ:Nat->Nat}:∀{s:gk},oy s=true->oy (u0 σ τ s)=true:=by
 intro s hs
 refine dD.2 λx hx=>?_
 obtain⟨y,hy,rfl⟩:=yn.1 hx
 exact dD.1 hs y hy
theorem aSy {x:Code} {lp:Lp} (hF:ah I.F) (hl:ct P nt x lp):qM P nt (gI lp I.F) x:=by
 intro s h e s' h' he bs a w hS hR Q hq
 unfold gI at he
 dsimp only at he
 obtain⟨hb,he⟩:=cm he
 cases he
 simp only[avC,ar] at hb
 obtain⟨h1,h2,h3,h4⟩:=hb
 obtain⟨hplc,hout⟩:=Qq h2
 refine hl _ (aug hF h3) _ a w (hS.inL hF h1) (hplc.hr hF hR) Q λex a1 w1 hg=>hq ex a1 w1 ?_
 obtain⟨he,bs2,hS2,hR2,hM2⟩:=hg
 obtain⟨o1,o2,o3⟩:=hplc.out hR hout hR2 hM2
 obtain⟨p1,p2⟩:=Lg hF (ids:=lp.l'.map λx=>iS (aV (A0 lp s h).2) lp.n h.nx x.1) o1 o2
 exact⟨he,_,SR.nf hF (a9c h4) (SR.azD o3 h4 hS2),p1,p2⟩
end
end
end Go.Z
namespace Go.Proofs.Y
open Go Go.Z
section
variable {f:FuncId} {P:Program}
theorem iB {k:Nat} {fn:Func} {lp:Lp} (hf:P.funcs[f]?=some fn) (ho:PD k (loops (aC fn))=true) (hl:ct P fn.ntmps (aI k (loops (aC fn))) lp):cA P ((f,k),gI lp):=by
 intro E I hF fn' b hf' hb q hq e
 have hf':P.funcs[f]?=some fn':=hf'
 rw[hf] at hf'
 cases hf'
 have hbo:aC fn=b:=by unfold aC; rw[hb]; rfl
 rw[hbo] at ho hl
 rw[afG ho q hq e]
 exact @aSy E I P _ _ _ hF hl
end
end Go.Proofs.Y
namespace Go.Proofs.Y
open Go Go.Z
section
open Hz
abbrev an6:X:=cJ 60 mg
abbrev RU:X:=bz (.o2 0 bH IL) 60
abbrev aIb:List X:=[th,gP,kV,an6,RU,rO 5000 (bQ 64 RT)]
abbrev aIc:Nat×V:=(1,oI 30 eC .a)
abbrev aId:gk:=[(0,tt 40),aIc,(2,vF),(3,vF),(9,tt 42),(10,lB 60),(11,lB 64)]
abbrev Z2:Nat×Bl:=(40,⟨151,[dM 41 (.v 21),a9,bg,jL],false,0⟩)
abbrev Z3:Nat×Bl:=(42,⟨81,[ag,ag,ag,ft],false,0⟩)
abbrev aIe:ai:=fQ 60
abbrev aIf:Nat×Bl:=(7,nv lz (aF an6) anc (ti mg an6))
abbrev zy:X:=.o2 3 (xP RT 199) jM
abbrev aIg:gk:=[(0,tt 40),aIc,(2,vF),(3,vF),(9,tt 42),(10,gw eC),(11,gw (bQ 64 zy))]
abbrev aIh:ai:=dM 43 jM
abbrev aIi:ai:=dM 44 bA
def K7:Lp:=⟨dT [BH,rK,(64,0,1152921504606846976),lu,jf,fe,gi,iW,jg,nY,ku,iG,jN,iH,Ac,Et,Ad,zj] aIb Zl,aId,43,[Z2,Z3,cQ,cP [cY,ag,bg,cW,a9,iT,eO,aE,dQ,ed,a8,BG,ju,fS,vl,qt,a8,ag,aIe,ag,lv,j5],aIf,mO,Ew,(12,En),Za,kW,kX,eP,Zb,rJ,Zc],.norm,aIg,46,[Z2,Z3,cQ,aHU,jO 3 [lM,te,eY,eY,ag,ft,de,ag,aE,Ms,a8,zu,aIh],Rl,aHC,eP,(10,rI aIi aE ag ams),zn,Rk,(43,zo),qp 44 [a9,aE,Er,a9,cW,tg 45],(45,aHE),ZU,mO],RT⟩
abbrev aIj:X:=.o2 11 (bQ 60 jM) eC
abbrev RV:X:=.o2 3 (xP (.o2 1 eC (bQ 60 jM)) 199) jM
abbrev aIk:X:=ao (.o2 0 (nE 64) RV)
abbrev Z4:X:=ao (bQ 64 zy)
abbrev aIl:X:=ao (nE 64)
abbrev aIm:X:=.o2 11 (Nt bH (.v 60) mg) jM
theorem aYj:sw aa Tryz.f29.ntmps (aI 6 (loops (aC Tryz.f29))) K7 K7.fa:=AS (t:=[]) (lt:=[((14,6),gC (gI AX) (gI Dy))]) (m:=30) (f:=29) (k:=6) trivial ⟨(jE (iB Tryz.func14 kr V9) (iB Tryz.func14 kr agf)),trivial⟩ rfl (λ_=>rfl) rfl (.tf aIj (.same aIk Z4 .lf) (.same aIl Z4 (.tf aIm .lf .lf))) ⟨⟨λE hF=>(aD (by
 have h:N (.v 60)+200 < N eC:=hF.2
 have e1:N RV=(N eC - (N (.v 60)+200)+199) / 200:=@gQ _ E _ _ (by show (0:Int)<=N eC - (N (.v 60)+200)+199; omega)
 have e2:N zy=(N eC - N (.v 60)+199) / 200:=@gQ _ E _ _ (by show (0:Int)<=N eC - N (.v 60)+199; omega)
 show N (.v 64)+1+N RV=N (.v 64)+N zy
 rw[e1,e2]
 omega)),trivial⟩,⟨λE hF=>(aD (by
 have h:N eC<=N (.v 60)+200:=hF.2
 have h3:=hF.1.g (x:=RU) (mt (mt (mt (mt mh))))
 have h3:(0:Int)<=N bH+291 - N (.v 60):=h3
 have h4:N eC=N bH+292:=rfl
 have e2:N zy=(N eC - N (.v 60)+199) / 200:=@gQ _ E _ _ (by show (0:Int)<=N eC - N (.v 60)+199; omega)
 show N (.v 64)+1=N (.v 64)+N zy
 rw[e2]
 omega)),⟨trivial,trivial⟩⟩⟩ kr
theorem aYh (E:Env) (hF:ah K7.fa.fx):0<=N K7.μ:=by
 have h3:=hF.g (x:=RU) (mt (mt (mt (mt mh))))
 have h3:(0:Int)<=N bH+291 - N (.v 60):=h3
 have h4:N eC=N bH+292:=rfl
 show (0:Int)<=N eC - N (.v 60)
 omega
theorem aYi:ct aa Tryz.f29.ntmps (aI 6 (loops (aC Tryz.f29))) K7:=aYj.all aYh
def K8:Lp:=⟨dT [BH,rK,(64,0,1152921504606846976),lu,jf,fe,gi,iW,jg,nY,ku,iG,jN,iH,tS,tT,F4,tU,Ac,Et,Ad,zj] aIb Zt,aId,43,[Z2,Z3,cQ,cP [cY,aE,bg,lz,a9,iT,eO,aE,dQ,ed,a8,BG,ju,fS,vl,qt,a8,ag,aIe,ag,lv,j5],aIf,mO,Ew,(12,Ey),Zu,kW,kX,eP,Zv,rJ,BC],.norm,aIg,47,[Z2,Z3,cQ,aHF,jO 3 [lM,ag,vZ,v7,v8,tX,de,aE,aE,Ms,a8,zu,aIh],Rt,aHH,eP,(10,rI aIi cW aE amH),zn,Rv,BC,(43,zo),qp 44 [cW,aE,dM 45 qL,a9,cW,tg 46],(45,Rw),(46,aIa),ZU,mO],RT⟩
theorem aYm:sw aa Tryz.f29.ntmps (aI 6 (loops (aC Tryz.f29))) K8 K8.fa:=AS (t:=[]) (lt:=[((14,6),gC (gI AX) (gI Hm))]) (m:=30) (f:=29) (k:=6) trivial ⟨(jE (iB Tryz.func14 kr V9) (iB Tryz.func14 kr axT)),trivial⟩ rfl (λ_=>rfl) rfl (.tf aIj (.same aIk Z4 .lf) (.same aIl Z4 (.tf aIm .lf .lf))) ⟨⟨λE hF=>(aD (by
 have h:N (.v 60)+200 < N eC:=hF.2
 have e1:N RV=(N eC - (N (.v 60)+200)+199) / 200:=@gQ _ E _ _ (by show (0:Int)<=N eC - (N (.v 60)+200)+199; omega)
 have e2:N zy=(N eC - N (.v 60)+199) / 200:=@gQ _ E _ _ (by show (0:Int)<=N eC - N (.v 60)+199; omega)
 show N (.v 64)+1+N RV=N (.v 64)+N zy
 rw[e1,e2]
 omega)),trivial⟩,⟨λE hF=>(aD (by
 have h:N eC<=N (.v 60)+200:=hF.2
 have h3:=hF.1.g (x:=RU) (mt (mt (mt (mt mh))))
 have h3:(0:Int)<=N bH+291 - N (.v 60):=h3
 have h4:N eC=N bH+292:=rfl
 have e2:N zy=(N eC - N (.v 60)+199) / 200:=@gQ _ E _ _ (by show (0:Int)<=N eC - N (.v 60)+199; omega)
 show N (.v 64)+1=N (.v 64)+N zy
 rw[e2]
 omega)),⟨trivial,trivial⟩⟩⟩ kr
theorem aYk (E:Env) (hF:ah K8.fa.fx):0<=N K8.μ:=by
 have h3:=hF.g (x:=RU) (mt (mt (mt (mt mh))))
 have h3:(0:Int)<=N bH+291 - N (.v 60):=h3
 have h4:N eC=N bH+292:=rfl
 show (0:Int)<=N eC - N (.v 60)
 omega
theorem aYl:ct aa Tryz.f29.ntmps (aI 6 (loops (aC Tryz.f29))) K8:=aYm.all aYk
def ll:X:=adl
def jX:X:=(.f 1050 (.c (.v 40) (.c (.v 41) (.c (.v 42) (.c (.v 43) .n)))))
abbrev zz(a:X):X:=.o2 14 ll a
def wM:X:=sc (zz bA) (zz cq)
def D6:X:=tM (tM (sc (zz bM) (zz g7)) (zz rQ) ya) (zz jh) tp
abbrev vm(a:X):X:=.o2 14 jX a
def d9:X:=sc (vm bA) (vm cq)
def va:X:=tM (tM (sc (vm bM) (vm g7)) (vm rQ) ya) (vm jh) tp
theorem akv {k k' s s' b b' n n':R} (hk:k 0=k' 0) (hs:s 0=s' 0) (hn:n 0=n' 0) (hb:∀q:Nat,(q:Int) < n 0->b q=b' q):lq k s b n=lq k' s' b' n':=by
 have e1:O1 3 n=O1 3 n':=by funext q; show (wk 3).wrap (n 0)=(wk 3).wrap (n' 0); rw[hn]
 have e2:O2 10 n (kR 8)=O2 10 n' (kR 8):=by funext q; show (((n 0).toNat>>>_:Nat):Int)=(((n' 0).toNat>>>_:Nat):Int); rw[hn]
 have e3:O1 3 s=O1 3 s':=by funext q; show (wk 3).wrap (s 0)=(wk 3).wrap (s' 0); rw[hs]
 have e4:∀i,O2 10 s (kR i)=O2 10 s' (kR i):=λi=>by funext q; show (((s 0).toNat>>>_:Nat):Int)=(((s' 0).toNat>>>_:Nat):Int); rw[hs]
 have e5:∀c,O3 0 b n c=O3 0 b' n' c:=λc=>by
  funext q
  show (if (q:Int) < n 0 then b q else c (q - (n 0).toNat))=(if (q:Int) < n' 0 then b' q else c (q - (n' 0).toNat))
  rw[<- hn]
  by_cases h:(q:Int) < n 0
  .rw[if_pos h,if_pos h,hb q h]
  .rw[if_neg h,if_neg h]
 have e6:∀c,O3 0 k (kR 1) c=O3 0 k' (kR 1) c:=λc=>by
  funext q
  show (if (q:Int) < 1 then k q else c (q - 1))=(if (q:Int) < 1 then k' q else c (q - 1))
  by_cases h:(q:Int) < 1
  .have:q=0:=by omega
   subst this
   rw[if_pos h,if_pos h,hk]
  .rw[if_neg h,if_neg h]
 have e7:O2 0 n (kR 8)=O2 0 n' (kR 8):=by funext q; show n 0+8=n' 0+8; rw[hn]
 unfold lq
 simp only[e1,e2,e3,e4,e5,e6,e7]
theorem a8K {k k' s s':R} (hk:k 0=k' 0) (hs:s 0=s' 0):LD k s=LD k' s':=by
 have e3:O1 3 s=O1 3 s':=by funext q; show (wk 3).wrap (s 0)=(wk 3).wrap (s' 0); rw[hs]
 have e4:∀i,O2 10 s (kR i)=O2 10 s' (kR i):=λi=>by funext q; show (((s 0).toNat>>>_:Nat):Int)=(((s' 0).toNat>>>_:Nat):Int); rw[hs]
 have e6:∀c,O3 0 k (kR 1) c=O3 0 k' (kR 1) c:=λc=>by
  funext q
  show (if (q:Int) < 1 then k q else c (q - 1))=(if (q:Int) < 1 then k' q else c (q - 1))
  by_cases h:(q:Int) < 1
  .have:q=0:=by omega
   subst this
   rw[if_pos h,if_pos h,hk]
  .rw[if_neg h,if_neg h]
 unfold LD
 simp only[e3,e4,e6]
theorem a8M (k s b n:R):lq k s b n 0=k 0:=kr
theorem a8N (k s b n:R):lq k s b n 2=n 0 % 256:=kr
theorem a8O (k s b n:R):lq k s b n 3=O2 10 n (kR 8) 0:=kr
theorem a8L (k s b n:R) (q:Nat) (h:(q:Int) < n 0):lq k s b n (q+8)=b q:=by
 have sk:∀(a c:R) (j:Nat),O3 0 a (kR 1) c (j+1)=c j:=λa c j=>by
  show (if ((j+1:Nat):Int) < 1 then a (j+1) else c (j+1 - 1))=_
  rw[if_neg om]; rfl
 unfold lq
 rw[sk _ _ (q+7),sk _ _ (q+6),sk _ _ (q+5),sk _ _ (q+4),sk _ _ (q+3),sk _ _ (q+2),sk _ _ (q+1),sk _ _ q]
 show O3 0 b n _ q=_; exact if_pos h
theorem XO {a:Int} (h:0<=a) (k:Nat):((a.toNat>>>k:Nat):Int)=a / ((2 ^ k:Nat):Int):=by
 rw[qQ]
 have e:((a.toNat:Nat):Int)=a:=yl h
 rw[adR,e]
theorem Pt {E:Env} {x y:X} {n:Int} (h0:0<=n) (h1:n<=65535) (a:N x=n % 256) (b:N y=n / 256):N (.o2 6 x (.o2 2 y cV))=n:=
 (pj (k:=8) (m:=256) rfl a b om om om).trans om
theorem XR {E:Env} {x y z w:X} {n:Int} (h0:0<=n) (h1:n<=4294967295) (a:N x=n % 256) (b:N y=n / 256 % 256) (c:N z=n / 65536 % 256) (d:N w=n / 16777216):N (.o2 6 (.o2 6 (.o2 6 x (.o2 2 y cV)) (.o2 2 z ya)) (.o2 2 w tp))=n:=
 (pj (k:=24) (m:=16777216) rfl (pj (k:=16) (m:=65536) rfl (pj (k:=8) (m:=256) rfl a b om om om) c om om om) d om om om).trans om
theorem u7 {E:Env} {x n:X} (b:1<=N n/\N n<=512) (e:N x=N n) (m:N (.o2 12 (.o2 4 (.o2 0 n aH) aH) ae)≠0):N (.o2 2 (.o2 3 (.o2 0 x jh) aH) aH)=N n:=by
 have m2:tf (decide (Int.tmod (N n+8) 8=0))≠0:=m
 have m3:Int.tmod (N n+8) 8=0:=by
  by_cases h:Int.tmod (N n+8) 8=0
  .exact h
  .rw[decide_eq_false h] at m2; exact absurd rfl m2
 rw[JY om] at m3
 show Int.tdiv (N x+7) 8*8=N n
 rw[e,ar4 om]
 omega
theorem agH {E:Env} {x n:X} (e:N x=N n) (m:decide (N (.o2 12 (.o2 4 (.o2 0 n aH) aH) ae)≠0)=true):decide (N (.o2 12 (.o2 4 (.o2 0 x aH) aH) ae)≠0)=true:=by
 have h:N (.o2 12 (.o2 4 (.o2 0 x aH) aH) ae)=N (.o2 12 (.o2 4 (.o2 0 n aH) aH) ae):=by
  show tf (decide (Int.tmod (N x+8) 8=0))=tf (decide (Int.tmod (N n+8) 8=0))
  rw[e]
 rw[h]; exact m
section
variable {E:Env} (h40:1<=@N _ E (.v 40)/\@N _ E (.v 40)<=250) (h41:0<=@N _ E (.v 41)/\@N _ E (.v 41)<=4294967295) (h43:1<=@N _ E (.v 43)/\@N _ E (.v 43)<=512)
abbrev tj:X:=pM jX
include h40 in
theorem uX:N tj=N (.v 40):=by
 have e:N tj=Lz.az 0 255 (lq (D (.v 40)) (D (.v 41)) (D (.v 42)) (D (.v 43)) 0):=kr
 rw[e,a8M]; exact Lz.a6 (show 0<=N (.v 40) by omega) (show N (.v 40)<=255 by omega)
include h43 in
theorem gW:N d9=N (.v 43):=by
 have e2:N (vm bA)=Lz.az 0 255 (lq (D (.v 40)) (D (.v 41)) (D (.v 42)) (D (.v 43)) 2):=kr
 have e3:N (vm cq)=Lz.az 0 255 (lq (D (.v 40)) (D (.v 41)) (D (.v 42)) (D (.v 43)) 3):=kr
 have s:O2 10 (D (.v 43)) (kR 8) 0=N (.v 43) / 256:=(XO (a:=N (.v 43)) om 8).trans (by rw[show ((2 ^ 8:Nat):Int)=256 from rfl])
 have a:Lz.az 0 255 (lq (D (.v 40)) (D (.v 41)) (D (.v 42)) (D (.v 43)) 2)=N (.v 43) % 256:=by rw[a8N]; exact Lz.a6 (show 0<=N (.v 43) % 256 by omega) (show N (.v 43) % 256<=255 by omega)
 have b:Lz.az 0 255 (lq (D (.v 40)) (D (.v 41)) (D (.v 42)) (D (.v 43)) 3)=N (.v 43) / 256:=by rw[a8O,s]; exact Lz.a6 om om
 exact Pt om om (e2.trans a) (e3.trans b)
include h41 in
theorem aEu:(Lz.az 0 255 (O2 10 (D (.v 41)) (kR 8) 0 % 256)=N (.v 41) / 256 % 256/\Lz.az 0 255 (O2 10 (D (.v 41)) (kR 16) 0 % 256)=N (.v 41) / 65536 % 256)/\(Lz.az 0 255 (O2 10 (D (.v 41)) (kR 24) 0)=N (.v 41) / 16777216/\Lz.az 0 255 (D (.v 41) 0 % 256)=N (.v 41) % 256):=by
 have s1:O2 10 (D (.v 41)) (kR 8) 0=N (.v 41) / 256:=(XO (a:=N (.v 41)) om 8).trans (by rw[show ((2 ^ 8:Nat):Int)=256 from rfl])
 have s2:O2 10 (D (.v 41)) (kR 16) 0=N (.v 41) / 65536:=(XO (a:=N (.v 41)) om 16).trans (by rw[show ((2 ^ 16:Nat):Int)=65536 from rfl])
 have s3:O2 10 (D (.v 41)) (kR 24) 0=N (.v 41) / 16777216:=(XO (a:=N (.v 41)) om 24).trans (by rw[show ((2 ^ 24:Nat):Int)=16777216 from rfl])
 rw[s1,s2,s3]
 exact⟨⟨Lz.a6 om om,Lz.a6 om om⟩,⟨Lz.a6 om om,Lz.a6 (show 0<=N (.v 41) % 256 by omega) (show N (.v 41) % 256<=255 by omega)⟩⟩
include h41 in
theorem uY:N va=N (.v 41):=by
 obtain⟨⟨s1,s2⟩,⟨s3,s0⟩⟩:=aEu h41
 have e4:N (vm bM)=Lz.az 0 255 (D (.v 41) 0 % 256):=kr
 have e5:N (vm g7)=Lz.az 0 255 (O2 10 (D (.v 41)) (kR 8) 0 % 256):=kr
 have e6:N (vm rQ)=Lz.az 0 255 (O2 10 (D (.v 41)) (kR 16) 0 % 256):=kr
 have e7:N (vm jh)=Lz.az 0 255 (O2 10 (D (.v 41)) (kR 24) 0):=kr
 exact XR h41.1 h41.2 (e4.trans s0) (e5.trans s1) (e6.trans s2) (e7.trans s3)
abbrev BJ:X:=pM ll
include h40 in
theorem XA:N BJ=N (.v 40):=by
 have e:N BJ=Lz.az 0 255 (D (.v 40) 0):=kr
 rw[e]; exact Lz.a6 (show 0<=N (.v 40) by omega) (show N (.v 40)<=255 by omega)
theorem DZ:N wM=0:=kr
include h41 in
theorem XB:N D6=N (.v 41):=by
 obtain⟨⟨s1,s2⟩,⟨s3,s0⟩⟩:=aEu h41
 have e4:N (zz bM)=Lz.az 0 255 (D (.v 41) 0 % 256):=kr
 have e5:N (zz g7)=Lz.az 0 255 (O2 10 (D (.v 41)) (kR 8) 0 % 256):=kr
 have e6:N (zz rQ)=Lz.az 0 255 (O2 10 (D (.v 41)) (kR 16) 0 % 256):=kr
 have e7:N (zz jh)=Lz.az 0 255 (O2 10 (D (.v 41)) (kR 24) 0):=kr
 exact XR h41.1 h41.2 (e4.trans s0) (e5.trans s1) (e6.trans s2) (e7.trans s3)
abbrev xz:X:=.o2 15 jX aH
theorem LF (h42:∀q,0<=D (.v 42) q/\D (.v 42) q<=255) (q:Nat) (h:(q:Int) < N (.v 43)):D xz q=D (.v 42) q:=by
 have e:D xz q=Lz.az 0 255 (lq (D (.v 40)) (D (.v 41)) (D (.v 42)) (D (.v 43)) (q+8)):=kr
 rw[e,a8L _ _ _ _ q h]
 exact Lz.a6 (h42 q).1 (h42 q).2
end
abbrev RW:Bl:=⟨5,qH ae ae,false,0⟩
abbrev aH7:V:=lH 1 dA
def aB4:Sp:=kT aPi [.agg [TR,qA,vv 0 ae .a]] [(0,RW)] aH7 (0,RW) (1,aPk)
def aB3:Sp:={aB4 with v:=aH7,l':=[(0,RW),cj 1 dA ll]}
theorem a5z:ab aa 231 aB4:=aG (t:=[(285,au WQ)]) (lt:=[]) (m:=30) ⟨(aw ah1),trivial⟩ trivial .lf kr
theorem a5A:ab aa 231 aB3:=aL a5z [((bk Ig dA),(bk ll dA))] _ _ (al (λE hF=>(aq (λq _=>by
 have b:=cO hF.vb Ig 0 255 kr q
 have e:D ll q=Lz.az 0 255 (D Ig q):=kr
 rw[e,Lz.a6 b.1 b.2]) _))<|aN) kr
abbrev aH8:List V:=[oI 0 (.v 45) .a]
abbrev anO:Nat×Bl:=z8 0 (.v 45) (.o3 0 ll dA (.v 44))
abbrev Mx:X:=Ff (.o2 0 wM jh)
abbrev IM:X:=.o2 2 Mx aH
def aAO:Sp:=kT (cI [(40,1,250),adk,(44,0,255),(45,16,1048576)]) aH8 [anO] (xy [aF BJ,aF D6,vv 1 wM (.k ae)] (nM (.o2 0 IM dA)) vw) anO (1,RW)
def aAN:Sp:={aAO with v:=xy [TR,qA,vv 1 ae (.k ae)] (nM dA) vw,l':=[anO,(1,RW)]}
theorem a3J:ab aa 225 aAO:=dj (t:=[(231,au aB3)]) (lt:=[]) (m:=30) ⟨(aw a5A),trivial⟩ trivial (.ge (rY wM) (.ge (Br wM) (.ge (rY Mx) (.ge (Br Mx) (.ge (rY IM) (.ge (Br IM) (.ge (bz BJ 40) (.ge (cJ 40 BJ) (.ge (bz D6 41) (.ge (cJ 41 D6) (.same (.f 1051 (di BJ D6)) ll .lf))))))))))) ⟨λE hF=>dP (DZ),⟨λE hF=>dR (DZ),(uV (λE hF=>by
 have e:N Mx=N ae:=(by
 show Int.tdiv (N wM+7) 8=0
 rw[DZ]; rfl)
 refine⟨?_,?_⟩
 .show (0:Int)<=N Mx - N ae
  omega
 .show (0:Int)<=N ae - N Mx
  omega) (uV (λE hF=>by
 have e:N IM=N ae:=(by
 show Int.tdiv (N wM+7) 8*8=0
 rw[DZ]; rfl)
 refine⟨?_,?_⟩
 .show (0:Int)<=N IM - N ae
  omega
 .show (0:Int)<=N ae - N IM
  omega) (⟨λE hF=>dP (XA (hF.b 40 rfl)),⟨λE hF=>dR (XA (hF.b 40 rfl)),⟨λE hF=>dP (XB (hF.b 41 rfl)),⟨λE hF=>dR (XB (hF.b 41 rfl)),⟨λE hF=>(by
 have a:=XA (hF.b 40 rfl)
 have b:=XB (hF.b 41 rfl)
 have c:=a8K (k:=D BJ) (k':=D (.v 40)) (s:=D D6) (s':=D (.v 41)) a b
 show dI (LD (D BJ) (D D6))=dI (LD (D (.v 40)) (D (.v 41)))
 rw[c]),df rfl⟩⟩⟩⟩⟩)))⟩⟩ kr
abbrev Z1:X:=fP 40
theorem a3K:ab aa 225 aAN:=aL a3J [((ao BJ),Z1),((ao D6),Jj),((ao wM),FM),((ao (.o2 0 IM dA)),(ao dA))] _ _ (al (λE hF=>aD (XA (hF.b 40 rfl)))<|al (λE hF=>aD (XB (hF.b 41 rfl)))<|al (λE hF=>aD DZ)<|al (λE hF=>aD (show Int.tdiv (N wM+7) 8*8+16=16 by rw[DZ]; rfl))<|aN) kr
abbrev anP:VB:=[(40,1,250),adk,(42,0,255),(43,1,512),(44,0,255),(45,16,1048576),(46,16,1048576),(51,0,255),(52,0,255),Jf]
abbrev My:X:=cJ 46 CH
abbrev aH9:X:=cJ 45 (bQ 46 dA)
abbrev anQ:X:=.o3 0 jX CH (.v 44)
abbrev anR:Nat×Bl:=z8 0 (.v 45) (.o3 0 (.v 51) dA anQ)
abbrev gZ:X:=.o2 2 (Ff (.o2 0 d9 jh)) aH
abbrev anS:X:=.o2 0 gZ dA
abbrev anT:V:=xy [aF tj,aF va,dM 1 d9] (nM anS) vw
abbrev anU:Nat×Bl:=cj 1 d9 xz
def aAQ:Sp:=kT (nK anP [My,aH9] pV) [tA 0 dA (.v 46) .a] [anR] anT anR anU
abbrev anV:V:=xy [TR,qA,dM 1 (.v 43)] (nM CH) vw
def aAP:Sp:={aAQ with v:=anV,l':=[anR,(1,NR)]}
abbrev anW:X:=bz d9 43
abbrev anX:X:=cJ 43 d9
abbrev anY:X:=bz gZ 43
abbrev anZ:X:=cJ 43 gZ
abbrev an0:X:=bz tj 40
abbrev an1:X:=cJ 40 tj
abbrev an2:X:=bz va 41
abbrev an3:X:=cJ 41 va
abbrev an4:X:=Cw (.o2 0 d9 aH)
abbrev an5:X:=.f 1050 (iF tj va xz d9 .n)
abbrev anE:X:=cJ 46 (.o2 0 d9 dA)
abbrev anF:X:=cJ 46 anS
theorem a3L:ab aa 225 aAQ:=dj (t:=[(231,au wW)]) (lt:=[]) (m:=30) ⟨(aw y5),trivial⟩ trivial (.ge anW (.ge anX (.ge anY (.ge anZ (.ge an0 (.ge an1 (.ge an2 (.ge an3 (.is an4 true (.same an5 jX (.ge (cJ 45 (.o2 0 d9 oV)) (.ge anE (.ge (cJ 45 (.o2 0 gZ bW)) (.ge anF .lf)))))))))))))) ⟨λE hF=>dP (gW (hF.b 43 rfl)),⟨λE hF=>dR (gW (hF.b 43 rfl)),(uV (λE hF=>by
 have e:N gZ=N (.v 43):=(by
 have e:N d9=N (.v 43):=gW (hF.b 43 rfl)
 have m:=hF.t (x:=pV) (b:=true) mh
 exact u7 (hF.b 43 rfl) e (of_decide_eq_true m))
 refine⟨?_,?_⟩
 .show (0:Int)<=N gZ - N (.v 43)
  omega
 .show (0:Int)<=N (.v 43) - N gZ
  omega) (⟨λE hF=>dP (uX (hF.b 40 rfl)),⟨λE hF=>dR (uX (hF.b 40 rfl)),⟨λE hF=>dP (uY (hF.b 41 rfl)),⟨λE hF=>dR (uY (hF.b 41 rfl)),⟨λE hF=>(by
 have e:N d9=N (.v 43):=gW (hF.b 43 rfl)
 have m:=hF.t (x:=pV) (b:=true) mh
 exact agH e m),⟨λE hF=>(by
 have a:=uX (hF.b 40 rfl)
 have b:=uY (hF.b 41 rfl)
 have d:=gW (hF.b 43 rfl)
 have c:=akv (k:=D tj) (k':=D (.v 40)) (s:=D va) (s':=D (.v 41)) (b:=D xz) (b':=D (.v 42)) (n:=D d9) (n':=D (.v 43)) a b d (λq h=>LF (λq=>cO hF.vb (.v 42) 0 255 kr q) q (d▸h))
 show dI (lq (D tj) (D va) (D xz) (D d9))=dI (lq (D (.v 40)) (D (.v 41)) (D (.v 42)) (D (.v 43)))
 rw[c]),HY (λE hF=>by
 have e1:N d9=N (.v 43):=gW (hF.b 43 rfl)
 have e2:N gZ=N (.v 43):=by
  have e:N d9=N (.v 43):=gW (hF.b 43 rfl)
  have m:=hF.t (x:=pV) (b:=true) mh
  exact u7 (hF.b 43 rfl) e (of_decide_eq_true m)
 have h1:=hF.g (x:=My) mh
 have h2:=hF.g (x:=aH9) (mt mh)
 have h1:0<=N (.v 46) - (N (.v 43)+16):=h1
 have h2:0<=N (.v 45) - (N (.v 46)+16):=h2
 refine⟨?_,?_,?_,?_⟩
 .show 0<=N (.v 45) - (N d9+24)
  omega
 .show 0<=N (.v 46) - (N d9+16)
  omega
 .show 0<=N (.v 45) - (N gZ+32)
  omega
 .show 0<=N (.v 46) - (N gZ+16)
  omega) (df rfl)⟩⟩⟩⟩⟩⟩))⟩⟩ kr
abbrev anG:X:=ao tj
abbrev anH:X:=ao va
abbrev anI:X:=ao d9
abbrev anJ:X:=fP 43
abbrev anK:X:=ao anS
abbrev anL:X:=ao CH
abbrev anM:X:=bk xz d9
abbrev anN:X:=zU 42 d9
theorem a3M:ab aa 225 aAP:=aL a3L [(anG,Z1),(anH,Jj),(anI,anJ),(anK,anL),(anM,anN)] _ _ (al (λE hF=>aD (uX (hF.b 40 rfl)))<|al (λE hF=>aD (uY (hF.b 41 rfl)))<|al (λE hF=>aD (gW (hF.b 43 rfl)))<|al (λE hF=>(aD (by
 have e:N gZ=N (.v 43):=by
  have e:N d9=N (.v 43):=gW (hF.b 43 rfl)
  have m:=hF.t (x:=pV) (b:=true) mh
  exact u7 (hF.b 43 rfl) e (of_decide_eq_true m)
 show N gZ+16=N (.v 43)+16
 rw[e])))<|al (λE hF=>(aq (λq hq=>LF (λq=>cO hF.vb (.v 42) 0 255 kr q) q (by have e:N d9=N (.v 43):=gW (hF.b 43 rfl); rw[<- e]; exact hq)) _))<|aN) kr
abbrev aID:X:=cJ 45 (bQ 46 Em)
abbrev aoj:Nat×Bl:=z8 0 (.v 45) (oY 51 dA (.v 52) il anQ)
def aAS:Sp:=kT (nK anP [My,aID] pV) [tA 0 Em (.v 46) .a] [aoj] anT aoj anU
def aAR:Sp:={aAS with v:=anV,l':=[aoj,(1,NR)]}
theorem a3N:ab aa 225 aAS:=dj (t:=[(231,au wW)]) (lt:=[]) (m:=30) ⟨(aw y5),trivial⟩ trivial (.ge anW (.ge anX (.ge anY (.ge anZ (.ge an0 (.ge an1 (.ge an2 (.ge an3 (.is an4 true (.same an5 jX (.ge (cJ 45 (xP d9 272)) (.ge anE (.ge (cJ 45 (xP gZ 280)) (.ge anF .lf)))))))))))))) ⟨λE hF=>dP (gW (hF.b 43 rfl)),⟨λE hF=>dR (gW (hF.b 43 rfl)),(uV (λE hF=>by
 have e:N gZ=N (.v 43):=(by
 have e:N d9=N (.v 43):=gW (hF.b 43 rfl)
 have m:=hF.t (x:=pV) (b:=true) mh
 exact u7 (hF.b 43 rfl) e (of_decide_eq_true m))
 refine⟨?_,?_⟩
 .show (0:Int)<=N gZ - N (.v 43)
  omega
 .show (0:Int)<=N (.v 43) - N gZ
  omega) (⟨λE hF=>dP (uX (hF.b 40 rfl)),⟨λE hF=>dR (uX (hF.b 40 rfl)),⟨λE hF=>dP (uY (hF.b 41 rfl)),⟨λE hF=>dR (uY (hF.b 41 rfl)),⟨λE hF=>(by
 have e:N d9=N (.v 43):=gW (hF.b 43 rfl)
 have m:=hF.t (x:=pV) (b:=true) mh
 exact agH e m),⟨λE hF=>(by
 have a:=uX (hF.b 40 rfl)
 have b:=uY (hF.b 41 rfl)
 have d:=gW (hF.b 43 rfl)
 have c:=akv (k:=D tj) (k':=D (.v 40)) (s:=D va) (s':=D (.v 41)) (b:=D xz) (b':=D (.v 42)) (n:=D d9) (n':=D (.v 43)) a b d (λq h=>LF (λq=>cO hF.vb (.v 42) 0 255 kr q) q (d▸h))
 show dI (lq (D tj) (D va) (D xz) (D d9))=dI (lq (D (.v 40)) (D (.v 41)) (D (.v 42)) (D (.v 43)))
 rw[c]),HY (λE hF=>by
 have e1:N d9=N (.v 43):=gW (hF.b 43 rfl)
 have e2:N gZ=N (.v 43):=by
  have e:N d9=N (.v 43):=gW (hF.b 43 rfl)
  have m:=hF.t (x:=pV) (b:=true) mh
  exact u7 (hF.b 43 rfl) e (of_decide_eq_true m)
 have h1:=hF.g (x:=My) mh
 have h2:=hF.g (x:=aID) (mt mh)
 have h1:0<=N (.v 46) - (N (.v 43)+16):=h1
 have h2:0<=N (.v 45) - (N (.v 46)+264):=h2
 refine⟨?_,?_,?_,?_⟩
 .show 0<=N (.v 45) - (N d9+272)
  omega
 .show 0<=N (.v 46) - (N d9+16)
  omega
 .show 0<=N (.v 45) - (N gZ+280)
  omega
 .show 0<=N (.v 46) - (N gZ+16)
  omega) (df rfl)⟩⟩⟩⟩⟩⟩))⟩⟩ kr
theorem a3O:ab aa 225 aAR:=aL a3N [(anG,Z1),(anH,Jj),(anI,anJ),(anK,anL),(anM,anN)] _ _ (al (λE hF=>aD (uX (hF.b 40 rfl)))<|al (λE hF=>aD (uY (hF.b 41 rfl)))<|al (λE hF=>aD (gW (hF.b 43 rfl)))<|al (λE hF=>(aD (by
 have e:N gZ=N (.v 43):=by
  have e:N d9=N (.v 43):=gW (hF.b 43 rfl)
  have m:=hF.t (x:=pV) (b:=true) mh
  exact u7 (hF.b 43 rfl) e (of_decide_eq_true m)
 show N gZ+16=N (.v 43)+16
 rw[e])))<|al (λE hF=>(aq (λq hq=>LF (λq=>cO hF.vb (.v 42) 0 255 kr q) q (by have e:N d9=N (.v 43):=gW (hF.b 43 rfl); rw[<- e]; exact hq)) _))<|aN) kr
abbrev aIE:X:=cJ 45 (bQ 46 Rn)
abbrev aok:Nat×Bl:=z8 0 (.v 45) (oY 51 dA (.v 52) il (.o3 0 (.v 53) il anQ))
def aAU:Sp:=kT (nK anP [My,aIE] pV) [tA 0 Rn (.v 46) .a] [aok] anT aok anU
def aAT:Sp:={aAU with v:=anV,l':=[aok,(1,NR)]}
theorem a3P:ab aa 225 aAU:=dj (t:=[(231,au wW)]) (lt:=[]) (m:=30) ⟨(aw y5),trivial⟩ trivial (.ge anW (.ge anX (.ge anY (.ge anZ (.ge an0 (.ge an1 (.ge an2 (.ge an3 (.is an4 true (.same an5 jX (.ge (cJ 45 (xP d9 520)) (.ge anE (.ge (cJ 45 (xP gZ 528)) (.ge anF .lf)))))))))))))) ⟨λE hF=>dP (gW (hF.b 43 rfl)),⟨λE hF=>dR (gW (hF.b 43 rfl)),(uV (λE hF=>by
 have e:N gZ=N (.v 43):=(by
 have e:N d9=N (.v 43):=gW (hF.b 43 rfl)
 have m:=hF.t (x:=pV) (b:=true) mh
 exact u7 (hF.b 43 rfl) e (of_decide_eq_true m))
 refine⟨?_,?_⟩
 .show (0:Int)<=N gZ - N (.v 43)
  omega
 .show (0:Int)<=N (.v 43) - N gZ
  omega) (⟨λE hF=>dP (uX (hF.b 40 rfl)),⟨λE hF=>dR (uX (hF.b 40 rfl)),⟨λE hF=>dP (uY (hF.b 41 rfl)),⟨λE hF=>dR (uY (hF.b 41 rfl)),⟨λE hF=>(by
 have e:N d9=N (.v 43):=gW (hF.b 43 rfl)
 have m:=hF.t (x:=pV) (b:=true) mh
 exact agH e m),⟨λE hF=>(by
 have a:=uX (hF.b 40 rfl)
 have b:=uY (hF.b 41 rfl)
 have d:=gW (hF.b 43 rfl)
 have c:=akv (k:=D tj) (k':=D (.v 40)) (s:=D va) (s':=D (.v 41)) (b:=D xz) (b':=D (.v 42)) (n:=D d9) (n':=D (.v 43)) a b d (λq h=>LF (λq=>cO hF.vb (.v 42) 0 255 kr q) q (d▸h))
 show dI (lq (D tj) (D va) (D xz) (D d9))=dI (lq (D (.v 40)) (D (.v 41)) (D (.v 42)) (D (.v 43)))
 rw[c]),HY (λE hF=>by
 have e1:N d9=N (.v 43):=gW (hF.b 43 rfl)
 have e2:N gZ=N (.v 43):=by
  have e:N d9=N (.v 43):=gW (hF.b 43 rfl)
  have m:=hF.t (x:=pV) (b:=true) mh
  exact u7 (hF.b 43 rfl) e (of_decide_eq_true m)
 have h1:=hF.g (x:=My) mh
 have h2:=hF.g (x:=aIE) (mt mh)
 have h1:0<=N (.v 46) - (N (.v 43)+16):=h1
 have h2:0<=N (.v 45) - (N (.v 46)+512):=h2
 refine⟨?_,?_,?_,?_⟩
 .show 0<=N (.v 45) - (N d9+520)
  omega
 .show 0<=N (.v 46) - (N d9+16)
  omega
 .show 0<=N (.v 45) - (N gZ+528)
  omega
 .show 0<=N (.v 46) - (N gZ+16)
  omega) (df rfl)⟩⟩⟩⟩⟩⟩))⟩⟩ kr
theorem a3Q:ab aa 225 aAT:=aL a3P [(anG,Z1),(anH,Jj),(anI,anJ),(anK,anL),(anM,anN)] _ _ (al (λE hF=>aD (uX (hF.b 40 rfl)))<|al (λE hF=>aD (uY (hF.b 41 rfl)))<|al (λE hF=>aD (gW (hF.b 43 rfl)))<|al (λE hF=>(aD (by
 have e:N gZ=N (.v 43):=by
  have e:N d9=N (.v 43):=gW (hF.b 43 rfl)
  have m:=hF.t (x:=pV) (b:=true) mh
  exact u7 (hF.b 43 rfl) e (of_decide_eq_true m)
 show N gZ+16=N (.v 43)+16
 rw[e])))<|al (λE hF=>(aq (λq hq=>LF (λq=>cO hF.vb (.v 42) 0 255 kr q) q (by have e:N d9=N (.v 43):=gW (hF.b 43 rfl); rw[<- e]; exact hq)) _))<|aN) kr
abbrev aIF:List (Nat×Bl):=[z8 0 (.v 45) (.v 44)]
abbrev aIG:V:=xy [ag,ag,fE] oM aay
def ail:Sp:=⟨dT [(44,0,255),(45,16,1048576)] [] [Eo (cy 44 FA)],aH8,1,aIF,aIG,1,aIF⟩
abbrev aIH:X:=mZ (fZ 44 bA) 44 cq cV
abbrev aII:X:=.o2 1 aIH (.i 65535)
abbrev aIJ:X:=rO 65535 aIH
theorem aAV:ab aa 225 ail:=dj (t:=[]) (lt:=[]) (m:=30) trivial trivial (.ge aII (.ge aIJ .lf)) ⟨λE hF=>dP (Pt (n:=65535) dc dc (od (n:=.i 8) (hF.t mh) 2 (show ((2:Nat):Int) < 8 by decide)) (od (n:=.i 8) (hF.t mh) 3 (show ((3:Nat):Int) < 8 by decide))),⟨λE hF=>dR (Pt (n:=65535) dc dc (od (n:=.i 8) (hF.t mh) 2 (show ((2:Nat):Int) < 8 by decide)) (od (n:=.i 8) (hF.t mh) 3 (show ((3:Nat):Int) < 8 by decide))),df rfl⟩⟩ kr
abbrev aIK:List (Nat×Bl):=[z8 0 gO (mq (.v 51) dA (.v 52) il (.v 53) il (.v 54) xR (.v 44))]
def aAW:Sp:=⟨dT [(44,0,255),(51,0,255),(52,0,255),Jf,(54,0,255)] [] [Eo (cy 44 FA)],[tA 0 IH (.i 400) .a],1,aIK,aIG,1,aIK⟩
theorem a3R:ab aa 225 aAW:=dj (t:=[]) (lt:=[]) (m:=30) trivial trivial (.ge aII (.ge aIJ .lf)) ⟨λE hF=>dP (Pt (n:=65535) dc dc (od (n:=.i 8) (hF.t mh) 2 (show ((2:Nat):Int) < 8 by decide)) (od (n:=.i 8) (hF.t mh) 3 (show ((3:Nat):Int) < 8 by decide))),⟨λE hF=>dR (Pt (n:=65535) dc dc (od (n:=.i 8) (hF.t mh) 2 (show ((2:Nat):Int) < 8 by decide)) (od (n:=.i 8) (hF.t mh) 3 (show ((3:Nat):Int) < 8 by decide))),df rfl⟩⟩ kr
end
end Go.Proofs.Y
namespace Go.Proofs.Y
open Go Go.Z
section
open Hz
def az2:Sp:=⟨dT [lu,jf,fe,gi,iW,jg,nY,ku] [gP,ye] [Cx,anx],aOP,2,[vQ 1 [ZS],(0,FU)],vz [eO,aE,dQ,ed,a8,nw,ju,fS] oM,2,[(0,FU),vQ 1 [ZS]]⟩
theorem a2z:ab aa 183 az2:=aG (t:=[(183,au az1)]) (lt:=[]) (m:=30) ⟨(aw a2y),trivial⟩ trivial .lf kr
def az3:Sp:={az2 with l:=[vQ 1 [iT],(0,FU)]}
theorem a2A:ab aa 183 az3:=Dh a2z [(ED,(vi aHw))] _ (λE hF q hq=>by
 simp only[ep,gn,or_false] at hq
 rcases hq with rfl
 exact aq (λq hq=>O5 (λq=>cO hF.vb bJ 0 255 kr q) q (by have hq:(q:Int) < 224:=hq; omega)) _) kr
theorem akN {E:Env} {r n:X} (hr:∀q,0<=D r q/\D r q<=255) (h0:0<=N n) (hn:N n<=400):0<=N (.o2 1 dW (.f 80 (.c r (.c n .n)))):=by
 have h:=Lz.a7B (D r) hr h0 om (Lz.dp 0)
 show 0<=4096 - Lz.dk (D r) (N n)
 unfold Lz.dk Lz.qo
 omega
abbrev EF:X:=bZ jh aj aH aj (lD (.i 9))
theorem aRh (E:Env) (q:Nat):0<=D EF q/\D EF q<=255:=by have h:=@cO _ E [] (λ_ _ _ h=>nomatch h) EF 0 9 kr q; omega
def DR:Sp:=lC oE [] MQ
abbrev MA:X:=.f 80 (.c EF M7)
abbrev aol:X:=kt EF M7
abbrev aIL:X:=FT (cz nT nU nW jw (bZ ae aj aj aj (bZ ae bA (.f 1031 EN) aH (sj pt (.f 1031 M7) (kt (kP (NI (cz (.o1 3 MA) (yb MA) (.o1 3 cq) ae (I3 (.f 81 (.c EF M7)) MA MA)) (.o2 0 MA bM))) Tm) aU aol ae))))
abbrev RZ(a b c:X):X:=.f 1132 (lE a b c)
theorem H9:ab aa 8 DR:=dj (t:=[(226,au Nb.zc),(10,au akL),(286,au DO),(116,au Qb),(9,au W4),(63,au uW),(64,au wX),(52,au rp),(106,au DP),(177,au y4),(228,bG (au WX) (au WY)),(227,au Lk),(231,au wW),(47,au PM),(28,au W1),(225,bG (au aAN) (bG (au aAP) (bG (au aAR) (bG (au aAT) (bG (au aAW) (au ail)))))),(183,au az3)]) (lt:=[((14,6),gC (gI AW) (gC (gI Dw) (gC (gI Hl) (gC (gI Dx) (gI Dy)))))]) (m:=30) ⟨(aw LO),(aw aEr),(aw H6),(aw W5),(aw ajf),(aw wV),(aw y6),(aw sY),(aw H7),(aw A7),(cS (aw aij) (aw aif)),(aw PT),(aw y5),(aw WM),(aw aiD),(cS (aw a3K) (cS (aw a3M) (cS (aw a3O) (cS (aw a3Q) (cS (aw a3R) (aw aAV)))))),(aw a2A),trivial⟩ ⟨(jE (iB Tryz.func14 kr V4) (jE (iB Tryz.func14 kr agd) (jE (iB Tryz.func14 kr axS) (jE (iB Tryz.func14 kr age) (iB Tryz.func14 kr agf))))),trivial⟩ (.is (.f 1124 (bj (.f 1131 (bj ZF)))) true (.is (RZ (.f 1131 (bj ZF)) aIL (.f 1130 (di ZF aIL))) true (.ge (B3 MA) (.same aol (NI (bk EF cq) (.o2 0 ae cq)) (.same aol (kt (bk EF cq) M7) .lf))))) ⟨λE hF=>decide_eq_true (by rw[aeC]; decide),⟨λE hF=>decide_eq_true (by rw[OA]; decide),⟨λE hF=>akN (aRh E) (show (0:Int)<=3 by decide) (show (3:Int)<=400 by decide),⟨λE hF=>((KH E _ (.o2 0 ae cq) cq rfl).trans (aeL E _ cq ae)).symm,⟨λE hF=>(aeL E _ cq ae).symm,df rfl⟩⟩⟩⟩⟩ kr
end
end Go.Proofs.Y
