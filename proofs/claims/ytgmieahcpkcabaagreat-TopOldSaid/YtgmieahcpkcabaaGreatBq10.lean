import Derived.Test.YtgmieahcpkcabaaGreatBq9
import Derived.Test.YtgmieahcpkcabaaGreatBq6
import Derived.Test.YtgmieahcpkcabaaGreatBq7
import Derived.Laws.Externs
import Derived.Laws.MathBits
import Derived.Test.YtgmieahcpkcabaaGreatBq1
set_option maxRecDepth 100000
set_option linter.unusedSimpArgs false
set_option linter.unusedVariables false
set_option linter.constructorNameAsVariable false
set_option linter.unusedSectionVars false
noncomputable section
namespace Go.Lz
open Go.Z (R)
theorem aSQ {r:R} {n off base:Int} {s:ak} (h8:n<=4095) (hr:∀q,0<=r q/\r q<=255) (g:Good r n off base s) (hst:s.st=1\/s.st=2):s.fin.used<=s.n:=by
 have c0:=g.1
 rcases Vp h8 hr g hst with ⟨_,_,_,h⟩ | ⟨_,_,_,h⟩
 .rw[c0.nn,<- h.nn]; exact h.used.2
 .rw[c0.nn,<- h.1.nn]; exact h.1.used.2
end Go.Lz
namespace Go.Proofs.Y
open Go Go.Z
section
variable [kv]
abbrev SC:X:=nJ (.f 39 (cy 7 MF))
abbrev apz:X:=.f 38 (cy 7 MF)
abbrev aps:X:=jK (.f 37 (zF 5 7 8 MF)) SC
def Hk:Lp:=⟨fj [(6,1,1048560),BP,(8,0,4095),(10,-1,5)] aJl,[(1,bS),(7,BQ),(8,MJ)],2,ME,.exit 0,[],3,[(0,rM 2 SC apz),cj 2 SC aps],aoy⟩
abbrev abe:X:=.o2 0 MG (.f 39 (.c I0 Sb))
theorem aWm:cr aa Tryz.f266.ntmps (aI 10 (loops (aC Tryz.f266))) Hk Hk.fa:=eX (t:=[(316,av aim)]) (lt:=[]) (m:=8) (f:=266) (k:=10) ⟨a01,trivial⟩ trivial (λ_=>rfl) rfl (.tf tu (.same (ao abe) (ao SC) (.same (ao (.f 38 (.c I0 Sb))) (ao apz) (.same (I3 (.f 37 (qB (.f 19 (cN 5 7 (bj gA))) I0 (.v 8) Sb)) abe abe) (bk aps abe) .lf))) (.same zH (ao SC) (.same aap (ao apz) (.same aaq (iU aps 6) .lf)))) ⟨(DJ (λE hF=>by
 obtain⟨hF,h1⟩:=hF
 have h1:0<=N (.v 10):=h1
 have b8:=hF.b 8 rfl
 have b7:=hF.b 7 rfl
 have b10:=hF.b 10 rfl
 have eb:=CP (a:=.v 8) (i:=.v 10) om
 refine⟨?_,?_,?_⟩
 .refine aD ?_
  show N (.v 6)+Lz.eL (N (.v 7))+Lz.az 0 6 (Lz.cF 0 (N (.v 10)+-1+1).toNat ⟨0,Lz.gD (N (.v 7)),0⟩).k=N (.v 6)+Lz.az 0 6 (Lz.cF 0 (N (.v 10)+1).toNat ⟨0,N (.v 7),0⟩).k
  have:=Lz.auO h1 b10.2 b7.1 b7.2
  omega
 .exact aD (Lz.aS0 (w:=N (.v 7)) h1)
 .refine aq (λq _=>?_) _
  show Lz.be (Lz.cF (N (.v 8)) (N (.v 10)+-1+1).toNat ⟨Lz.wC (N (.v 5)) (N (.v 7)) (N gA),Lz.gD (N (.v 7)),0⟩).L (N (.v 6)+Lz.eL (N (.v 7))+Lz.az 0 6 (Lz.cF 0 (N (.v 10)+-1+1).toNat ⟨0,Lz.gD (N (.v 7)),0⟩).k) q=Lz.be (Lz.cF (N (.v 8)) (N (.v 10)+1).toNat ⟨N (.v 5),N (.v 7),0⟩).L (N (.v 6)+Lz.az 0 6 (Lz.cF 0 (N (.v 10)+1).toNat ⟨0,N (.v 7),0⟩).k) q
  rw[eb]
  have:=Lz.auO h1 b10.2 b7.1 b7.2
  exact Oj (Lz.aSX h1 _) om q) (trivial)),⟨λE hF=>(by
 refine aD ?_
 show N (.v 6)=N (.v 6)+Lz.az 0 6 (Lz.cF 0 (N (.v 10)+1).toNat ⟨0,N (.v 7),0⟩).k
 rw[Lz.Vu (show N (.v 10) < 0 from hF.2)]
 show N (.v 6)=N (.v 6)+0
 omega),⟨λE hF=>(by
 have b7:=hF.1.b 7 rfl
 refine aD ?_
 show N (.v 7)=Lz.az 16777216 4294967295 (Lz.cF 0 (N (.v 10)+1).toNat ⟨0,N (.v 7),0⟩).w
 rw[Lz.Vu (show N (.v 10) < 0 from hF.2)]
 exact (Lz.a6 b7.1 b7.2).symm),⟨λE hF=>(by
 refine aq (λq _=>?_) _
 show Lz.be (N (.v 5)) (N (.v 6)) q=Lz.be (Lz.cF (N (.v 8)) (N (.v 10)+1).toNat ⟨N (.v 5),N (.v 7),0⟩).L (N (.v 6)+Lz.az 0 6 (Lz.cF 0 (N (.v 10)+1).toNat ⟨0,N (.v 7),0⟩).k) q
 rw[Lz.Vu (show N (.v 10) < 0 from hF.2),Lz.Vu (show N (.v 10) < 0 from hF.2)]
 show Lz.be (N (.v 5)) (N (.v 6)) q=Lz.be (N (.v 5)) (N (.v 6)+0) q
 rw[Int.add_zero]),trivial⟩⟩⟩⟩ kr
theorem aWk (E:Env) (hF:ah Hk.fa.fx):0<=N Hk.μ:=by
 have:=(hF.b 10 rfl).1
 show 0<=N (.v 10)+1
 omega
theorem aWl:ct aa Tryz.f266.ntmps (aI 10 (loops (aC Tryz.f266))) Hk:=aWm.all aWk
theorem aTU:cA aa ((266,10),aW Hk):=dZ Tryz.func266 kr aWl
abbrev aLn:Nat×Bl:=(1,kJ 4 cV MH)
def aid:Sp:=⟨oE,[],0,[],.agg [zQ (bk gO bA),ag,jL,mT,fu],6,[(0,kJ 3 cV MH),aLn,(2,kJ 5 aU R7),(3,I1),(4,I1),(5,aae)]⟩
abbrev apt:ai:=zQ gO
def WW:Sp:={aid with v:=.agg [apt,ag,jL,mT,fu],l':=aid.l'}
theorem a3q:ab aa 265 aid:=aG (t:=[(313,bG (av aiY) (av aiX))]) (lt:=[]) (m:=8) ⟨(cS (a1e) (a1d)),trivial⟩ trivial .lf kr
theorem a3r:ab aa 265 WW:=aL a3q [] _ _ (λ_ _ _ hq=>(gn hq).elim) kr
theorem azr:aY aa (265,av WW):=cf a3r
abbrev abf:X:=bL 7 xG qz
def a4h:X:=.f 14 abf
abbrev aLo:X:=nJ (.f 17 abf)
abbrev aLp:X:=xF 22 cV 27 MI
abbrev apu:X:=.c a4h aLp
def aiy:X:=I4 aLo apu
abbrev nR:ai:=lG 3
abbrev xN:ai:=lG 5
abbrev cY:ai:=lG 7
abbrev aLq:Nat×Bl:=(2,⟨333,[kN,kO,nR,xN,cY],false,0⟩)
abbrev abg:Nat×Bl:=(3,kJ 4 cV .a)
abbrev abh:Nat×Bl:=(5,kJ 6 cV .a)
abbrev abi:Nat×Bl:=(7,kJ 8 aU .a)
abbrev aLr:List (Nat×Bl):=[xB,(1,EK),aLq,abg,(4,aaA),abh,(6,aaB),abi,(8,aaC)]
abbrev B5:X:=IZ 20 21 (.c xG qz) ET
abbrev aLs:X:=.f 15 (cy 5 abf)
def aix:Sp:=⟨cI [(6,1,1040000),BP,zJ,zK,zL,zM,zN,EO,BV],[lF,bS,.agg [ag,rU,j9]],9,aLr,iD,10,[(0,rM 9 aiy (.f 34 apu)),(2,⟨333,[zQ B5,ag,nR,xN,cY],false,0⟩),abg,(4,rP (.f 36 aLp)),abh,(6,aaB),abi,(8,aaC),cj 9 aiy (jK (I2 aLs apu) aiy)]⟩
theorem a4g:ab aa 266 aix:=aG (t:=[(314,av PL),(315,av W7)]) (lt:=[]) (m:=8) ⟨ahc,azu,trivial⟩ trivial .lf kr
theorem a03:aY aa (266,av aix):=cf a4g
abbrev abj:X:=bL 7 xG xH
def a2C:X:=.f 14 abj
abbrev aLt:X:=bL 23 cV (.c (bQ 25 (.i (-2))) MI)
abbrev apv:X:=.c a2C aLt
def a2D:X:=.f 34 apv
abbrev aLu:X:=bL 24 aU (.c (.o2 10 (BS 26) rQ) aam)
abbrev apw:X:=.c a2D aLu
def ahY:X:=.f 34 apw
abbrev aLv:X:=nJ (.f 17 abj)
def ahZ:X:=.o2 0 (I4 (I4 aLv apv) apw) (.f 39 (.c ahY EN))
abbrev B6:X:=IZ 20 21 (.c xG xH) ET
abbrev aLw:X:=.f 15 (cy 5 abj)
def ahX:Sp:=⟨cI [(6,1,1040000),BP,zJ,zK,zL,zM,zN,(25,2,257),(26,1,4096),BV],[lF,bS,.agg [nO,rU,j9]],9,aLr,iD,10,[(0,rM 9 ahZ (.f 38 (.c ahY EN))),(2,⟨333,[zQ B6,aE,nR,xN,cY],false,0⟩),abg,(4,aaA),abh,(6,rP (.f 36 aLt)),abi,(8,vu (.f 36 aLu)),cj 9 ahZ (jK (.f 37 (qB (I2 (I2 aLw apv) apw) ahY (BS 26) EN)) ahZ)]⟩
theorem a2B:ab aa 266 ahX:=aG (t:=[(314,av PL),(315,bG (av W7) (av ajV))]) (lt:=[((266,10),aW Hk)]) (m:=8) ⟨ahc,(cS (azu) (a1C)),trivial⟩ ⟨aTU,trivial⟩ .lf kr
theorem a0W:aY aa (266,av ahX):=cf a2B
abbrev abb:X:=ir 32 31
abbrev abc:X:=cN 30 32 .n
abbrev oI(a:Nat)(b:X)(c:gj):V:=.c (.sl a 0 ae b c)
abbrev aLj:V:=lB 32
abbrev aLk:V:=lB 31
abbrev abd(a b:X):Bl:=⟨336,[.a [.i64,.i64,.u8] a b],false,3⟩
abbrev B4:Bl:=abd (mP 32 cq) (.v 30)
abbrev aLl:X:=cN 23 24 .n
abbrev aLm:X:=iE 7 20 21 22 aLl
abbrev apr:X:=zF 30 31 32 aLm
abbrev abt:X:=nJ (.f 51 apr)
abbrev aLG:X:=.f 50 (iE 30 31 32 5 aLm)
def Hs:Lp:=⟨nK [(6,1,1040000),BP,zJ,zK,zL,zM,zN,(31,0,8192),(32,0,8192)] [abb,bz (qw (.v 31) (.i 23) bM) 6] (.f 53 abc),[BT,(4,lF),(12,oI 9 (.v 32) .a),(13,aLj),(14,aLk)],10,[xB,(1,EK),aLq,abg,(4,aaA),abh,(6,aaB),abi,(8,aaC),(9,B4)],.exit 0,[BT],11,[(0,rM 10 abt (.f 52 apr)),cj 10 abt (jK aLG abt),(9,B4)],abb⟩
abbrev abu:X:=mP 31 cq
abbrev bT:X:=fZ 30 abu
def aWY:X:=xC bT
abbrev aLH:X:=.o2 1 (.o2 1 (mP 32 cq) abu) cq
def axU:X:=aLH
abbrev Ng(a:X):X:=.o2 0 a aj
abbrev dr:X:=fZ 30 (Ng abu)
def V5:X:=dr
def aXd:X:=rY V5
def axX:X:=B3 V5
abbrev eH:X:=fZ 30 (.o2 0 abu bA)
def agl:X:=eH
def axY:X:=rY agl
def axZ:X:=.o2 1 dV agl
def aXp:X:=.f 14 abf
abbrev aLI:X:=bL 22 cV (.c agl MI)
abbrev apB:X:=.c aXp aLI
def aXq:X:=.f 34 apB
def aWZ:X:=B5
def aW0:X:=.f 36 aLI
abbrev Nh:X:=nE 31
abbrev aLJ:X:=tC aXq aWZ aW0 aLl
abbrev aLK:X:=xF 30 Nh 32 aLJ
def aW1:X:=.o2 0 (I4 aLo apB) (.f 51 aLK)
abbrev abv:X:=aW1
def aW2:X:=ao abv
def axV:X:=abt
def agh:X:=ao axV
def aW3:X:=ao (.f 52 aLK)
def agi:X:=ao (.f 52 apr)
def aW4:X:=I3 (.f 50 (bL 30 Nh (bL 32 (I2 aLs apB) aLJ))) abv abv
def agj:X:=jK aLG axV
def aW5:X:=bk agj abv
def aW6:X:=.o2 1 bT bA
def aW7:X:=rO 257 bT
def aW8:X:=fJ V5
def aW9:X:=.f 14 abj
abbrev xP(a:X)(b:Int):X:=.o2 0 a (.i b)
def aXa:X:=xP bT (-2)
abbrev aLL:X:=bL 23 cV (.c aXa MI)
abbrev apC:X:=.c aW9 aLL
def aXb:X:=.f 34 apC
def axW:X:=.o2 0 V5 nH
def aXc:X:=.o2 10 axW rQ
abbrev aLM:X:=bL 24 aU (.c aXc aam)
abbrev apD:X:=.c aXb aLM
def agk:X:=.f 34 apD
def aXe:X:=.f 38 (.c agk EN)
def aXf:X:=B6
def aXg:X:=.f 36 aLL
def aXh:X:=.f 36 aLM
abbrev aLN:X:=iF aXe aXf aj (.v 22) (di aXg aXh)
abbrev aLO:X:=xF 30 Nh 32 aLN
def aXi:X:=.o2 0 (.o2 0 (I4 (I4 aLv apC) apD) (.f 39 (.c agk EN))) (.f 51 aLO)
abbrev abw:X:=aXi
def aXj:X:=ao abw
def aXk:X:=ao (.f 52 aLO)
def aXl:X:=I3 (.f 50 (bL 30 Nh (bL 32 (.f 37 (qB (I2 (I2 aLw apC) apD) agk axW EN)) aLN))) abw abw
def aXm:X:=bk agj abw
def aXn:X:=aaq
def aXo:X:=iU agj 6
abbrev aLP:X:=xE 31 32
abbrev abx:X:=.o2 0 dr nH
abbrev oK:X:=.o2 10 abx rQ
theorem aXr:cr aa Tryz.f209.ntmps (aI 5 (loops (aC Tryz.f209))) Hs Hs.fa:=eX (t:=[(266,bG (av aix) (av ahX))]) (lt:=[]) (m:=8) (f:=209) (k:=5) ⟨(cS (a03) (a0W)),trivial⟩ trivial (λ_=>rfl) rfl (.tf aLP (.tf aWY (.ge axU (.ge aXd (.ge axX (.ge axY (.ge axZ (.same aW2 agh (.same aW3 agi (.same aW4 aW5 .lf)))))))) (.ge axU (.ge aW6 (.ge aW7 (.ge aW8 (.ge axX (.ge axY (.ge axZ (.same aXj agh (.same aXk agi (.same aXl aXm .lf))))))))))) (.same zH agh (.same aap agi (.same aXn aXo .lf)))) ⟨⟨(oC8 (λE hF=>by
 obtain⟨⟨hF,h1⟩,h2⟩:=hF
 have h1:N (.v 31) < N (.v 32):=h1
 have b31:=hF.b 31 rfl
 have b32:=hF.b 32 rfl
 have sG:=hF.b 21 rfl
 have b7:=hF.b 7 rfl
 have ok:Lz.LU (D (.v 30)) (N (.v 32)):=jI (of_decide_eq_true (show decide (yes (Lz.LU (D (.v 30)) (N (.v 32)))≠0)=true from hF.t mh))
 have i0:N bT=(D (.v 30)) (3*(N (.v 31)).toNat):=by
  show (D (.v 30)) ((N (.v 31))*3).toNat=_
  congr 1; omega
 have i1:N dr=(D (.v 30)) (3*(N (.v 31)).toNat+1):=by
  show (D (.v 30)) ((N (.v 31))*3+1).toNat=_
  congr 1; omega
 have i2:N eH=(D (.v 30)) (3*(N (.v 31)).toNat+2):=by
  show (D (.v 30)) ((N (.v 31))*3+2).toNat=_
  congr 1; omega
 have h2:N bT=0:=h2
 have o:=ok (N (.v 31)).toNat om
 refine⟨?_,?_,?_,?_,?_,?_,?_,?_⟩
 .rw[<- i0,<- i1,<- i2] at o
  unfold Lz.mb at o
  show 0<=N (.v 32)*3 - N (.v 31)*3 - 3
  rcases o with o | o <;>omega
 .rw[<- i0,<- i1,<- i2] at o
  unfold Lz.mb at o
  show 0<=N dr - 0
  rcases o with o | o <;>omega
 .rw[<- i0,<- i1,<- i2] at o
  unfold Lz.mb at o
  show 0<=4096 - N dr
  rcases o with o | o <;>omega
 .rw[<- i0,<- i1,<- i2] at o
  unfold Lz.mb at o
  show 0<=N eH - 0
  rcases o with o | o <;>omega
 .rw[<- i0,<- i1,<- i2] at o
  unfold Lz.mb at o
  show 0<=255 - N eH
  rcases o with o | o <;>omega
 .rw[<- i0,<- i1,<- i2] at o
  unfold Lz.mb at o
  have ecp:D B5=(Lz.dh (D (.v 20)) (N (.v 21)) (Lz.adapt (D (.v 20) (N (.v 21)).toNat) 0)):=su sG.1
  have ts0:Lz.cg ((D (.v 30)) (3*(N (.v 31)).toNat)) ((D (.v 30)) (3*(N (.v 31)).toNat+1)) ((D (.v 30)) (3*(N (.v 31)).toNat+2)) ⟨0,(N (.v 7)),0,D (.v 20),N (.v 21),D (.v 22),D (.v 23),D (.v 24)⟩=(Lz.mI (N eH) ⟨0,(N (.v 7)),0,D (.v 20),N (.v 21),D (.v 22),D (.v 23),D (.v 24)⟩):=by
   unfold Lz.cg
   rw[<- i0,<- i1,<- i2,if_pos h2]
  have tsL:Lz.cg ((D (.v 30)) (3*(N (.v 31)).toNat)) ((D (.v 30)) (3*(N (.v 31)).toNat+1)) ((D (.v 30)) (3*(N (.v 31)).toNat+2)) ⟨(N (.v 5)),(N (.v 7)),0,D (.v 20),N (.v 21),D (.v 22),D (.v 23),D (.v 24)⟩=(Lz.mI (N eH) ⟨(N (.v 5)),(N (.v 7)),0,D (.v 20),N (.v 21),D (.v 22),D (.v 23),D (.v 24)⟩):=by
   unfold Lz.cg
   rw[<- i0,<- i1,<- i2,if_pos h2]
  refine aD ?_
  show N (.v 6)+Lz.bq (N (.v 7)) (D (.v 20) (N (.v 21)).toNat) 0+Lz.tK (Lz.aM (N (.v 7)) (D (.v 20) (N (.v 21)).toNat) 0) (D (.v 22)) 256 (N eH) 1 7+Lz.iQ (D (.v 30)) ((N (.v 31))+1) (N (.v 32)) (Lz.tW (Lz.aM (N (.v 7)) (D (.v 20) (N (.v 21)).toNat) 0) (D (.v 22)) 256 (N eH) 1 7) (D B5) 0 (Lz.tR (D (.v 22)) 256 (N eH) 1 7) (D (.v 23)) (D (.v 24))=N (.v 6)+Lz.iQ (D (.v 30)) (N (.v 31)) (N (.v 32)) (N (.v 7)) (D (.v 20)) (N (.v 21)) (D (.v 22)) (D (.v 23)) (D (.v 24))
  rw[ecp]
  have hs:(Lz.cg ((D (.v 30)) (3*(N (.v 31)).toNat)) ((D (.v 30)) (3*(N (.v 31)).toNat+1)) ((D (.v 30)) (3*(N (.v 31)).toNat+2)) ⟨0,(N (.v 7)),0,D (.v 20),N (.v 21),D (.v 22),D (.v 23),D (.v 24)⟩).ym (Lz.mI (N eH) ⟨0,(N (.v 7)),0,D (.v 20),N (.v 21),D (.v 22),D (.v 23),D (.v 24)⟩):=by rw[ts0]; exact⟨rfl,rfl,rfl,rfl,rfl,rfl⟩
  have hk:(Lz.bq (N (.v 7)) (D (.v 20) (N (.v 21)).toNat) 0+Lz.tK (Lz.aM (N (.v 7)) (D (.v 20) (N (.v 21)).toNat) 0) (D (.v 22)) 256 (N eH) 1 7)=(Lz.cg ((D (.v 30)) (3*(N (.v 31)).toNat)) ((D (.v 30)) (3*(N (.v 31)).toNat+1)) ((D (.v 30)) (3*(N (.v 31)).toNat+2)) ⟨0,(N (.v 7)),0,D (.v 20),N (.v 21),D (.v 22),D (.v 23),D (.v 24)⟩).k:=by
   rw[ts0]
   show (Lz.bq (N (.v 7)) (D (.v 20) (N (.v 21)).toNat) 0+Lz.tK (Lz.aM (N (.v 7)) (D (.v 20) (N (.v 21)).toNat) 0) (D (.v 22)) 256 (N eH) 1 7)=0+(Lz.bq (N (.v 7)) (D (.v 20) (N (.v 21)).toNat) 0+Lz.tK (Lz.aM (N (.v 7)) (D (.v 20) (N (.v 21)).toNat) 0) (D (.v 22)) 256 (N eH) 1 7)
   omega
  have h:(Lz.bq (N (.v 7)) (D (.v 20) (N (.v 21)).toNat) 0+Lz.tK (Lz.aM (N (.v 7)) (D (.v 20) (N (.v 21)).toNat) 0) (D (.v 22)) 256 (N eH) 1 7)+Lz.iQ (D (.v 30)) ((N (.v 31))+1) (N (.v 32)) (Lz.tW (Lz.aM (N (.v 7)) (D (.v 20) (N (.v 21)).toNat) 0) (D (.v 22)) 256 (N eH) 1 7) (Lz.dh (D (.v 20)) (N (.v 21)) (Lz.adapt (D (.v 20) (N (.v 21)).toNat) 0)) 0 (Lz.tR (D (.v 22)) 256 (N eH) 1 7) (D (.v 23)) (D (.v 24))=Lz.iQ (D (.v 30)) (N (.v 31)) (N (.v 32)) (N (.v 7)) (D (.v 20)) (N (.v 21)) (D (.v 22)) (D (.v 23)) (D (.v 24)):=Lz.Xk (s:=(Lz.mI (N eH) ⟨0,(N (.v 7)),0,D (.v 20),N (.v 21),D (.v 22),D (.v 23),D (.v 24)⟩)) b31.1 h1 b32.2 b7.1 b7.2 hs hk
  omega
 .rw[<- i0,<- i1,<- i2] at o
  unfold Lz.mb at o
  have ecp:D B5=(Lz.dh (D (.v 20)) (N (.v 21)) (Lz.adapt (D (.v 20) (N (.v 21)).toNat) 0)):=su sG.1
  have ts0:Lz.cg ((D (.v 30)) (3*(N (.v 31)).toNat)) ((D (.v 30)) (3*(N (.v 31)).toNat+1)) ((D (.v 30)) (3*(N (.v 31)).toNat+2)) ⟨0,(N (.v 7)),0,D (.v 20),N (.v 21),D (.v 22),D (.v 23),D (.v 24)⟩=(Lz.mI (N eH) ⟨0,(N (.v 7)),0,D (.v 20),N (.v 21),D (.v 22),D (.v 23),D (.v 24)⟩):=by
   unfold Lz.cg
   rw[<- i0,<- i1,<- i2,if_pos h2]
  have tsL:Lz.cg ((D (.v 30)) (3*(N (.v 31)).toNat)) ((D (.v 30)) (3*(N (.v 31)).toNat+1)) ((D (.v 30)) (3*(N (.v 31)).toNat+2)) ⟨(N (.v 5)),(N (.v 7)),0,D (.v 20),N (.v 21),D (.v 22),D (.v 23),D (.v 24)⟩=(Lz.mI (N eH) ⟨(N (.v 5)),(N (.v 7)),0,D (.v 20),N (.v 21),D (.v 22),D (.v 23),D (.v 24)⟩):=by
   unfold Lz.cg
   rw[<- i0,<- i1,<- i2,if_pos h2]
  refine aD ?_
  show Lz.y7 (D (.v 30)) ((N (.v 31))+1) (N (.v 32)) (Lz.tW (Lz.aM (N (.v 7)) (D (.v 20) (N (.v 21)).toNat) 0) (D (.v 22)) 256 (N eH) 1 7) (D B5) 0 (Lz.tR (D (.v 22)) 256 (N eH) 1 7) (D (.v 23)) (D (.v 24))=Lz.y7 (D (.v 30)) (N (.v 31)) (N (.v 32)) (N (.v 7)) (D (.v 20)) (N (.v 21)) (D (.v 22)) (D (.v 23)) (D (.v 24))
  rw[ecp]
  exact Lz.aDo (s:=(Lz.mI (N eH) ⟨0,(N (.v 7)),0,D (.v 20),N (.v 21),D (.v 22),D (.v 23),D (.v 24)⟩)) b31.1 h1 (by rw[ts0]; exact⟨rfl,rfl,rfl,rfl,rfl,rfl⟩)
 .rw[<- i0,<- i1,<- i2] at o
  unfold Lz.mb at o
  have ecp:D B5=(Lz.dh (D (.v 20)) (N (.v 21)) (Lz.adapt (D (.v 20) (N (.v 21)).toNat) 0)):=su sG.1
  have ts0:Lz.cg ((D (.v 30)) (3*(N (.v 31)).toNat)) ((D (.v 30)) (3*(N (.v 31)).toNat+1)) ((D (.v 30)) (3*(N (.v 31)).toNat+2)) ⟨0,(N (.v 7)),0,D (.v 20),N (.v 21),D (.v 22),D (.v 23),D (.v 24)⟩=(Lz.mI (N eH) ⟨0,(N (.v 7)),0,D (.v 20),N (.v 21),D (.v 22),D (.v 23),D (.v 24)⟩):=by
   unfold Lz.cg
   rw[<- i0,<- i1,<- i2,if_pos h2]
  have tsL:Lz.cg ((D (.v 30)) (3*(N (.v 31)).toNat)) ((D (.v 30)) (3*(N (.v 31)).toNat+1)) ((D (.v 30)) (3*(N (.v 31)).toNat+2)) ⟨(N (.v 5)),(N (.v 7)),0,D (.v 20),N (.v 21),D (.v 22),D (.v 23),D (.v 24)⟩=(Lz.mI (N eH) ⟨(N (.v 5)),(N (.v 7)),0,D (.v 20),N (.v 21),D (.v 22),D (.v 23),D (.v 24)⟩):=by
   unfold Lz.cg
   rw[<- i0,<- i1,<- i2,if_pos h2]
  refine aq (λq _=>?_) _
  show Lz.be (Lz.wY (D (.v 30)) ((N (.v 31))+1) (N (.v 32)) (Lz.tL (Lz.jB (N (.v 5)) (N (.v 7)) (D (.v 20) (N (.v 21)).toNat) 0) (Lz.aM (N (.v 7)) (D (.v 20) (N (.v 21)).toNat) 0) (D (.v 22)) 256 (N eH) 1 7) (Lz.tW (Lz.aM (N (.v 7)) (D (.v 20) (N (.v 21)).toNat) 0) (D (.v 22)) 256 (N eH) 1 7) (D B5) 0 (Lz.tR (D (.v 22)) 256 (N eH) 1 7) (D (.v 23)) (D (.v 24))) (N (.v 6)+Lz.bq (N (.v 7)) (D (.v 20) (N (.v 21)).toNat) 0+Lz.tK (Lz.aM (N (.v 7)) (D (.v 20) (N (.v 21)).toNat) 0) (D (.v 22)) 256 (N eH) 1 7+Lz.iQ (D (.v 30)) ((N (.v 31))+1) (N (.v 32)) (Lz.tW (Lz.aM (N (.v 7)) (D (.v 20) (N (.v 21)).toNat) 0) (D (.v 22)) 256 (N eH) 1 7) (D B5) 0 (Lz.tR (D (.v 22)) 256 (N eH) 1 7) (D (.v 23)) (D (.v 24))) q=Lz.be (Lz.wY (D (.v 30)) (N (.v 31)) (N (.v 32)) (N (.v 5)) (N (.v 7)) (D (.v 20)) (N (.v 21)) (D (.v 22)) (D (.v 23)) (D (.v 24))) (N (.v 6)+Lz.iQ (D (.v 30)) (N (.v 31)) (N (.v 32)) (N (.v 7)) (D (.v 20)) (N (.v 21)) (D (.v 22)) (D (.v 23)) (D (.v 24))) q
  rw[ecp]
  have hs:(Lz.cg ((D (.v 30)) (3*(N (.v 31)).toNat)) ((D (.v 30)) (3*(N (.v 31)).toNat+1)) ((D (.v 30)) (3*(N (.v 31)).toNat+2)) ⟨0,(N (.v 7)),0,D (.v 20),N (.v 21),D (.v 22),D (.v 23),D (.v 24)⟩).ym (Lz.mI (N eH) ⟨0,(N (.v 7)),0,D (.v 20),N (.v 21),D (.v 22),D (.v 23),D (.v 24)⟩):=by rw[ts0]; exact⟨rfl,rfl,rfl,rfl,rfl,rfl⟩
  have hk:(Lz.bq (N (.v 7)) (D (.v 20) (N (.v 21)).toNat) 0+Lz.tK (Lz.aM (N (.v 7)) (D (.v 20) (N (.v 21)).toNat) 0) (D (.v 22)) 256 (N eH) 1 7)=(Lz.cg ((D (.v 30)) (3*(N (.v 31)).toNat)) ((D (.v 30)) (3*(N (.v 31)).toNat+1)) ((D (.v 30)) (3*(N (.v 31)).toNat+2)) ⟨0,(N (.v 7)),0,D (.v 20),N (.v 21),D (.v 22),D (.v 23),D (.v 24)⟩).k:=by
   rw[ts0]
   show (Lz.bq (N (.v 7)) (D (.v 20) (N (.v 21)).toNat) 0+Lz.tK (Lz.aM (N (.v 7)) (D (.v 20) (N (.v 21)).toNat) 0) (D (.v 22)) 256 (N eH) 1 7)=0+(Lz.bq (N (.v 7)) (D (.v 20) (N (.v 21)).toNat) 0+Lz.tK (Lz.aM (N (.v 7)) (D (.v 20) (N (.v 21)).toNat) 0) (D (.v 22)) 256 (N eH) 1 7)
   omega
  have h:(Lz.bq (N (.v 7)) (D (.v 20) (N (.v 21)).toNat) 0+Lz.tK (Lz.aM (N (.v 7)) (D (.v 20) (N (.v 21)).toNat) 0) (D (.v 22)) 256 (N eH) 1 7)+Lz.iQ (D (.v 30)) ((N (.v 31))+1) (N (.v 32)) (Lz.tW (Lz.aM (N (.v 7)) (D (.v 20) (N (.v 21)).toNat) 0) (D (.v 22)) 256 (N eH) 1 7) (Lz.dh (D (.v 20)) (N (.v 21)) (Lz.adapt (D (.v 20) (N (.v 21)).toNat) 0)) 0 (Lz.tR (D (.v 22)) 256 (N eH) 1 7) (D (.v 23)) (D (.v 24))=Lz.iQ (D (.v 30)) (N (.v 31)) (N (.v 32)) (N (.v 7)) (D (.v 20)) (N (.v 21)) (D (.v 22)) (D (.v 23)) (D (.v 24)):=Lz.Xk (s:=(Lz.mI (N eH) ⟨0,(N (.v 7)),0,D (.v 20),N (.v 21),D (.v 22),D (.v 23),D (.v 24)⟩)) b31.1 h1 b32.2 b7.1 b7.2 hs hk
  exact Oj (Lz.aDn (s:=(Lz.mI (N eH) ⟨(N (.v 5)),(N (.v 7)),0,D (.v 20),N (.v 21),D (.v 22),D (.v 23),D (.v 24)⟩)) b31.1 h1 tsL) om q) (trivial)),(ay9 (λE hF=>by
 obtain⟨⟨hF,h1⟩,h2⟩:=hF
 have h1:N (.v 31) < N (.v 32):=h1
 have b31:=hF.b 31 rfl
 have b32:=hF.b 32 rfl
 have sG:=hF.b 21 rfl
 have b7:=hF.b 7 rfl
 have ok:Lz.LU (D (.v 30)) (N (.v 32)):=jI (of_decide_eq_true (show decide (yes (Lz.LU (D (.v 30)) (N (.v 32)))≠0)=true from hF.t mh))
 have i0:N bT=(D (.v 30)) (3*(N (.v 31)).toNat):=by
  show (D (.v 30)) ((N (.v 31))*3).toNat=_
  congr 1; omega
 have i1:N dr=(D (.v 30)) (3*(N (.v 31)).toNat+1):=by
  show (D (.v 30)) ((N (.v 31))*3+1).toNat=_
  congr 1; omega
 have i2:N eH=(D (.v 30)) (3*(N (.v 31)).toNat+2):=by
  show (D (.v 30)) ((N (.v 31))*3+2).toNat=_
  congr 1; omega
 have h2:¬N bT=0:=h2
 have o:=ok (N (.v 31)).toNat om
 refine⟨?_,?_,?_,?_,?_,?_,?_,?_,?_,?_⟩
 .rw[<- i0,<- i1,<- i2] at o
  unfold Lz.mb at o
  show 0<=N (.v 32)*3 - N (.v 31)*3 - 3
  rcases o with o | o <;>omega
 .rw[<- i0,<- i1,<- i2] at o
  unfold Lz.mb at o
  show 0<=N bT - 2
  rcases o with o | o <;>omega
 .rw[<- i0,<- i1,<- i2] at o
  unfold Lz.mb at o
  show 0<=257 - N bT
  rcases o with o | o <;>omega
 .rw[<- i0,<- i1,<- i2] at o
  unfold Lz.mb at o
  show 0<=N dr - 1
  rcases o with o | o <;>omega
 .rw[<- i0,<- i1,<- i2] at o
  unfold Lz.mb at o
  show 0<=4096 - N dr
  rcases o with o | o <;>omega
 .rw[<- i0,<- i1,<- i2] at o
  unfold Lz.mb at o
  show 0<=N eH - 0
  rcases o with o | o <;>omega
 .rw[<- i0,<- i1,<- i2] at o
  unfold Lz.mb at o
  show 0<=255 - N eH
  rcases o with o | o <;>omega
 .rw[<- i0,<- i1,<- i2] at o
  unfold Lz.mb at o
  have ecp:D B6=(Lz.dh (D (.v 20)) (N (.v 21)) (Lz.adapt (D (.v 20) (N (.v 21)).toNat) 1)):=su sG.1
  have e6:N oK=((N dr - 1) / 64):=by
   have h0:N abx=(N dr - 1):=rfl
   rcases o with o | o
   .omega
   .have:=uk (a:=.o2 0 dr nH) 6 (by rw[h0]; omega)
    rw[h0] at this
    exact this
  have ts0:Lz.cg ((D (.v 30)) (3*(N (.v 31)).toNat)) ((D (.v 30)) (3*(N (.v 31)).toNat+1)) ((D (.v 30)) (3*(N (.v 31)).toNat+2)) ⟨0,(N (.v 7)),0,D (.v 20),N (.v 21),D (.v 22),D (.v 23),D (.v 24)⟩=(Lz.mD (N bT) (N dr) ⟨0,(N (.v 7)),0,D (.v 20),N (.v 21),D (.v 22),D (.v 23),D (.v 24)⟩):=by
   unfold Lz.cg
   rw[<- i0,<- i1,<- i2,if_neg h2]
  have tsL:Lz.cg ((D (.v 30)) (3*(N (.v 31)).toNat)) ((D (.v 30)) (3*(N (.v 31)).toNat+1)) ((D (.v 30)) (3*(N (.v 31)).toNat+2)) ⟨(N (.v 5)),(N (.v 7)),0,D (.v 20),N (.v 21),D (.v 22),D (.v 23),D (.v 24)⟩=(Lz.mD (N bT) (N dr) ⟨(N (.v 5)),(N (.v 7)),0,D (.v 20),N (.v 21),D (.v 22),D (.v 23),D (.v 24)⟩):=by
   unfold Lz.cg
   rw[<- i0,<- i1,<- i2,if_neg h2]
  refine aD ?_
  show N (.v 6)+Lz.bq (N (.v 7)) (D (.v 20) (N (.v 21)).toNat) 1+Lz.tK (Lz.aM (N (.v 7)) (D (.v 20) (N (.v 21)).toNat) 1) (D (.v 23)) 256 (N bT - 2) 1 7+Lz.tK (Lz.tW (Lz.aM (N (.v 7)) (D (.v 20) (N (.v 21)).toNat) 1) (D (.v 23)) 256 (N bT - 2) 1 7) (D (.v 24)) 64 (N oK) 1 5+Lz.hK (Lz.tW (Lz.tW (Lz.aM (N (.v 7)) (D (.v 20) (N (.v 21)).toNat) 1) (D (.v 23)) 256 (N bT - 2) 1 7) (D (.v 24)) 64 (N oK) 1 5) 5+Lz.iQ (D (.v 30)) ((N (.v 31))+1) (N (.v 32)) (Lz.hW (Lz.tW (Lz.tW (Lz.aM (N (.v 7)) (D (.v 20) (N (.v 21)).toNat) 1) (D (.v 23)) 256 (N bT - 2) 1 7) (D (.v 24)) 64 (N oK) 1 5) 5) (D B6) 1 (D (.v 22)) (Lz.tR (D (.v 23)) 256 (N bT - 2) 1 7) (Lz.tR (D (.v 24)) 64 (N oK) 1 5)=N (.v 6)+Lz.iQ (D (.v 30)) (N (.v 31)) (N (.v 32)) (N (.v 7)) (D (.v 20)) (N (.v 21)) (D (.v 22)) (D (.v 23)) (D (.v 24))
  rw[ecp,e6]
  have hs:(Lz.cg ((D (.v 30)) (3*(N (.v 31)).toNat)) ((D (.v 30)) (3*(N (.v 31)).toNat+1)) ((D (.v 30)) (3*(N (.v 31)).toNat+2)) ⟨0,(N (.v 7)),0,D (.v 20),N (.v 21),D (.v 22),D (.v 23),D (.v 24)⟩).ym (Lz.mD (N bT) (N dr) ⟨0,(N (.v 7)),0,D (.v 20),N (.v 21),D (.v 22),D (.v 23),D (.v 24)⟩):=by rw[ts0]; exact⟨rfl,rfl,rfl,rfl,rfl,rfl⟩
  have hk:(Lz.bq (N (.v 7)) (D (.v 20) (N (.v 21)).toNat) 1+Lz.tK (Lz.aM (N (.v 7)) (D (.v 20) (N (.v 21)).toNat) 1) (D (.v 23)) 256 (N bT - 2) 1 7+Lz.tK (Lz.tW (Lz.aM (N (.v 7)) (D (.v 20) (N (.v 21)).toNat) 1) (D (.v 23)) 256 (N bT - 2) 1 7) (D (.v 24)) 64 ((N dr - 1) / 64) 1 5+Lz.hK (Lz.tW (Lz.tW (Lz.aM (N (.v 7)) (D (.v 20) (N (.v 21)).toNat) 1) (D (.v 23)) 256 (N bT - 2) 1 7) (D (.v 24)) 64 ((N dr - 1) / 64) 1 5) 5)=(Lz.cg ((D (.v 30)) (3*(N (.v 31)).toNat)) ((D (.v 30)) (3*(N (.v 31)).toNat+1)) ((D (.v 30)) (3*(N (.v 31)).toNat+2)) ⟨0,(N (.v 7)),0,D (.v 20),N (.v 21),D (.v 22),D (.v 23),D (.v 24)⟩).k:=by
   rw[ts0]
   show (Lz.bq (N (.v 7)) (D (.v 20) (N (.v 21)).toNat) 1+Lz.tK (Lz.aM (N (.v 7)) (D (.v 20) (N (.v 21)).toNat) 1) (D (.v 23)) 256 (N bT - 2) 1 7+Lz.tK (Lz.tW (Lz.aM (N (.v 7)) (D (.v 20) (N (.v 21)).toNat) 1) (D (.v 23)) 256 (N bT - 2) 1 7) (D (.v 24)) 64 ((N dr - 1) / 64) 1 5+Lz.hK (Lz.tW (Lz.tW (Lz.aM (N (.v 7)) (D (.v 20) (N (.v 21)).toNat) 1) (D (.v 23)) 256 (N bT - 2) 1 7) (D (.v 24)) 64 ((N dr - 1) / 64) 1 5) 5)=0+(Lz.bq (N (.v 7)) (D (.v 20) (N (.v 21)).toNat) 1+Lz.tK (Lz.aM (N (.v 7)) (D (.v 20) (N (.v 21)).toNat) 1) (D (.v 23)) 256 (N bT - 2) 1 7+Lz.tK (Lz.tW (Lz.aM (N (.v 7)) (D (.v 20) (N (.v 21)).toNat) 1) (D (.v 23)) 256 (N bT - 2) 1 7) (D (.v 24)) 64 ((N dr - 1) / 64) 1 5+Lz.hK (Lz.tW (Lz.tW (Lz.aM (N (.v 7)) (D (.v 20) (N (.v 21)).toNat) 1) (D (.v 23)) 256 (N bT - 2) 1 7) (D (.v 24)) 64 ((N dr - 1) / 64) 1 5) 5)
   omega
  have h:(Lz.bq (N (.v 7)) (D (.v 20) (N (.v 21)).toNat) 1+Lz.tK (Lz.aM (N (.v 7)) (D (.v 20) (N (.v 21)).toNat) 1) (D (.v 23)) 256 (N bT - 2) 1 7+Lz.tK (Lz.tW (Lz.aM (N (.v 7)) (D (.v 20) (N (.v 21)).toNat) 1) (D (.v 23)) 256 (N bT - 2) 1 7) (D (.v 24)) 64 ((N dr - 1) / 64) 1 5+Lz.hK (Lz.tW (Lz.tW (Lz.aM (N (.v 7)) (D (.v 20) (N (.v 21)).toNat) 1) (D (.v 23)) 256 (N bT - 2) 1 7) (D (.v 24)) 64 ((N dr - 1) / 64) 1 5) 5)+Lz.iQ (D (.v 30)) ((N (.v 31))+1) (N (.v 32)) (Lz.hW (Lz.tW (Lz.tW (Lz.aM (N (.v 7)) (D (.v 20) (N (.v 21)).toNat) 1) (D (.v 23)) 256 (N bT - 2) 1 7) (D (.v 24)) 64 ((N dr - 1) / 64) 1 5) 5) (Lz.dh (D (.v 20)) (N (.v 21)) (Lz.adapt (D (.v 20) (N (.v 21)).toNat) 1)) 1 (D (.v 22)) (Lz.tR (D (.v 23)) 256 (N bT - 2) 1 7) (Lz.tR (D (.v 24)) 64 ((N dr - 1) / 64) 1 5)=Lz.iQ (D (.v 30)) (N (.v 31)) (N (.v 32)) (N (.v 7)) (D (.v 20)) (N (.v 21)) (D (.v 22)) (D (.v 23)) (D (.v 24)):=Lz.Xk (s:=(Lz.mD (N bT) (N dr) ⟨0,(N (.v 7)),0,D (.v 20),N (.v 21),D (.v 22),D (.v 23),D (.v 24)⟩)) b31.1 h1 b32.2 b7.1 b7.2 hs hk
  omega
 .rw[<- i0,<- i1,<- i2] at o
  unfold Lz.mb at o
  have ecp:D B6=(Lz.dh (D (.v 20)) (N (.v 21)) (Lz.adapt (D (.v 20) (N (.v 21)).toNat) 1)):=su sG.1
  have e6:N oK=((N dr - 1) / 64):=by
   have h0:N abx=(N dr - 1):=rfl
   rcases o with o | o
   .omega
   .have:=uk (a:=.o2 0 dr nH) 6 (by rw[h0]; omega)
    rw[h0] at this
    exact this
  have ts0:Lz.cg ((D (.v 30)) (3*(N (.v 31)).toNat)) ((D (.v 30)) (3*(N (.v 31)).toNat+1)) ((D (.v 30)) (3*(N (.v 31)).toNat+2)) ⟨0,(N (.v 7)),0,D (.v 20),N (.v 21),D (.v 22),D (.v 23),D (.v 24)⟩=(Lz.mD (N bT) (N dr) ⟨0,(N (.v 7)),0,D (.v 20),N (.v 21),D (.v 22),D (.v 23),D (.v 24)⟩):=by
   unfold Lz.cg
   rw[<- i0,<- i1,<- i2,if_neg h2]
  have tsL:Lz.cg ((D (.v 30)) (3*(N (.v 31)).toNat)) ((D (.v 30)) (3*(N (.v 31)).toNat+1)) ((D (.v 30)) (3*(N (.v 31)).toNat+2)) ⟨(N (.v 5)),(N (.v 7)),0,D (.v 20),N (.v 21),D (.v 22),D (.v 23),D (.v 24)⟩=(Lz.mD (N bT) (N dr) ⟨(N (.v 5)),(N (.v 7)),0,D (.v 20),N (.v 21),D (.v 22),D (.v 23),D (.v 24)⟩):=by
   unfold Lz.cg
   rw[<- i0,<- i1,<- i2,if_neg h2]
  refine aD ?_
  show Lz.y7 (D (.v 30)) ((N (.v 31))+1) (N (.v 32)) (Lz.hW (Lz.tW (Lz.tW (Lz.aM (N (.v 7)) (D (.v 20) (N (.v 21)).toNat) 1) (D (.v 23)) 256 (N bT - 2) 1 7) (D (.v 24)) 64 (N oK) 1 5) 5) (D B6) 1 (D (.v 22)) (Lz.tR (D (.v 23)) 256 (N bT - 2) 1 7) (Lz.tR (D (.v 24)) 64 (N oK) 1 5)=Lz.y7 (D (.v 30)) (N (.v 31)) (N (.v 32)) (N (.v 7)) (D (.v 20)) (N (.v 21)) (D (.v 22)) (D (.v 23)) (D (.v 24))
  rw[ecp,e6]
  exact Lz.aDo (s:=(Lz.mD (N bT) (N dr) ⟨0,(N (.v 7)),0,D (.v 20),N (.v 21),D (.v 22),D (.v 23),D (.v 24)⟩)) b31.1 h1 (by rw[ts0]; exact⟨rfl,rfl,rfl,rfl,rfl,rfl⟩)
 .rw[<- i0,<- i1,<- i2] at o
  unfold Lz.mb at o
  have ecp:D B6=(Lz.dh (D (.v 20)) (N (.v 21)) (Lz.adapt (D (.v 20) (N (.v 21)).toNat) 1)):=su sG.1
  have e6:N oK=((N dr - 1) / 64):=by
   have h0:N abx=(N dr - 1):=rfl
   rcases o with o | o
   .omega
   .have:=uk (a:=.o2 0 dr nH) 6 (by rw[h0]; omega)
    rw[h0] at this
    exact this
  have ts0:Lz.cg ((D (.v 30)) (3*(N (.v 31)).toNat)) ((D (.v 30)) (3*(N (.v 31)).toNat+1)) ((D (.v 30)) (3*(N (.v 31)).toNat+2)) ⟨0,(N (.v 7)),0,D (.v 20),N (.v 21),D (.v 22),D (.v 23),D (.v 24)⟩=(Lz.mD (N bT) (N dr) ⟨0,(N (.v 7)),0,D (.v 20),N (.v 21),D (.v 22),D (.v 23),D (.v 24)⟩):=by
   unfold Lz.cg
   rw[<- i0,<- i1,<- i2,if_neg h2]
  have tsL:Lz.cg ((D (.v 30)) (3*(N (.v 31)).toNat)) ((D (.v 30)) (3*(N (.v 31)).toNat+1)) ((D (.v 30)) (3*(N (.v 31)).toNat+2)) ⟨(N (.v 5)),(N (.v 7)),0,D (.v 20),N (.v 21),D (.v 22),D (.v 23),D (.v 24)⟩=(Lz.mD (N bT) (N dr) ⟨(N (.v 5)),(N (.v 7)),0,D (.v 20),N (.v 21),D (.v 22),D (.v 23),D (.v 24)⟩):=by
   unfold Lz.cg
   rw[<- i0,<- i1,<- i2,if_neg h2]
  refine aq (λq _=>?_) _
  show Lz.be (Lz.wY (D (.v 30)) ((N (.v 31))+1) (N (.v 32)) (Lz.hL (Lz.tL (Lz.tL (Lz.jB (N (.v 5)) (N (.v 7)) (D (.v 20) (N (.v 21)).toNat) 1) (Lz.aM (N (.v 7)) (D (.v 20) (N (.v 21)).toNat) 1) (D (.v 23)) 256 (N bT - 2) 1 7) (Lz.tW (Lz.aM (N (.v 7)) (D (.v 20) (N (.v 21)).toNat) 1) (D (.v 23)) 256 (N bT - 2) 1 7) (D (.v 24)) 64 (N oK) 1 5) (Lz.tW (Lz.tW (Lz.aM (N (.v 7)) (D (.v 20) (N (.v 21)).toNat) 1) (D (.v 23)) 256 (N bT - 2) 1 7) (D (.v 24)) 64 (N oK) 1 5) (N dr - 1) 5) (Lz.hW (Lz.tW (Lz.tW (Lz.aM (N (.v 7)) (D (.v 20) (N (.v 21)).toNat) 1) (D (.v 23)) 256 (N bT - 2) 1 7) (D (.v 24)) 64 (N oK) 1 5) 5) (D B6) 1 (D (.v 22)) (Lz.tR (D (.v 23)) 256 (N bT - 2) 1 7) (Lz.tR (D (.v 24)) 64 (N oK) 1 5)) (N (.v 6)+Lz.bq (N (.v 7)) (D (.v 20) (N (.v 21)).toNat) 1+Lz.tK (Lz.aM (N (.v 7)) (D (.v 20) (N (.v 21)).toNat) 1) (D (.v 23)) 256 (N bT - 2) 1 7+Lz.tK (Lz.tW (Lz.aM (N (.v 7)) (D (.v 20) (N (.v 21)).toNat) 1) (D (.v 23)) 256 (N bT - 2) 1 7) (D (.v 24)) 64 (N oK) 1 5+Lz.hK (Lz.tW (Lz.tW (Lz.aM (N (.v 7)) (D (.v 20) (N (.v 21)).toNat) 1) (D (.v 23)) 256 (N bT - 2) 1 7) (D (.v 24)) 64 (N oK) 1 5) 5+Lz.iQ (D (.v 30)) ((N (.v 31))+1) (N (.v 32)) (Lz.hW (Lz.tW (Lz.tW (Lz.aM (N (.v 7)) (D (.v 20) (N (.v 21)).toNat) 1) (D (.v 23)) 256 (N bT - 2) 1 7) (D (.v 24)) 64 (N oK) 1 5) 5) (D B6) 1 (D (.v 22)) (Lz.tR (D (.v 23)) 256 (N bT - 2) 1 7) (Lz.tR (D (.v 24)) 64 (N oK) 1 5)) q=Lz.be (Lz.wY (D (.v 30)) (N (.v 31)) (N (.v 32)) (N (.v 5)) (N (.v 7)) (D (.v 20)) (N (.v 21)) (D (.v 22)) (D (.v 23)) (D (.v 24))) (N (.v 6)+Lz.iQ (D (.v 30)) (N (.v 31)) (N (.v 32)) (N (.v 7)) (D (.v 20)) (N (.v 21)) (D (.v 22)) (D (.v 23)) (D (.v 24))) q
  rw[ecp,e6]
  have hs:(Lz.cg ((D (.v 30)) (3*(N (.v 31)).toNat)) ((D (.v 30)) (3*(N (.v 31)).toNat+1)) ((D (.v 30)) (3*(N (.v 31)).toNat+2)) ⟨0,(N (.v 7)),0,D (.v 20),N (.v 21),D (.v 22),D (.v 23),D (.v 24)⟩).ym (Lz.mD (N bT) (N dr) ⟨0,(N (.v 7)),0,D (.v 20),N (.v 21),D (.v 22),D (.v 23),D (.v 24)⟩):=by rw[ts0]; exact⟨rfl,rfl,rfl,rfl,rfl,rfl⟩
  have hk:(Lz.bq (N (.v 7)) (D (.v 20) (N (.v 21)).toNat) 1+Lz.tK (Lz.aM (N (.v 7)) (D (.v 20) (N (.v 21)).toNat) 1) (D (.v 23)) 256 (N bT - 2) 1 7+Lz.tK (Lz.tW (Lz.aM (N (.v 7)) (D (.v 20) (N (.v 21)).toNat) 1) (D (.v 23)) 256 (N bT - 2) 1 7) (D (.v 24)) 64 ((N dr - 1) / 64) 1 5+Lz.hK (Lz.tW (Lz.tW (Lz.aM (N (.v 7)) (D (.v 20) (N (.v 21)).toNat) 1) (D (.v 23)) 256 (N bT - 2) 1 7) (D (.v 24)) 64 ((N dr - 1) / 64) 1 5) 5)=(Lz.cg ((D (.v 30)) (3*(N (.v 31)).toNat)) ((D (.v 30)) (3*(N (.v 31)).toNat+1)) ((D (.v 30)) (3*(N (.v 31)).toNat+2)) ⟨0,(N (.v 7)),0,D (.v 20),N (.v 21),D (.v 22),D (.v 23),D (.v 24)⟩).k:=by
   rw[ts0]
   show (Lz.bq (N (.v 7)) (D (.v 20) (N (.v 21)).toNat) 1+Lz.tK (Lz.aM (N (.v 7)) (D (.v 20) (N (.v 21)).toNat) 1) (D (.v 23)) 256 (N bT - 2) 1 7+Lz.tK (Lz.tW (Lz.aM (N (.v 7)) (D (.v 20) (N (.v 21)).toNat) 1) (D (.v 23)) 256 (N bT - 2) 1 7) (D (.v 24)) 64 ((N dr - 1) / 64) 1 5+Lz.hK (Lz.tW (Lz.tW (Lz.aM (N (.v 7)) (D (.v 20) (N (.v 21)).toNat) 1) (D (.v 23)) 256 (N bT - 2) 1 7) (D (.v 24)) 64 ((N dr - 1) / 64) 1 5) 5)=0+(Lz.bq (N (.v 7)) (D (.v 20) (N (.v 21)).toNat) 1+Lz.tK (Lz.aM (N (.v 7)) (D (.v 20) (N (.v 21)).toNat) 1) (D (.v 23)) 256 (N bT - 2) 1 7+Lz.tK (Lz.tW (Lz.aM (N (.v 7)) (D (.v 20) (N (.v 21)).toNat) 1) (D (.v 23)) 256 (N bT - 2) 1 7) (D (.v 24)) 64 ((N dr - 1) / 64) 1 5+Lz.hK (Lz.tW (Lz.tW (Lz.aM (N (.v 7)) (D (.v 20) (N (.v 21)).toNat) 1) (D (.v 23)) 256 (N bT - 2) 1 7) (D (.v 24)) 64 ((N dr - 1) / 64) 1 5) 5)
   omega
  have h:(Lz.bq (N (.v 7)) (D (.v 20) (N (.v 21)).toNat) 1+Lz.tK (Lz.aM (N (.v 7)) (D (.v 20) (N (.v 21)).toNat) 1) (D (.v 23)) 256 (N bT - 2) 1 7+Lz.tK (Lz.tW (Lz.aM (N (.v 7)) (D (.v 20) (N (.v 21)).toNat) 1) (D (.v 23)) 256 (N bT - 2) 1 7) (D (.v 24)) 64 ((N dr - 1) / 64) 1 5+Lz.hK (Lz.tW (Lz.tW (Lz.aM (N (.v 7)) (D (.v 20) (N (.v 21)).toNat) 1) (D (.v 23)) 256 (N bT - 2) 1 7) (D (.v 24)) 64 ((N dr - 1) / 64) 1 5) 5)+Lz.iQ (D (.v 30)) ((N (.v 31))+1) (N (.v 32)) (Lz.hW (Lz.tW (Lz.tW (Lz.aM (N (.v 7)) (D (.v 20) (N (.v 21)).toNat) 1) (D (.v 23)) 256 (N bT - 2) 1 7) (D (.v 24)) 64 ((N dr - 1) / 64) 1 5) 5) (Lz.dh (D (.v 20)) (N (.v 21)) (Lz.adapt (D (.v 20) (N (.v 21)).toNat) 1)) 1 (D (.v 22)) (Lz.tR (D (.v 23)) 256 (N bT - 2) 1 7) (Lz.tR (D (.v 24)) 64 ((N dr - 1) / 64) 1 5)=Lz.iQ (D (.v 30)) (N (.v 31)) (N (.v 32)) (N (.v 7)) (D (.v 20)) (N (.v 21)) (D (.v 22)) (D (.v 23)) (D (.v 24)):=Lz.Xk (s:=(Lz.mD (N bT) (N dr) ⟨0,(N (.v 7)),0,D (.v 20),N (.v 21),D (.v 22),D (.v 23),D (.v 24)⟩)) b31.1 h1 b32.2 b7.1 b7.2 hs hk
  exact Oj (Lz.aDn (s:=(Lz.mD (N bT) (N dr) ⟨(N (.v 5)),(N (.v 7)),0,D (.v 20),N (.v 21),D (.v 22),D (.v 23),D (.v 24)⟩)) b31.1 h1 tsL) om q) (trivial))⟩,(DJ (λE hF=>by
 have h1:N (.v 32)<=N (.v 31):=hF.2
 have b7:=hF.1.b 7 rfl
 refine⟨?_,?_,?_⟩
 .refine aD ?_
  show N (.v 6)=N (.v 6)+Lz.iQ (D (.v 30)) (N (.v 31)) (N (.v 32)) (N (.v 7)) (D (.v 20)) (N (.v 21)) (D (.v 22)) (D (.v 23)) (D (.v 24))
  unfold Lz.iQ
  rw[Lz.Qp h1]
  show N (.v 6)=N (.v 6)+0
  omega
 .refine aD ?_
  show N (.v 7)=Lz.y7 (D (.v 30)) (N (.v 31)) (N (.v 32)) (N (.v 7)) (D (.v 20)) (N (.v 21)) (D (.v 22)) (D (.v 23)) (D (.v 24))
  unfold Lz.y7
  rw[Lz.Qp h1]
  exact (Lz.a6 b7.1 b7.2).symm
 .refine aq (λq _=>?_) _
  show Lz.be (N (.v 5)) (N (.v 6)) q=Lz.be (Lz.wY (D (.v 30)) (N (.v 31)) (N (.v 32)) (N (.v 5)) (N (.v 7)) (D (.v 20)) (N (.v 21)) (D (.v 22)) (D (.v 23)) (D (.v 24))) (N (.v 6)+Lz.iQ (D (.v 30)) (N (.v 31)) (N (.v 32)) (N (.v 7)) (D (.v 20)) (N (.v 21)) (D (.v 22)) (D (.v 23)) (D (.v 24))) q
  unfold Lz.wY Lz.iQ
  rw[Lz.Qp h1,Lz.Qp h1]
  exact Oj rfl (by show N (.v 6)=N (.v 6)+0; omega) q) (trivial))⟩ kr
theorem aWW (E:Env) (hF:ah Hs.fa.fx):0<=N Hs.μ:=by
 have h:0<=N (.v 32) - N (.v 31):=hF.g mh
 exact h
theorem aWX:ct aa Tryz.f209.ntmps (aI 5 (loops (aC Tryz.f209))) Hs:=aXr.all aWW
theorem aTZ:cA aa ((209,5),aW Hs):=dZ Tryz.func209 kr aWX
end
end Go.Proofs.Y
namespace Go.Proofs.Y
open Go Go.Z
section
variable [kv]
def ajk:Sp:=⟨oE,[],0,[],bS,7,[(0,⟨389,[apt,ag,mT,fu,nR,ag,aE,ag,ag,MO],false,0⟩),aLn,(2,kJ 5 cV MH),(3,kJ 6 aU R7),(4,I1),(5,I1),(6,aae)]⟩
theorem a5K:ab aa 290 ajk:=aG (t:=[(265,av WW)]) (lt:=[]) (m:=8) ⟨azr,trivial⟩ trivial .lf kr
theorem a1l:aY aa (290,av ajk):=cf a5K
abbrev oM:P1:=.c aoP
def Xb:Sp:=⟨cI [Je],[lB 50],0,[],xK aop oM,10,[vD 0 [mT,fu,nR,a8,ag,ag,ag,MO,ag,aE],(1,aJV),(2,⟨389,[apt,ag,bg,xN,iV,ag,aE,ag,ag,MO],false,0⟩),(3,aJ6),(4,kJ 7 cV MH),(5,kJ 8 cV MH),(6,kJ 9 aU R7),(7,I1),(8,I1),(9,aae)]⟩
theorem aC6:ab aa 243 Xb:=aG (t:=[(289,av ah3),(290,av ajk),(291,av aj6)]) (lt:=[]) (m:=8) ⟨a0X,a1l,a1E,trivial⟩ trivial .lf kr
theorem a1G:aY aa (243,av Xb):=cf aC6
abbrev Fc:X:=qv 50
abbrev abr:X:=cy 70 Fc
abbrev qC:X:=.f 80 abr
abbrev zW:X:=jK (.f 81 abr) qC
abbrev aLF:X:=rZ 1 2 3 ae (pH (mm 20 21 22 23 24 25 26 27 (mm 28 29 40 41 50 51 52 53 (cN 54 55 (eZ 62 (.o2 15 zW (.v 61)))))))
def aSz:X:=.f 100 aLF
def KL:X:=.f 103 (iE 70 50 61 41 aLF)
def gOK:X:=apc
abbrev gS (E:Env):Lz.ak:=sF E (.v 1) (.v 2) (.v 3) ae ae ae (.v 20) (.v 21) (.v 22) (.v 23) (.v 24) (.v 25) (.v 26) (.v 27) (.v 28) (.v 29) (.v 40) (.v 41) (.v 50) (.v 51) (.v 52) (.v 53) (.v 54) (.v 55) (.v 62) (.o2 15 zW (.v 61))
structure GF (E:Env):Prop where
 OW:Lz.Good (@D _ E (.v 70)) (@N _ E (.v 50)) (@N _ E (.v 61)) (@N _ E (.v 41)) (gS E)
 r:∀q,0<=@D _ E (.v 70) q/\@D _ E (.v 70) q<=255
 n:@N _ E (.v 50)<=4095
 b:0<=@N _ E (.v 41)
 st:@N _ E (.v 55)=1\/@N _ E (.v 55)=2
 k:@N _ E (.v 62)<=8192
 u:0<=@N _ E (.v 61)
theorem o9 {E:Env} {fa:Fa} (hF:ah fa.fx) (h1:iA 70 fa.vb=some (0,255)) (h2:iA 50 fa.vb=some (0,4095)) (h3:iA 41 fa.vb=some (0,4095)) (h4:iA 55 fa.vb=some (1,2)) (h5:iA 62 fa.vb=some (0,8192)) (h6:iA 61 fa.vb=some (0,1048576)) (h:(KL,true)∈fa.tr):GF E:=
 ⟨jI (of_decide_eq_true (hF.t h)),hF.vb 70 0 255 h1,(hF.b 50 h2).2,(hF.b 41 h3).1,by have:=hF.b 55 h4; omega,(hF.b 62 h5).2,(hF.b 61 h6).1⟩
theorem auD {E:Env} (g:GF E):decide (N gOK≠0)=true:=dS ((Lz.auE g.n g.r g.OW g.k).2 _ rfl)
abbrev kj:X:=bj aSz
abbrev SG:X:=.f 200 kj
abbrev SH:X:=.f 201 kj
abbrev SI:X:=.f 202 kj
abbrev pI:X:=.f 203 kj
abbrev pJ:X:=.f 204 kj
abbrev SJ:X:=.f 205 kj
abbrev SK:X:=.f 206 kj
abbrev SL:X:=.f 207 kj
abbrev SM:X:=.f 208 kj
abbrev SN:X:=.f 209 kj
abbrev SO:X:=.f 210 kj
abbrev SP:X:=.f 211 kj
abbrev Na:X:=.f 212 kj
abbrev Nc:X:=.f 213 kj
abbrev Nd:X:=.f 214 kj
abbrev Nf:X:=.f 215 kj
abbrev Fe:X:=.f 216 kj
abbrev SQ:X:=.f 220 kj
abbrev SS:X:=.f 221 kj
abbrev SU:X:=.f 222 kj
abbrev SD:X:=.f 223 kj
abbrev M8:X:=.f 224 kj
abbrev Jl:X:=.f 225 kj
structure GM (E:Env):Prop where
 c:@N _ E SG=(gS E).fin.c
 w:@N _ E SH=(gS E).fin.w
 ax:@N _ E SI=(gS E).fin.ax
 used:@N _ E pI=(gS E).fin.used
 ol:@N _ E pJ=(gS E).fin.ol
 bh:@N _ E SJ=(gS E).fin.bh
 tl:@N _ E SK=(gS E).fin.tl
 td:@N _ E SL=(gS E).fin.td
 tb:@N _ E SM=(gS E).fin.tb
 node:@N _ E SN=(gS E).fin.node
 part:@N _ E SO=(gS E).fin.part
 made:@N _ E SP=(gS E).fin.made
 zl:@N _ E Na=(gS E).fin.zl
 zd:@N _ E Nc=(gS E).fin.zd
 zb:@N _ E Nd=(gS E).fin.zb
 left:@N _ E Nf=(gS E).fin.left
 st:@N _ E Fe=(gS E).fin.st
 cp:@D _ E SQ=(gS E).fin.cp
 rb:@D _ E SS=(gS E).fin.rb
 rl:@D _ E SU=(gS E).fin.rl
 rd:@D _ E SD=(gS E).fin.rd
 dL:@D _ E M8=(gS E).fin.dL
 out:@D _ E Jl=(gS E).fin.out
theorem aSK {E:Env} (hb:Lz.Bx (gS E).fin) (hs:1<=(gS E).fin.st/\(gS E).fin.st<=4):GM E:=
 ⟨Lz.lg (i:=0) dc hb.c.1 hb.c.2,Lz.lg (i:=1) dc hb.w.1 hb.w.2,Lz.lg (i:=2) dc hb.ax.1 hb.ax.2,Lz.lg (i:=3) dc hb.used.1 hb.used.2,Lz.lg (i:=4) dc hb.ol.1 hb.ol.2,Lz.lg (i:=5) dc hb.bh.1 hb.bh.2,Lz.lg (i:=6) dc hb.tl.1 hb.tl.2,Lz.lg (i:=7) dc hb.td.1 hb.td.2,Lz.lg (i:=8) dc hb.tb.1 hb.tb.2,Lz.lg (i:=9) dc hb.node.1 hb.node.2,Lz.lg (i:=10) dc hb.part.1 hb.part.2,Lz.lg (i:=11) dc hb.made.1 hb.made.2,Lz.lg (i:=12) dc hb.zl.1 hb.zl.2,Lz.lg (i:=13) dc hb.zd.1 hb.zd.2,Lz.lg (i:=14) dc hb.zb.1 hb.zb.2,Lz.lg (i:=15) dc hb.left.1 hb.left.2,Lz.lg (i:=16) dc hs.1 hs.2,Lz.Dq (j:=0) dc hb.cp,Lz.Dq (j:=1) dc hb.rb,Lz.Dq (j:=2) dc hb.rl,Lz.Dq (j:=3) dc hb.rd,Lz.Dq (j:=4) dc hb.dL,Lz.Dq (j:=5) dc hb.out⟩
abbrev M9:X:=eN 70 (.v 41)
abbrev abq:X:=bQ 61 pI
abbrev oJ:X:=bQ 41 ef
abbrev SE:X:=bQ 62 (IP pI)
abbrev SF:X:=.o2 15 zW abq
structure aPt (E:Env):Prop where
 m:GM E
 ol:@N _ E pJ=128
 st:@N _ E Fe=2
 used:@N _ E pI<=@N _ E (.v 62)
 made:@N _ E SP=@N _ E (.v 41)+128
 out:∀q:Nat,(q:Int) < 128->@D _ E Jl q=@D _ E M9 q
 next:Lz.Good (@D _ E (.v 70)) (@N _ E (.v 50)) (@N _ E abq) (@N _ E oJ) (sF E SG SH SI ae ae ae SQ SJ SS SU SD SK SL SM SN SO M8 oJ (.v 50) Na Nc Nd Nf bA SE SF)
theorem yM {E:Env} (g:GF E) (h:N (.v 41)+128 < N (.v 50)):aPt E:=by
 obtain⟨h1,h2,h3,h4,h5,h6,h7⟩:=Lz.aSN g.n g.r g.OW g.st g.k h
 have m:=aSK h4 om
 refine⟨m,by rw[m.ol,h2],by rw[m.st,h1],by rw[m.used]; exact Lz.aSQ g.n g.r g.OW g.st,by rw[m.made,h3],λq hq=>by rw[m.out,h5 q hq,oZ]; congr 1; omega,?_⟩
 have h9:=h7 (λ_=>0) (D SF) (N SE) (by have e:N pI=(gS E).fin.used:=m.used; show N (.v 62)+N pI*(-1)=N (.v 62) - (gS E).fin.used; omega) (λq _=>by
  have hu:=h4.used
  have:=g.u
  rw[oZ]
  show D zW (q+(N (.v 61)+N pI).toNat)=D zW ((gS E).fin.used.toNat+q+(N (.v 61)).toNat)
  rw[m.used]
  congr 1
  omega) (λ_=>by decide)
 have e:({(gS E).fin with used:=0,ol:=0,out:=λ_=>0,n:=N SE,fw:=D SF}:Lz.ak)=sF E SG SH SI ae ae ae SQ SJ SS SU SD SK SL SM SN SO M8 oJ (.v 50) Na Nc Nd Nf bA SE SF:=oo (c:=m.c.symm) (w:=m.w.symm) (ax:=m.ax.symm) (bh:=m.bh.symm) (tl:=m.tl.symm) (td:=m.td.symm) (tb:=m.tb.symm) (node:=m.node.symm) (part:=m.part.symm) (zl:=m.zl.symm) (zd:=m.zd.symm) (zb:=m.zb.symm) (left:=m.left.symm) (cp:=m.cp.symm) (rb:=m.rb.symm) (rl:=m.rl.symm) (rd:=m.rd.symm) (dL:=m.dL.symm) (made:=h3) (st:=h1) (plain:=(Lz.aSP g.n g.r g.OW g.st))
 have e2:N abq=N (.v 61)+(gS E).fin.used:=by rw[<- m.used]; rfl
 rw[e] at h9
 rw[e2]
 exact h9
structure aPs (E:Env):Prop where
 ol:@N _ E pJ=@N _ E (.v 50) - @N _ E (.v 41)
 st:@N _ E Fe=3
 used:@N _ E pI=@N _ E (.v 62)
 out:∀q:Nat,(q:Int) < @N _ E (.v 50) - @N _ E (.v 41)->@D _ E Jl q=@D _ E M9 q
theorem KP {E:Env} (g:GF E) (h:N (.v 50)<=N (.v 41)+128) (h0:N (.v 41) < N (.v 50)):aPs E:=by
 obtain⟨h1,h2,h3,h4,h5,h6⟩:=Lz.aSM g.n g.r g.OW g.st h
 have hk:=g.k
 have h5:0<=N (.v 62):=h5
 have h3:(gS E).fin.used=N (.v 62):=h3
 have e1:N pJ=(gS E).fin.ol:=Lz.lg (i:=4) dc (by show 0<=(gS E).fin.ol; omega) (by show (gS E).fin.ol<=128; omega)
 have e2:N Fe=(gS E).fin.st:=Lz.lg (i:=16) dc (by show 1<=(gS E).fin.st; omega) (by show (gS E).fin.st<=4; omega)
 have e3:N pI=(gS E).fin.used:=Lz.lg (i:=3) dc (by show 0<=(gS E).fin.used; omega) (by show (gS E).fin.used<=8192; omega)
 have e4:D Jl=(gS E).fin.out:=Lz.Dq (j:=5) dc h6
 refine⟨by rw[e1,h2],by rw[e2,h1],by rw[e3,h3],λq hq=>by rw[e4,h4 q hq,oZ]; congr 1; have:=g.b; omega⟩
def a3b:X:=zW
abbrev apA:VB:=[vt,BW,(3,0,4),zJ,zK,zL,zM,zN,I5,EO,BV,(28,1,255),(29,0,4),Jc,EX,Je,(51,0,257),(52,0,4096),Jf,(54,0,257),(55,1,2),(60,0,255),zR,(62,0,8192),(63,0,1048576),(70,0,255)]
abbrev Fb:X:=.i 129
abbrev aLV:Nat×Bl:=oD 10 63 a3b
abbrev aLW:V:=.dK [nM pI,.c (.sl 11 0 ae pJ .g),nM Fe]
abbrev apF:Nat×Bl:=(0,zO SG SH SI)
abbrev apG:Nat×Bl:=jj [zQ SQ,aF SJ,fu,bg,iV,aF SO,aF SN,aF SK,aF SL,rW SM]
abbrev apH:Nat×Bl:=(3,rP SS)
abbrev apI:Nat×Bl:=(5,rP SU)
abbrev apJ:Nat×Bl:=(7,vu SD)
abbrev aLX:Nat×Bl:=(8,B1 M8 (aF SP))
abbrev aLY:Nat×Bl:=vD 9 [jL,mT,vC,a8,aF SP,aF Na,aF Nc,rW Nd,aF Nf,aF Fe]
abbrev aLZ:Nat×Bl:=cj 11 pJ Jl
def aAg:Sp:=⟨nK apA [MU,.o2 1 fR Fb] KL,[mS,MW,Sq],11,[Jb,MX,MY,dU,ga,eF,gb,eG,gg,EZ,aLV],aLW,12,[apF,apG,dU,apH,eF,apI,eG,apJ,aLX,aLY,aLV,aLZ]⟩
abbrev Nk:Nat×Bl:=oD 10 63 zW
def WV:Sp:={aAg with v:=.dK [nM pI,.c (.sl 11 0 ae ef .g),nM bA],l':=[vD 9 [jL,mT,vC,a8,aF oJ,aF Na,aF Nc,rW Nd,aF Nf,cW],apF,apG,dU,apH,eF,apI,eG,apJ,(8,B1 M8 (aF oJ)),Nk,cj 11 ef M9]}
theorem a3a:ab aa 244 aAg:=dj (t:=[]) (lt:=[((244,3),aW nj)]) (m:=8) trivial ⟨avs,trivial⟩ (.is gOK true (.ge (fJ pJ) (.ge fR .lf))) ⟨λE hF=>auD (o9 hF rfl rfl rfl rfl rfl rfl mh),⟨λE hF=>(by have h:=(yM (o9 hF rfl rfl rfl rfl rfl rfl mh) (by have:=hF.g (x:=.o2 1 fR Fb) (mt mh); have e:(0:Int)<=(N (.v 50) - N (.v 41)) - 129:=this; omega)).ol; show 0<=N pJ - 1; omega),⟨λE hF=>(by have q:=hF.g (x:=.o2 1 fR Fb) (mt mh); have e:(0:Int)<=(N (.v 50) - N (.v 41)) - 129:=q; show 0<=N (.v 50) - N (.v 41); omega),df rfl⟩⟩⟩ kr
theorem aAh:ab aa 244 WV:=aL a3a [((ao pJ),(ao ef)),((ao Fe),(ao bA)),((ao SP),(ao oJ)),((bk Jl pJ),(bk M9 pJ))] _ _ (al (λE hF=>bK (yM (o9 hF rfl rfl rfl rfl rfl rfl mh) (by have:=hF.g (x:=.o2 1 fR Fb) (mt mh); have e:(0:Int)<=(N (.v 50) - N (.v 41)) - 129:=this; omega)).ol)<|al (λE hF=>bK (yM (o9 hF rfl rfl rfl rfl rfl rfl mh) (by have:=hF.g (x:=.o2 1 fR Fb) (mt mh); have e:(0:Int)<=(N (.v 50) - N (.v 41)) - 129:=this; omega)).st)<|al (λE hF=>bK (yM (o9 hF rfl rfl rfl rfl rfl rfl mh) (by have:=hF.g (x:=.o2 1 fR Fb) (mt mh); have e:(0:Int)<=(N (.v 50) - N (.v 41)) - 129:=this; omega)).made)<|al (λE hF=>(aq (λq hq=>(yM (o9 hF rfl rfl rfl rfl rfl rfl mh) (by have:=hF.g (x:=.o2 1 fR Fb) (mt mh); have e:(0:Int)<=(N (.v 50) - N (.v 41)) - 129:=this; omega)).out q (by have h:=(yM (o9 hF rfl rfl rfl rfl rfl rfl mh) (by have:=hF.g (x:=.o2 1 fR Fb) (mt mh); have e:(0:Int)<=(N (.v 50) - N (.v 41)) - 129:=this; omega)).ol; rw[h] at hq; exact hq)) _))<|aN) kr
theorem a00:aY aa (244,av WV):=cf aAh
def a29:X:=zW
abbrev aL0:Nat×Bl:=oD 10 63 a29
def aAe:Sp:=⟨nK apA [MU,bz oJ 50,kh] KL,[mS,MW,Sq],11,[Jb,MX,MY,dU,ga,eF,gb,eG,gg,EZ,aL0],aLW,12,[apF,apG,dU,apH,eF,apI,eG,apJ,aLX,aLY,aL0,aLZ]⟩
def WU:Sp:={aAe with v:=.dK [nM (.v 62),.c (.sl 11 0 ae fR .g),nM cq],l':=[Nk,cj 11 fR M9]}
theorem a28:ab aa 244 aAe:=dj (t:=[]) (lt:=[((244,3),aW nj)]) (m:=8) trivial ⟨avs,trivial⟩ (.is gOK true (.ge (fJ pJ) (.ge fR .lf))) ⟨λE hF=>auD (o9 hF rfl rfl rfl rfl rfl rfl mh),⟨λE hF=>(by have h:=(KP (o9 hF rfl rfl rfl rfl rfl rfl mh) (by have:=hF.g (x:=.o2 1 oJ (.v 50)) (mt mh); have e:(0:Int)<=(N (.v 41)+128) - N (.v 50):=this; omega) (by have:=hF.g (x:=.o2 1 fR aj) (mt (mt mh)); have e:(0:Int)<=(N (.v 50) - N (.v 41)) - 1:=this; omega)).ol; show 0<=N pJ - 1; have q:=hF.g (x:=.o2 1 fR aj) (mt (mt mh)); have e:(0:Int)<=(N (.v 50) - N (.v 41)) - 1:=q; omega),⟨λE hF=>(by have q:=hF.g (x:=.o2 1 fR aj) (mt (mt mh)); have e:(0:Int)<=(N (.v 50) - N (.v 41)) - 1:=q; show 0<=N (.v 50) - N (.v 41); omega),df rfl⟩⟩⟩ kr
theorem aAf:ab aa 244 WU:=aL a28 [((ao pI),(fP 62)),((ao pJ),(ao fR)),((ao Fe),(ao cq)),((bk Jl pJ),(bk M9 pJ))] _ _ (al (λE hF=>bK (KP (o9 hF rfl rfl rfl rfl rfl rfl mh) (by have:=hF.g (x:=.o2 1 oJ (.v 50)) (mt mh); have e:(0:Int)<=(N (.v 41)+128) - N (.v 50):=this; omega) (by have:=hF.g (x:=.o2 1 fR aj) (mt (mt mh)); have e:(0:Int)<=(N (.v 50) - N (.v 41)) - 1:=this; omega)).used)<|al (λE hF=>bK (KP (o9 hF rfl rfl rfl rfl rfl rfl mh) (by have:=hF.g (x:=.o2 1 oJ (.v 50)) (mt mh); have e:(0:Int)<=(N (.v 41)+128) - N (.v 50):=this; omega) (by have:=hF.g (x:=.o2 1 fR aj) (mt (mt mh)); have e:(0:Int)<=(N (.v 50) - N (.v 41)) - 1:=this; omega)).ol)<|al (λE hF=>bK (KP (o9 hF rfl rfl rfl rfl rfl rfl mh) (by have:=hF.g (x:=.o2 1 oJ (.v 50)) (mt mh); have e:(0:Int)<=(N (.v 41)+128) - N (.v 50):=this; omega) (by have:=hF.g (x:=.o2 1 fR aj) (mt (mt mh)); have e:(0:Int)<=(N (.v 50) - N (.v 41)) - 1:=this; omega)).st)<|al (λE hF=>(aq (λq hq=>(KP (o9 hF rfl rfl rfl rfl rfl rfl mh) (by have:=hF.g (x:=.o2 1 oJ (.v 50)) (mt mh); have e:(0:Int)<=(N (.v 41)+128) - N (.v 50):=this; omega) (by have:=hF.g (x:=.o2 1 fR aj) (mt (mt mh)); have e:(0:Int)<=(N (.v 50) - N (.v 41)) - 1:=this; omega)).out q (by have h:=(KP (o9 hF rfl rfl rfl rfl rfl rfl mh) (by have:=hF.g (x:=.o2 1 oJ (.v 50)) (mt mh); have e:(0:Int)<=(N (.v 41)+128) - N (.v 50):=this; omega) (by have:=hF.g (x:=.o2 1 fR aj) (mt (mt mh)); have e:(0:Int)<=(N (.v 50) - N (.v 41)) - 1:=this; omega)).ol; rw[h] at hq; exact hq)) _))<|aN) kr
theorem a0Z:aY aa (244,av WU):=cf aAf
end
end Go.Proofs.Y
namespace Go.Proofs.Y
open Go Go.Z
section
variable [kv]
abbrev eJ:V:=.c aoP
def HO:Lp:=⟨nK apA [MU,kh] KL,[(1,MW),(2,.c (.fn 168 [])),(7,mS),(8,eJ)],11,[Jb,MX,MY,dU,ga,eF,gb,eG,gg,EZ,Nk],.ret,[(6,eJ)],11,[Nk],fR⟩
abbrev aL1:X:=.f 103 (cN 70 50 (iF abq oJ SG SH (tC SI ae ae (iF SQ SJ SS SU (iF SD SK SL SM (iF SN SO M8 oJ (bL 50 Na (iF Nc Nd Nf bA (di SE SF)))))))))
def aZs:X:=aL1
theorem aZt:cr aa Tryz.f167.ntmps (aI 2 (loops (aC Tryz.f167))) HO HO.fa:=eX (t:=[(244,bG (av WV) (av WU))]) (lt:=[]) (m:=8) (f:=167) (k:=2) ⟨(cS (a00) (a0Z)),trivial⟩ trivial (λ_=>rfl) rfl (.tf (MB oJ 50) (.ge (cJ 62 pI) (.is aZs true .lf)) .lf) ⟨⟨λE hF=>(by
 have h:=(yM (o9 hF.1 rfl rfl rfl rfl rfl rfl mh) hF.2).used
 show 0<=N (.v 62) - N pI
 omega),⟨λE hF=>dS (yM (o9 hF.1 rfl rfl rfl rfl rfl rfl mh) hF.2).next,trivial⟩⟩,trivial⟩ kr
theorem aZq (E:Env) (hF:ah HO.fa.fx):0<=N HO.μ:=by
 have h:=hF.g (x:=.o2 1 fR aj) (mt mh)
 have e:(0:Int)<=(N (.v 50) - N (.v 41)) - 1:=h
 show 0<=N (.v 50) - N (.v 41)
 omega
theorem aZr:ct aa Tryz.f167.ntmps (aI 2 (loops (aC Tryz.f167))) HO:=aZt.all aZq
theorem aUj:cA aa ((167,2),aW HO):=dZ Tryz.func167 kr aZr
abbrev aL2:V:=oI 0 (.v 90) .a
abbrev abz:Nat×Bl:=oD 0 90 zW
abbrev fK:ai:=fQ 101
abbrev gh:ai:=fQ 102
abbrev qD:ai:=fQ 103
abbrev ff:X:=.i 224
abbrev qE(a:X):ai:=.a [.u8] ff a
abbrev vM:ai:=qE (.v 104)
abbrev oQ:ai:=fQ 105
abbrev oR:ai:=fQ 106
abbrev oS:ai:=nF (.v 107)
abbrev oT:ai:=nF (.v 108)
abbrev oN:ai:=fQ 109
abbrev oO(a:X):ai:=.a [.u8] aU a
abbrev lI:ai:=oO (.v 110)
abbrev oP:ai:=oO (.v 115)
abbrev lJ:ai:=oO (.v 116)
abbrev Jm(a:X):ai:=.a [.u8] gO a
abbrev ko:ai:=Jm (.v 111)
abbrev lK:ai:=.a [.u8] bM (.v 117)
abbrev mV:ai:=fQ 112
abbrev fc:ai:=fQ 113
abbrev kS:ai:=fQ 114
abbrev Jn(a:Nat)(b:List ai):Nat×Bl:=(a,⟨126,b,false,0⟩)
abbrev cP(a:List ai):Nat×Bl:=Jn 1 a
abbrev aLS:List (Nat×Bl):=[abz,cP [fu,fK,nR,gh,qD,vM,oQ,oR,oS,oT,oN,lI,oP,lJ,ko,lK,a8,mV,fc,kS,bg,xN]]
def aj0:Sp:=⟨fj [(50,1,4095),(70,0,255),(90,0,8192)] [cJ 90 qC,bz qC 90],[ji,aL2,.c (.fn 168 [])],6,aLS,eJ,6,aLS⟩
abbrev Nj(a:X):X:=.o2 15 a ae
abbrev aLT:X:=.f 103 (cN 70 50 (tC ae ae qx (tC bM ae ae (iF gO ae gO gO (tC gO ae ae (tC aj ae ae (bL 50 ae (tC ae ae aj (eZ 90 (Nj zW))))))))))
theorem aCN:ab aa 167 aj0:=dj (t:=[(243,av Xb)]) (lt:=[((167,2),aW HO)]) (m:=8) ⟨a1G,trivial⟩ ⟨aUj,trivial⟩ (.is aLT true .lf) ⟨λE hF=>(dS (by
 have h1:=hF.g (x:=.o2 1 (.v 90) qC) mh
 have h2:=hF.g (x:=.o2 1 qC (.v 90)) (mt mh)
 have e1:(0:Int)<=N (.v 90) - N qC:=h1
 have e2:(0:Int)<=N qC - N (.v 90):=h2
 have k:=Lz.QH (D (.v 70)) (N (.v 50))
 have e3:N qC=Lz.dk (D (.v 70)) (N (.v 50)):=rfl
 have b:=hF.b 50 rfl
 exact Lz.auF (r:=D (.v 70)) (n:=N (.v 50)) om om (m:=N (.v 90)) om (λq hq=>by
  show Lz.be (Lz.jY (D (.v 70)) (N (.v 50))) (Lz.dk (D (.v 70)) (N (.v 50))) (q+(0:Int).toNat)=_
  rw[show q+(0:Int).toNat=q from rfl,show (((Lz.dk (D (.v 70)) (N (.v 50))).toNat:Nat):Int)=Lz.dk (D (.v 70)) (N (.v 50)) by omega]) _ _ _ _ rfl rfl rfl rfl (λ_=>⟨aP 0,show (0:Int)<=255 by decide⟩) (λ_=>⟨aP 0,show (0:Int)<=255 by decide⟩))),df rfl⟩ kr
end
end Go.Proofs.Y
namespace Go.Sym
open Go Go.RowKit
section
variable {P:Program} {a:Act} {w:World} {n:Nat} {E:Nat->Option Value}
variable {dst:Option Nat} {ty:TypeId} {pos:String} {af:Array Edge} {g:Option (Nat×Bool)}
end
end Go.Sym
namespace Go.Sym
open Go
def jr (w:Nat) (f:Nat->Nat):Nat->Nat
 | 0=>0
 | k+1=>jr w f k+f k*2 ^ (w*k)
theorem QK {w:Nat} {f g:Nat->Nat}:∀{k:Nat},(∀i,i < k->f i=g i)->jr w f k=jr w g k
 | 0,_=>rfl
 | k+1,h=>by simp only[jr]; rw[QK (k:=k) (λi hi=>h i om),h k om]
theorem QL {w:Nat} {f:Nat->Nat}:∀{k:Nat},(∀i,i < k->f i < 2 ^ w)->jr w f k < 2 ^ (w*k)
 | 0,_=>by simp[jr]
 | k+1,h=>by
  have ih:=QL (w:=w) (f:=f) (k:=k) (λi hi=>h i om)
  have hk:=h k om
  simp only[jr]
  rw[Nat.mul_succ,ia]
  have h1:(f k+1)*2 ^ (w*k)<=2 ^ w*2 ^ (w*k):=Gp _ hk
  rw[yr,Up,n9 (2 ^ w)] at h1
  omega
theorem D9 {w:Nat} {f:Nat->Nat}:∀{k i:Nat},(∀i,i < k->f i < 2 ^ w)->i < k->jr w f k / 2 ^ (w*i) % 2 ^ w=f i
 | 0,i,_,hi=>by omega
 | k+1,i,h,hi=>by
  simp only[jr]
  have hp:0 < 2 ^ (w*i):=Ap _
  by_cases hik:i=k
  .subst hik
   have hl:=QL (w:=w) (f:=f) (k:=i) (λj hj=>h j om)
   rw[Uj _ _ hp,yt hl,Nat.zero_add,dE (h i hi)]
  .have ih:=D9 (w:=w) (f:=f) (k:=k) (i:=i) (λj hj=>h j om) om
   have e:2 ^ (w*k)=2 ^ (w*i)*(2 ^ w*2 ^ (w*(k - i - 1))):=by
    rw[<- ia,<- ia]
    congr 1
    have:k=i+1+(k - i - 1):=by omega
    generalize k - i - 1=q at this ⊢
    subst this
    rw[N7,N7]; omega
   rw[e,<- yu,n9 (f k),yu,asd _ _ hp,n9 (f k),yu,adY]
   exact ih
theorem Ir {w n:Nat}:∀{k:Nat},jr w (λi=>n / 2 ^ (w*i) % 2 ^ w) k=n % 2 ^ (w*k)
 | 0=>by simp[jr,sB]
 | k+1=>by
  simp only[jr]
  rw[Ir (k:=k),Nat.mul_succ,ia,Nat.mod_mul,n9 (2 ^ (w*k)) (_ % _)]
def fV (n:Nat):Nat->BitVec 8:=λi=>BitVec.ofNat 8 (n / 2 ^ (8*i))
def aJ (f:Nat->BitVec 8) (k:Nat):Nat:=jr 8 (λi=>(f i).toNat) k
theorem HU (f:Nat->BitVec 8) (k:Nat):aJ f k < 2 ^ (8*k):=QL λi _=>(f i).isLt
theorem ayV (f:Nat->BitVec 8) (k:Nat):aJ f (k+1)=aJ f k+(f k).toNat*2 ^ (8*k):=rfl
theorem a0i {f g:Nat->BitVec 8} {k:Nat} (h:∀i,i < k->f i=g i):aJ f k=aJ g k:=QK λi hi=>by rw[h i hi]
theorem GC (n i:Nat):(fV n i).toNat=n / 2 ^ (8*i) % 2 ^ 8:=by unfold fV; rw[F5]
theorem a0h (n k:Nat):aJ (fV n) k=n % 2 ^ (8*k):=by
 rw[<- Ir (w:=8) (n:=n)]; exact QK λi _=>GC n i
theorem aQC (f:Nat->BitVec 8) (k i:Nat) (h:i < k):fV (aJ f k) i=f i:=by
 apply adD
 rw[GC]
 exact D9 (λi _=>(f i).isLt) h
end Go.Sym
namespace Go.Sym
open Go
open Go.Z (R)
def pP:Nat:=57896044618658097711785492504343953926634992332820282019728792003956564819949
theorem ow:0 < pP:=by decide+kernel
def a7:Int:=2251799813947392
def dv (x:R):Int:=x 0+x 1*2251799813685248+x 2*5070602400912917605986812821504+x 3*11417981541647679048466287755595961091061972992+x 4*25711008708143844408671393477458601640355247900524685364822016
def val (x:R):Nat:=(dv x).toNat
def Ok (x:R):Prop:=∀i,i < 5->0<=x i/\x i<=a7
def cl (r:R):R:=λi=>if 0<=r i/\r i<=a7 then r i else 0
theorem iL (r:R) (i:Nat):0<=cl r i/\cl r i<=a7:=by unfold cl a7; split <;>omega
theorem Ay {x:R} (h:Ok x) {i:Nat} (hi:i < 5):cl x i=x i:=if_pos (h i hi)
theorem GJ (x:R):Ok (cl x):=λi _=>iL x i
theorem auy {x y:R} (h:∀i,i < 5->x i=y i):dv x=dv y:=by
 unfold dv
 rw[h 0 dc,h 1 dc,h 2 dc,h 3 dc,h 4 dc]
theorem aSv {x:R} (h:Ok x):dv (cl x)=dv x:=auy λ_ hi=>Ay h hi
theorem auw {x:R} (h:Ok x):0<=dv x/\dv x < 115792089237316195423570985008687907853269984665640564039457584007913129639898:=by
 have h0:=h 0 dc; have h1:=h 1 dc; have h2:=h 2 dc; have h3:=h 3 dc; have h4:=h 4 dc
 unfold a7 at*
 unfold dv
 omega
theorem xh {x:R} (h:Ok x):(val x:Int)=dv x:=yl (auw h).1
theorem val_mod {x:R} {b:Nat} {k:Int} (h:Ok x) (e:dv x+57896044618658097711785492504343953926634992332820282019728792003956564819949*k=b):val x % pP=b % pP:=by
 rw[<- xh h] at e
 have:((val x:Nat):Int) % (pP:Int)=(b:Int) % (pP:Int):=by
  rw[<- e,show (57896044618658097711785492504343953926634992332820282019728792003956564819949:Int)=(pP:Int) from rfl,aPv]
 exact_mod_cast this
def ja (s:R):R:=λi=>s i % 2251799813685248+(if i=0 then s 4 / 2251799813685248*19 else s (i - 1) / 2251799813685248)
theorem atk (s:R):dv (ja s)+57896044618658097711785492504343953926634992332820282019728792003956564819949*(s 4 / 2251799813685248)=dv s:=by
 simp[dv,ja]
 omega
theorem uC {p:Nat->Prop} (h0:p 0) (h1:p 1) (h2:p 2) (h3:p 3) (h4:p 4):∀i,i < 5->p i
 | 0,_=>h0 | 1,_=>h1 | 2,_=>h2 | 3,_=>h3 | 4,_=>h4
 | i+5,h=>absurd h om
theorem aQU {s t:R} (h:∀i,i < 5->s i=t i):∀i,i < 5->ja s i=ja t i:=λi hi=>by
 unfold ja
 rw[h i hi,h 4 dc,h (i - 1) om]
def Sm (s:R):Prop:=∀i,i < 5->0<=s i/\s i<=18446744073709551615
theorem atj {s:R} (h:Sm s):Ok (ja s):=by
 have h0:=h 0 dc; have h1:=h 1 dc; have h2:=h 2 dc; have h3:=h 3 dc; have h4:=h 4 dc
 refine uC ?_ ?_ ?_ ?_ ?_ <;>simp[ja,a7] <;>omega
def jT (s:R):R:=cl (ja s)
theorem Vj {s:R} (h:Sm s):dv (jT s)+57896044618658097711785492504343953926634992332820282019728792003956564819949*(s 4 / 2251799813685248)=dv s:=by
 unfold jT
 rw[aSv (atj h)]
 exact atk s
theorem Vi {s t:R} (h:∀i,i < 5->s i=t i):∀i,i < 5->jT s i=jT t i:=λi hi=>by
 unfold jT cl
 rw[aQU h i hi]
def uA (x y:R):R:=jT λi=>x i+y i
def mF (x y:R):R:=jT λi=>x i - y i+(if i=0 then 4503599627370458 else 4503599627370494)
def fq (x y:R):R
 | 0=>x 0*y 0+19*(x 1*y 4+x 2*y 3+x 3*y 2+x 4*y 1)
 | 1=>x 0*y 1+x 1*y 0+19*(x 2*y 4+x 3*y 3+x 4*y 2)
 | 2=>x 0*y 2+x 1*y 1+x 2*y 0+19*(x 3*y 4+x 4*y 3)
 | 3=>x 0*y 3+x 1*y 2+x 2*y 1+x 3*y 0+19*(x 4*y 4)
 | _=>x 0*y 4+x 1*y 3+x 2*y 2+x 3*y 1+x 4*y 0
def eW (x y:R):R:=jT (ja (fq x y))
theorem a8g {x y:R} (hx:Ok x) (hy:Ok y) (i j:Nat) (hi:i < 5) (hj:j < 5):0<=x i*y j/\x i*y j<=5070602402093509226772943601664:=by
 have h:=hx i hi
 have g:=hy j hj
 refine⟨we h.1 g.1,?_⟩
 exact T7 (adQ h.2 g.2 g.1 dc) dc
theorem ayL {x y:R} (hx:Ok x) (hy:Ok y):∀i,i < 5->0<=fq x y i/\fq x y i<=(77 - 18*i)*5070602402093509226772943601664:=by
 have b:=a8g hx hy
 refine uC ?_ ?_ ?_ ?_ ?_
 .have:=b 0 0 dc dc; have:=b 1 4 dc dc; have:=b 2 3 dc dc; have:=b 3 2 dc dc; have:=b 4 1 dc dc
  simp only[fq]; omega
 .have:=b 0 1 dc dc; have:=b 1 0 dc dc; have:=b 2 4 dc dc; have:=b 3 3 dc dc; have:=b 4 2 dc dc
  simp only[fq]; omega
 .have:=b 0 2 dc dc; have:=b 1 1 dc dc; have:=b 2 0 dc dc; have:=b 3 4 dc dc; have:=b 4 3 dc dc
  simp only[fq]; omega
 .have:=b 0 3 dc dc; have:=b 1 2 dc dc; have:=b 2 1 dc dc; have:=b 3 0 dc dc; have:=b 4 4 dc dc
  simp only[fq]; omega
 .have:=b 0 4 dc dc; have:=b 1 3 dc dc; have:=b 2 2 dc dc; have:=b 3 1 dc dc; have:=b 4 0 dc dc
  simp only[fq]; omega
theorem aZ9 (x y:R):dv (fq x y)+57896044618658097711785492504343953926634992332820282019728792003956564819949*(x 1*y 4+x 2*y 3+x 3*y 2+x 4*y 1+(x 2*y 4+x 3*y 3+x 4*y 2)*2251799813685248+(x 3*y 4+x 4*y 3)*5070602400912917605986812821504+x 4*y 4*11417981541647679048466287755595961091061972992)=dv x*dv y:=by
 simp only[dv,fq]
 grind
theorem aZ8 {x y:R} (hx:Ok x) (hy:Ok y):Sm (ja (fq x y)):=by
 have b:=ayL hx hy
 have h0:=b 0 dc; have h1:=b 1 dc; have h2:=b 2 dc; have h3:=b 3 dc; have h4:=b 4 dc
 refine uC ?_ ?_ ?_ ?_ ?_ <;>simp[ja] <;>omega
def Tw (x:R) (n:Nat):Prop:=Ok x/\n < pP/\val x % pP=n
theorem Tw.ok {x:R} {n:Nat} (h:Tw x n):Ok x:=h.1
theorem Tw.eq {x:R} {n:Nat} (h:Tw x n):val x % pP=n:=h.2.2
theorem Tw.of {x:R} {b:Nat} {k:Int} (h:Ok x) (e:dv x+57896044618658097711785492504343953926634992332820282019728792003956564819949*k=b):Tw x (b % pP):=⟨h,gT _ ow,val_mod h e⟩
theorem Tw.add {x y:R} {m n:Nat} (hx:Tw x m) (hy:Tw y n):Tw (uA x y) ((m+n) % pP):=by
 rw[<- hx.2.2,<- hy.2.2,<- adX]
 have b:=hx.1; have c:=hy.1
 unfold Ok a7 at b c
 refine .of (GJ _) (k:=(x 4+y 4) / 2251799813685248) ?_
 rw[uc,xh hx.1,xh hy.1]
 have e:=Vj (s:=λi=>x i+y i) (λi hi=>by have:=b i hi; have:=c i hi; dsimp only; omega)
 have e2:dv (λi=>x i+y i)=dv x+dv y:=by simp only[dv]; omega
 rw[<- e2]
 exact e
theorem a9L (v m n p:Nat) (_hm:m < p) (hn:n < p) (hv:v < p) (h:(v+n) % p=m):v=(m+p - n) % p:=by
 rcases Ao (v+n) p with h1 | h1
 .rw[dE h1] at h
  rw[show m+p - n=v+p by omega,Nat.add_mod_right,dE hv]
 .rw[Nat.mod_eq_sub_mod h1,dE om] at h
  rw[show m+p - n=v by omega,dE hv]
theorem Tw.sub {x y:R} {m n:Nat} (hx:Tw x m) (hy:Tw y n):Tw (mF x y) ((m+pP - n) % pP):=by
 have b:=hx.1; have c:=hy.1
 unfold Ok a7 at b c
 refine⟨GJ _,gT _ ow,a9L _ _ _ _ hx.2.1 hy.2.1 (gT _ ow) ?_⟩
 rw[<- hy.2.2,<- adX,<- hx.2.2]
 have e:=Vj (s:=λi=>x i - y i+(if i=0 then 4503599627370458 else 4503599627370494)) (λi hi=>by have:=b i hi; have:=c i hi; dsimp only; split <;>omega)
 have e2:dv (λi=>x i - y i+(if i=0 then 4503599627370458 else 4503599627370494))=dv x - dv y+2*57896044618658097711785492504343953926634992332820282019728792003956564819949:=by simp[dv]; omega
 rw[e2] at e
 generalize (x 4 - y 4+(if 4=0 then 4503599627370458 else 4503599627370494)) / 2251799813685248=k at e
 have h3:((val (mF x y)+val y:Nat):Int)+(pP:Int)*(k - 2)=(val x:Int):=by
  rw[uc,xh (x:=mF x y) (GJ _),xh hy.1,xh hx.1]
  show dv (jT _)+_+57896044618658097711785492504343953926634992332820282019728792003956564819949*_=_
  omega
 have:((val (mF x y)+val y:Nat):Int) % (pP:Int)=(val x:Int) % (pP:Int):=by rw[<- h3,aPv]
 exact_mod_cast this
theorem Tw.mul {x y:R} {m n:Nat} (hx:Tw x m) (hy:Tw y n):Tw (eW x y) (m*n % pP):=by
 rw[<- hx.2.2,<- hy.2.2,<- Nat.mul_mod]
 have e:=Vj (aZ8 hx.1 hy.1)
 have e1:=atk (fq x y)
 have e2:=aZ9 x y
 rw[<- xh hx.1,<- xh hy.1,<- gm] at e2
 rw[<- e1,<- e,Int.add_assoc,Int.add_assoc,<- adP,<- adP] at e2
 exact .of (GJ _) e2
def et (n:Nat):R:=λi=>((n / 2 ^ (51*i) % 2 ^ 51:Nat):Int)
theorem K2 (n:Nat):Ok (et n):=λi _=>by
 unfold et a7
 have:=gT (n / 2 ^ (51*i)) (show 0 < 2 ^ 51 by decide)
 omega
theorem afD (n:Nat):val (et n)=n % 2 ^ 255:=by
 have h:((val (et n):Nat):Int)=(jr 51 (λi=>n / 2 ^ (51*i) % 2 ^ 51) 5:Nat):=by
  rw[xh (K2 n)]
  simp only[jr,dv,et,uc,gm]
  simp
 rw[Ir] at h
 exact Int.ofNat.inj h
theorem Tw.read (f:Nat->BitVec 8):Tw (et (aJ f 32)) (aJ f 32 % 2 ^ 255 % pP):=⟨K2 _,gT _ ow,by rw[afD]⟩
theorem Tw.small {n:Nat} (h:n < 2 ^ 64):Tw (et n) n:=by
 have h2:n < pP:=Gn h (by decide+kernel)
 exact⟨K2 _,h2,by rw[afD,dE (Gn h dc),dE h2]⟩
theorem avp {l:R} {n:Nat} {z:Int} (hl:∀i,i < 5->0<=l i/\l i < 2251799813685248) (hz:0<=z/\z < 2251799813685248) (h:dv l+57896044618658097711785492504343953926634992332820282019728792003956564819968*z=n):∀i,i < 5->et n i=l i:=λi hi=>by
 have e:n=jr 51 (λi=>if i < 5 then (l i).toNat else z.toNat) 6:=by
  have:=hl 0 dc; have:=hl 1 dc; have:=hl 2 dc; have:=hl 3 dc; have:=hl 4 dc
  simp only[jr]
  unfold dv at h
  simp
  omega
 unfold et
 rw[e,D9 (λj hj=>by
  by_cases c:j < 5
  .have:=hl j c; simp[c]; omega
  .simp[c]; omega) (show i < 6 by omega),if_pos hi]
 exact yl (hl i hi).1
def rf (c:R):Int:=(c 4+(c 3+(c 2+(c 1+(c 0+19) / 2251799813685248) / 2251799813685248) / 2251799813685248) / 2251799813685248) / 2251799813685248
def sU (q:Int) (c:R):Nat->Int
 | 0=>q*19+c 0
 | k+1=>sU q c k / 2251799813685248+c (k+1)
abbrev lsR (c:R):Nat->Int:=sU (rf c) c
theorem aTE {x:R} (hx:Ok x):∀i,i < 5->et (val x % pP) i=lsR (jT x) i % 2251799813685248:=by
 have hs:Sm x:=λi hi=>by have:=hx i hi; unfold a7 at this; omega
 have e:=Vj hs
 have hc:Ok (jT x):=GJ _
 have hv:val (jT x) % pP=val x % pP:=val_mod hc (k:=x 4 / 2251799813685248) (by rw[e,xh hx])
 rw[<- hv]
 refine avp (l:=λi=>lsR (jT x) i % 2251799813685248) (z:=0) (λi _=>by omega) ⟨by decide,by decide⟩ ?_
 rw[Int.mul_zero,Int.add_zero]
 have hf:=auw hc
 have hg:=xh hc
 generalize jT x=c at*
 have b0:=hc 0 dc; have b1:=hc 1 dc; have b2:=hc 2 dc; have b3:=hc 3 dc; have b4:=hc 4 dc
 have hn:(dv c < 57896044618658097711785492504343953926634992332820282019728792003956564819949/\((val c % pP:Nat):Int)=dv c)\/(57896044618658097711785492504343953926634992332820282019728792003956564819949<=dv c/\((val c % pP:Nat):Int)=dv c - 57896044618658097711785492504343953926634992332820282019728792003956564819949):=by
  unfold pP; omega
 clear hv e
 generalize ((val c % pP:Nat):Int)=n at*
 have hq:57896044618658097711785492504343953926634992332820282019728792003956564819968*rf c<=dv c+19/\dv c+19 < 57896044618658097711785492504343953926634992332820282019728792003956564819968*(rf c+1):=by
  unfold dv rf
  omega
 have hQ:0<=rf c/\rf c<=1/\(rf c=0↔dv c < 57896044618658097711785492504343953926634992332820282019728792003956564819949):=by omega
 clear hq hg
 show dv (λi=>sU (rf c) c i % 2251799813685248)=n
 generalize rf c=q at*
 have hs:dv (λi=>sU q c i % 2251799813685248)+57896044618658097711785492504343953926634992332820282019728792003956564819968*(sU q c 4 / 2251799813685248)=dv c+19*q:=by
  simp only[dv,sU,Nat.zero_add,Nat.reduceAdd]
  omega
 have hb:0<=dv (λi=>sU q c i % 2251799813685248)/\dv (λi=>sU q c i % 2251799813685248) < 57896044618658097711785492504343953926634992332820282019728792003956564819968:=by
  simp only[dv]
  omega
 rcases hn with hn | hn <;>omega
def bv (r:R) (i:Nat):BitVec 8:=BitVec.ofInt 8 (r i)
def w8 (r:R) (j:Nat):Int:=r (8*j)+r (8*j+1)*256+r (8*j+2)*65536+r (8*j+3)*16777216+r (8*j+4)*4294967296+r (8*j+5)*1099511627776+r (8*j+6)*281474976710656+r (8*j+7)*72057594037927936
def By (r:R):Prop:=∀i,0<=r i/\r i<=255
theorem GB {r:R} (h:By r) (i:Nat):(((bv r i).toNat:Nat):Int)=r i:=by
 have:=h i
 unfold bv
 rw[arT]
 omega
theorem ve {r:R} (h:By r) (j:Nat):0<=w8 r j/\w8 r j < 18446744073709551616:=by
 have:=h (8*j); have:=h (8*j+1); have:=h (8*j+2); have:=h (8*j+3); have:=h (8*j+4); have:=h (8*j+5); have:=h (8*j+6); have:=h (8*j+7)
 unfold w8
 omega
theorem Pq {r:R} (h:By r):∀j,((aJ (bv r) (8*j+8):Nat):Int)=aJ (bv r) (8*j)+w8 r j*((2 ^ (64*j):Nat):Int):=λj=>by
 have e:∀k,((aJ (bv r) (k+1):Nat):Int)=aJ (bv r) k+r k*((2 ^ (8*k):Nat):Int):=λk=>by
  rw[show aJ (bv r) (k+1)=aJ (bv r) k+(bv r k).toNat*2 ^ (8*k) from rfl,uc,gm,GB h]
 rw[e,e,e,e,e,e,e,e]
 simp only[N7,<- yu,ia,gm,Nat.reduceMul,Nat.reducePow]
 unfold w8
 generalize ((2 ^ (64*j):Nat):Int)=P
 simp
 grind
theorem a0g {r:R} (h:By r):((aJ (bv r) 32:Nat):Int)=w8 r 0+w8 r 1*18446744073709551616+w8 r 2*340282366920938463463374607431768211456+w8 r 3*6277101735386680763835789423207666416102355444464034512896:=by
 rw[Pq h 3,Pq h 2,Pq h 1,Pq h 0]
 simp[aJ,jr]
def uF (r:R):R
 | 0=>w8 r 0 % 2251799813685248
 | 1=>(w8 r 0 / 2251799813685248+w8 r 1*8192 % 18446744073709551616) % 2251799813685248
 | 2=>(w8 r 1 / 274877906944+w8 r 2*67108864 % 18446744073709551616) % 2251799813685248
 | 3=>(w8 r 2 / 33554432+w8 r 3*549755813888 % 18446744073709551616) % 2251799813685248
 | _=>w8 r 3 / 4096 % 2251799813685248
theorem aSt {r:R} (h:By r):∀i,i < 5->et (aJ (bv r) 32) i=uF r i:=by
 have b0:=ve h 0; have b1:=ve h 1; have b2:=ve h 2; have b3:=ve h 3
 refine avp (z:=w8 r 3 / 9223372036854775808) (uC ?_ ?_ ?_ ?_ ?_) om ?_
 .simp only[uF]; omega
 .simp only[uF]; omega
 .simp only[uF]; omega
 .simp only[uF]; omega
 .simp only[uF]; omega
 .rw[a0g h]
  simp only[dv,uF]
  omega
def iP (a b:Int):Int:=((a.toNat ||| b.toNat:Nat):Int)
def bV (n:Nat):R:=λq=>((fV n q).toNat:Int)
def kF (r:R) (i:Nat) (v:Int):R:=λq=>if q=i then v else r q
theorem aQD (n i:Nat) (b:BitVec 8) (hn:n < 2 ^ i) (hb:b.toNat < 2):(λj=>if j=i / 8 then fV n (i / 8) ||| b <<< (i % 8) else fV n j)=fV (n+b.toNat*2 ^ i):=by
 have e:2 ^ i=2 ^ (8*(i / 8))*2 ^ (i % 8):=by rw[<- ia]; congr 1; omega
 have hp:0 < 2 ^ (8*(i / 8)):=Ap _
 funext j
 apply adD
 by_cases hj:j=i / 8
 .subst hj
  rw[if_pos rfl,adE,GC,GC,BitVec.toNat_shiftLeft,e,<- yu,n9 b.toNat,yu,asd _ _ hp]
  have hq:n / 2 ^ (8*(i / 8)) < 2 ^ (i % 8):=by rw[Nat.div_lt_iff_lt_mul hp,n9,<- e]; exact hn
  have h7:2 ^ (i % 8)<=2 ^ 7:=ad6 dc om
  have hprod:b.toNat*2 ^ (i % 8) < 2 ^ 8:=by
   have:=J7 (show b.toNat<=1 by omega) h7
   omega
  rw[dE (a:=n / 2 ^ (8*(i / 8))) om,asi,dE hprod]
  have h1:n / 2 ^ (8*(i / 8)) ||| b.toNat*2 ^ (i % 8)=n / 2 ^ (8*(i / 8))+b.toNat*2 ^ (i % 8):=by
   rw[Nat.or_comm,<- asi,<- Nat.shiftLeft_add_eq_or_of_lt hq,Nat.add_comm]
  rw[h1]
  have h2:b.toNat*2 ^ (i % 8)<=1*2 ^ (i % 8):=Gp _ om
  exact (dE om).symm
 .rw[if_neg hj,GC,GC]
  by_cases hlt:j < i / 8
  .have e2:2 ^ i=2 ^ (8*j)*(2 ^ 8*2 ^ (i - 8*j - 8)):=by rw[<- ia,<- ia]; congr 1; omega
   rw[e2,<- yu,n9 b.toNat,yu,asd _ _ (Ap _),asf,adY]
  .have hge:2 ^ (i+1)<=2 ^ (8*j):=ad6 dc om
   have h2:b.toNat*2 ^ i<=1*2 ^ i:=Gp _ om
   rw[yv] at hge
   rw[yt om,yt om]
theorem aQB (n i b:Nat) (hn:n < 2 ^ i) (hb:b < 2):kF (bV n) (i / 8) (iP (bV n (i / 8)) ((b:Int)*((2 ^ (i % 8):Nat):Int) % 256))=bV (n+b*2 ^ i):=by
 have h:=aQD n i (BitVec.ofNat 8 b) hn (by rw[F5]; omega)
 rw[show (BitVec.ofNat 8 b).toNat=b by rw[F5]; omega] at h
 funext q
 have h:=congrArg (λz:BitVec 8=>((z.toNat:Nat):Int)) (congrFun h q)
 unfold bV kF
 rw[<- h]
 split
 .rw[adE,BitVec.toNat_shiftLeft,asi,F5,dE (show b < 2 ^ 8 by omega)]
  unfold iP
  rw[fg,<- gm,show (256:Int)=((256:Nat):Int) from rfl,<- Ga,fg]
 .rfl
def Om (l:R) (i:Nat):Nat:=(l (i / 51)).toNat / 2 ^ (i % 51) % 2
theorem aQm {l:R} {n i:Nat} (h:l (i / 51)=et n (i / 51)):Om l i=n / 2 ^ i % 2:=by
 unfold Om et at*
 rw[h,fg]
 have e:2 ^ i=2 ^ (51*(i / 51))*2 ^ (i % 51):=by rw[<- ia]; congr 1; omega
 rw[e,<- J6]
 generalize n / 2 ^ (51*(i / 51))=m
 have e2:(2:Nat) ^ 51=2 ^ (i % 51)*(2*2 ^ (50 - i % 51)):=by rw[<- ash,<- ia]; congr 1; omega
 rw[e2,ad4,Un]
def qS (l:R):Nat->R->R
 | 0,m=>m
 | c+1,m=>qS l c (kF m ((254 - c) / 8) (iP (m ((254 - c) / 8)) ((Om l (254 - c):Int)*((2 ^ ((254 - c) % 8):Nat):Int) % 256)))
theorem as8 {l:R} {n:Nat} (h:∀i,i < 5->l i=et n i):∀c,c<=255->qS l c (bV (n % 2 ^ (255 - c)))=bV (n % 2 ^ 255)
 | 0,_=>rfl
 | c+1,hc=>by
  unfold qS
  rw[aQm (h ((254 - c) / 51) om),show 255 - (c+1)=254 - c by omega,aQB _ _ _ (gT _ (Ap _)) (gT _ dc),n9 (n / _ % 2),<- Nat.mod_mul,<- yv,show (254 - c).succ=255 - c by omega]
  exact as8 h c om
theorem aeo {r:R} (h:By r) {i:Nat} (hi:i < 256):(r (i / 8)).toNat / 2 ^ (i % 8) % 2=aJ (bv r) 32 / 2 ^ i % 2:=by
 have e:=D9 (w:=8) (f:=λj=>(bv r j).toNat) (k:=32) (i:=i / 8) (λj _=>(bv r j).isLt) om
 have e1:(r (i / 8)).toNat=(bv r (i / 8)).toNat:=by have:=GB h (i / 8); omega
 rw[e1,<- e]
 have e2:2 ^ i=2 ^ (8*(i / 8))*2 ^ (i % 8):=by rw[<- ia]; congr 1; omega
 rw[e2,<- J6]
 show aJ (bv r) 32 / _ % _ / _ % 2=_
 generalize aJ (bv r) 32 / 2 ^ (8*(i / 8))=m
 have e3:(2:Nat) ^ 8=2 ^ (i % 8)*(2*2 ^ (7 - i % 8)):=by rw[<- ash,<- ia]; congr 1; omega
 rw[e3,ad4,Un]
theorem o5 {r:R} (h:∀i,0<=r i/\r i<=a7):cl r=r:=funext λi=>if_pos (h i)
theorem avo {n:Nat} (h:n < 2 ^ 51):et n=λq=>if q=0 then (n:Int) else 0:=by
 funext q
 unfold et
 split
 .rename_i e
  rw[e,Nat.mul_zero,wj,Gj,dE h]
 .rw[yt (lP h (ad6 dc om))]; rfl
theorem AU (n i:Nat):0<=et n i/\et n i<=a7:=by
 unfold et a7
 have:=gT (n / 2 ^ (51*i)) (show 0 < 2 ^ 51 by decide)
 omega
theorem Ot {n i:Nat}:bV n i=((n / 2 ^ (8*i) % 2 ^ 8:Nat):Int):=by unfold bV; rw[GC]
theorem as6 {m n:Nat} (hm:m < 2 ^ 256) (hn:n < 2 ^ 256):(∀i,i < 32->bV m i=bV n i)↔m=n:=by
 refine⟨λh=>?_,λh _ _=>by rw[h]⟩
 have a:=Ir (w:=8) (n:=m) (k:=32)
 have b:=Ir (w:=8) (n:=n) (k:=32)
 rw[dE hm] at a
 rw[dE hn] at b
 rw[<- a,<- b]
 exact QK λi hi=>by have:=h i hi; rw[Ot,Ot] at this; exact Int.ofNat.inj this
theorem a_U:Ok (λ_=>0):=λ_ _=>⟨aP _,show (0:Int)<=a7 by decide⟩
theorem Tw.zero:Tw (λ_=>0) 0:=⟨a_U,ow,by decide+kernel⟩
theorem Tw.neg {x:R} {n:Nat} (hx:Tw x n):Tw (mF (λ_=>0) x) ((0+pP - n) % pP):=Tw.zero.sub hx
end Go.Sym
namespace Go.Sym
open Go
open Go.Z (R tf)
def dJ:Nat:=7237005577332262213973186563042994240857116359379907606001950938285454250989
theorem PG:0 < dJ:=by decide+kernel
theorem azB:dJ < 2 ^ 253:=by decide+kernel
def Q5:Nat:=2 ^ (64*8)
theorem CY:Q5=2 ^ (64*8):=by unfold Q5; exact Eq.refl _
attribute [irreducible] Q5
theorem Kb:Q5=2 ^ 256*2 ^ 256:=by rw[CY,show 64*8=256+256 from rfl]; exact ia 2 256 256
theorem aPM:Q5=2 ^ 64*(2 ^ 192*2 ^ 256):=by rw[Kb,<- yu,<- ia]
def wv (r:R):Nat:=jr 64 (λi=>(r i).toNat) 8
def lw (r:R):Nat:=jr 64 (λi=>(r i).toNat) 4
def wR (n:Nat):R:=λq=>((n / 2 ^ (64*q) % 2 ^ 64:Nat):Int)
def Wd (r:R) (k:Nat):Prop:=∀i,i < k->0<=r i/\r i<=18446744073709551615
def pv (r:R):Nat->Int
 | 0=>0
 | k+1=>pv r k+r k*((2 ^ (64*k):Nat):Int)
theorem Bm (n q:Nat):0<=wR n q/\wR n q<=18446744073709551615:=by
 have:=gT (n / 2 ^ (64*q)) (show 0 < 2 ^ 64 by decide)
 unfold wR
 omega
theorem Bo (n:Nat):wv (wR n)=n % Q5:=by
 rw[CY]
 exact Ir (w:=64) (n:=n) (k:=8)
theorem Yt {r:R} (h:Wd r 8) {i:Nat} (hi:i < 8):wR (wv r) i=r i:=by
 have e:wv r / 2 ^ (64*i) % 2 ^ 64=(r i).toNat:=D9 (f:=λi=>(r i).toNat) (λj hj=>by have:=h j hj; omega) hi
 unfold wR
 rw[e,yl (h i hi).1]
theorem alu {a b:R} (h:∀i,i < 8->a i=b i):wv a=wv b:=QK λi hi=>by rw[h i hi]
theorem alv {r:R} (h:Wd r 8):wv r < Q5:=by
 rw[CY]
 exact QL (w:=64) (k:=8) λj hj=>by have:=h j hj; omega
theorem w4 {r:R}:∀{k},Wd r k->((jr 64 (λi=>(r i).toNat) k:Nat):Int)=pv r k
 | 0,_=>rfl
 | k+1,h=>by
  simp only[jr,pv,uc,gm,w4 (k:=k) λi hi=>h i om,yl (h k om).1]
theorem akp (k:Nat):((2 ^ (64*(k+1)):Nat):Int)=((2 ^ (64*k):Nat):Int)*18446744073709551616:=by
 rw[Nat.mul_succ,ia,gm]
 rfl
theorem Xs {r:R} {k:Nat} (h:Wd r k):0<=pv r k/\pv r k < ((2 ^ (64*k):Nat):Int):=by
 rw[<- w4 h]
 exact⟨kZ _,Int.ofNat_lt.2 (QL λj hj=>by have:=h j hj; omega)⟩
theorem XG {r:R} (h:Wd r 8) {n:Nat} {c:Int} (e:(n:Int)=pv r 8+c*((2 ^ (64*8):Nat):Int)) {i:Nat} (hi:i < 8):wR (n % Q5) i=r i:=by
 have b:=Xs h
 rw[<- Yt h hi]
 congr 1
 have:((n % Q5:Nat):Int)=wv r:=by
  rw[Ga,e,CY,Int.add_mul_emod_self_right,T6 b.1 b.2]
  exact (w4 h).symm
 exact Int.ofNat.inj this
def bo (a b:R):Nat->Int
 | 0=>0
 | k+1=>tf (decide (a k < b k+bo a b k))
def wy (a b:R):R:=λk=>(a k - b k - bo a b k) % 18446744073709551616
def co (a b:R):Nat->Int
 | 0=>0
 | k+1=>tf (decide (18446744073709551616<=a k+b k+co a b k))
def D5 (a b:R):R:=λk=>(a k+b k+co a b k) % 18446744073709551616
theorem s9 (p:Prop) [Decidable p]:tf (decide p)=if p then 1 else 0:=by by_cases h:p <;>simp[h,tf]
theorem agD (f:R) (k:Nat):Wd (λi=>f i % 18446744073709551616) k:=λi _=>by dsimp only; omega
theorem aeJ {a b:R}:∀{k},Wd a k->Wd b k->(0<=bo a b k/\bo a b k<=1)/\pv a k+bo a b k*((2 ^ (64*k):Nat):Int)=pv b k+pv (wy a b) k
 | 0,_,_=>⟨by unfold bo; omega,rfl⟩
 | k+1,ha,hb=>by
  obtain⟨h1,h2⟩:=aeJ (k:=k) (λi hi=>ha i om) λi hi=>hb i om
  have:=ha k om; have:=hb k om
  have e:wy a b k=(a k - b k - bo a b k) % 18446744073709551616:=rfl
  have e2:bo a b (k+1)=if a k < b k+bo a b k then 1 else 0:=s9 _
  have e3:a k - b k - bo a b k=wy a b k - bo a b (k+1)*18446744073709551616:=by rw[e,e2]; split <;>omega
  refine⟨by rw[e2]; split <;>omega,?_⟩
  simp only[pv]
  rw[akp]
  clear e e2
  generalize ((2 ^ (64*k):Nat):Int)=P at*
  grind
theorem aEq {a b:R}:∀{k},Wd a k->Wd b k->(0<=co a b k/\co a b k<=1)/\pv a k+pv b k=pv (D5 a b) k+co a b k*((2 ^ (64*k):Nat):Int)
 | 0,_,_=>⟨by unfold co; omega,rfl⟩
 | k+1,ha,hb=>by
  obtain⟨h1,h2⟩:=aEq (k:=k) (λi hi=>ha i om) λi hi=>hb i om
  have:=ha k om; have:=hb k om
  have e:D5 a b k=(a k+b k+co a b k) % 18446744073709551616:=rfl
  have e2:co a b (k+1)=if 18446744073709551616<=a k+b k+co a b k then 1 else 0:=s9 _
  have e3:a k+b k+co a b k=D5 a b k+co a b (k+1)*18446744073709551616:=by rw[e,e2]; split <;>omega
  refine⟨by rw[e2]; split <;>omega,?_⟩
  simp only[pv]
  rw[akp]
  clear e e2
  generalize ((2 ^ (64*k):Nat):Int)=P at*
  grind
theorem avn {a b:R} (ha:Wd a 8) (hb:Wd b 8) {i:Nat} (hi:i < 8):wR ((wv a+(Q5 - wv b)) % Q5) i=wy a b i:=by
 obtain⟨_,e⟩:=aeJ ha hb
 refine XG (r:=wy a b) (agD _ 8) (c:=1 - bo a b 8) ?_ hi
 have e1:(wv a:Int)=pv a 8:=w4 ha
 have e2:(wv b:Int)=pv b 8:=w4 hb
 have l:=alv hb
 show _=pv (wy a b) 8+_
 rw[<- CY] at*
 generalize Q5=M at*
 rw[uc,Int.ofNat_sub (Nat.le_of_lt l),e1,e2,Int.sub_mul,Int.one_mul]
 omega
theorem avm {a b:R} (ha:Wd a 8) (hb:Wd b 8):bo a b 8=tf (decide (wv a < wv b)):=by
 obtain⟨c,e⟩:=aeJ ha hb
 have b1:=Xs (agD (λk=>a k - b k - bo a b k) 8)
 change _<=pv (wy a b) 8/\pv (wy a b) 8 < _ at b1
 have e1:(wv a:Int)=pv a 8:=w4 ha
 have e2:(wv b:Int)=pv b 8:=w4 hb
 have b2:=Xs ha; have b3:=Xs hb
 rw[s9]
 generalize ((2 ^ (64*8):Nat):Int)=M at*
 rcases (show bo a b 8=0\/bo a b 8=1 by omega) with h | h
 .rw[h] at e ⊢; rw[if_neg om]
 .rw[h] at e ⊢; rw[if_pos om]
theorem asL {a b:R} (ha:Wd a 8) (hb:Wd b 8) {i:Nat} (hi:i < 8):wR ((wv a+wv b) % Q5) i=D5 a b i:=by
 obtain⟨_,e⟩:=aEq ha hb
 refine XG (r:=D5 a b) (agD _ 8) (c:=co a b 8) ?_ hi
 have e1:(wv a:Int)=pv a 8:=w4 ha
 have e2:(wv b:Int)=pv b 8:=w4 hb
 rw[uc,e1,e2,e]
def Ba (t:Nat):Nat:=if t < dJ then t else t - dJ
def y9 (n:Nat):Nat->Nat->Nat
 | 0,m=>m
 | k+1,m=>y9 n k (Ba (2*m % Q5+n / 2 ^ k % 2))
theorem aD1 (n:Nat):∀k m,m < dJ->y9 n k m=(m*2 ^ k+n % 2 ^ k) % dJ
 | 0,m,h=>by rw[wj,um,sB,Nat.add_zero,dE h]; rfl
 | k+1,m,h=>by
  have h1:2*m % Q5=2*m:=dE (by
   have:=Gn h azB
   rw[Kb]
   exact lP (show 2*m < 2 ^ 256 by omega) (ase _ dc))
  have hb:=gT (n / 2 ^ k) (show 0 < 2 by decide)
  have e:Ba (2*m+n / 2 ^ k % 2) < dJ:=by unfold Ba; split <;>omega
  have e2:n % 2 ^ (k+1)=n % 2 ^ k+n / 2 ^ k % 2*2 ^ k:=by rw[yv,Nat.mod_mul,n9 (2 ^ k)]
  rw[y9,h1,aD1 n k _ e,e2,yv]
  unfold Ba
  split
  .congr 1; grind
  .have e3:m*(2 ^ k*2)+(n % 2 ^ k+n / 2 ^ k % 2*2 ^ k)=(2*m+n / 2 ^ k % 2 - dJ)*2 ^ k+n % 2 ^ k+dJ*2 ^ k:=by
    obtain⟨d,hd⟩:∃d,2*m+n / 2 ^ k % 2=d+dJ:=⟨_,(Nat.sub_add_cancel om).symm⟩
    rw[hd,Gi]
    have:m*(2 ^ k*2)+n / 2 ^ k % 2*2 ^ k=(d+dJ)*2 ^ k:=by rw[<- hd]; grind
    rw[yr] at this
    omega
   rw[e3,adY]
theorem akw {n:Nat} (h:n < Q5):y9 n (64*8) 0=n % dJ:=by
 rw[aD1 n (64*8) 0 PG,<- CY,sC,Nat.zero_add,dE h]
theorem alw {r s:R} {b:Int} {n:Nat} (hb:0<=b/\b < 2) (h0:s 0=iP (wR (2*n % Q5) 0) b) (h:∀i,0 < i->i < 8->s i=wR (2*n % Q5) i) (hr:∀i,i < 8->r i=s i):wv r=2*n % Q5+b.toNat:=by
 have e:2*n % Q5=wv (wR (2*n % Q5)):=by rw[Bo,wi]
 have ev:wR (2*n % Q5) 0 % 2=0:=by
  unfold wR
  rw[Nat.mul_zero,wj,Gj,aPM,Un]
  omega
 have b0:=Bm (2*n % Q5) 0
 have e0:iP (wR (2*n % Q5) 0) b=wR (2*n % Q5) 0+b:=by
  unfold iP
  have:=Ur (i:=1) (b:=b.toNat) om ((wR (2*n % Q5) 0).toNat / 2)
  rw[Nat.pow_one,show 2*((wR (2*n % Q5) 0).toNat / 2)=(wR (2*n % Q5) 0).toNat by omega] at this
  rw[<- this]
  omega
 rw[alu hr]
 conv=>rhs; rw[e]
 unfold wv
 simp only[jr,h0,e0,h 1 dc dc,h 2 dc dc,h 3 dc dc,h 4 dc dc,h 5 dc dc,h 6 dc dc,h 7 dc dc,Nat.mul_zero,wj]
 rw[Int.toNat_add b0.1 hb.1]
 omega
theorem alo {r:R} (h:Wd r 8) {i:Nat} (hi:i < 512):(r (i / 64)).toNat / 2 ^ (i % 64) % 2=wv r / 2 ^ i % 2:=by
 have e:wv r / 2 ^ (64*(i / 64)) % 2 ^ 64=(r (i / 64)).toNat:=D9 (f:=λi=>(r i).toNat) (λj hj=>by have:=h j hj; omega) (show i / 64 < 8 by omega)
 have e2:2 ^ i=2 ^ (64*(i / 64))*2 ^ (i % 64):=by rw[<- ia]; congr 1; omega
 rw[<- e,e2,<- J6]
 generalize wv r / 2 ^ (64*(i / 64))=m
 have e3:(2:Nat) ^ 64=2 ^ (i % 64)*(2*2 ^ (63 - i % 64)):=by rw[<- ash,<- ia]; congr 1; omega
 rw[e3,ad4,Un]
theorem ayW {r:R} (h:By r):∀k,aJ (bv r) (8*k)=jr 64 (λj=>(w8 r j).toNat) k
 | 0=>rfl
 | k+1=>by
  have e:=Pq h k
  have b:=ve h k
  rw[ayW h k] at e
  have:((aJ (bv r) (8*k+8):Nat):Int)=((jr 64 (λj=>(w8 r j).toNat) k+(w8 r k).toNat*2 ^ (64*k):Nat):Int):=by
   rw[e,uc,gm,yl b.1]
  exact Int.ofNat.inj this
theorem ag8 {r:R} (h:By r) (k:Nat) {j:Nat}:wR (aJ (bv r) (8*k)) j=if j < k then w8 r j else 0:=by
 unfold wR
 have b:=ve h j
 split
 .rename_i hj
  rw[ayW h,D9 (f:=λj=>(w8 r j).toNat) (λi _=>by have:=ve h i; omega) hj,yl b.1]
 .rename_i hj
  rw[yt (lP (HU _ _) (ad6 dc om))]
  rfl
theorem as9 {r:R} (h:Wd r 8) {k j:Nat} (hk:k < 8) (hj:j < 8):bV (wv r) (8*k+j)=(((r k).toNat>>>(8*j):Nat):Int) % 256:=by
 have e:wv r / 2 ^ (64*k) % 2 ^ 64=(r k).toNat:=D9 (f:=λi=>(r i).toNat) (λj hj=>by have:=h j hj; omega) hk
 rw[Ot,<- e,qQ,show 8*(8*k+j)=64*k+8*j by omega,ia,<- J6]
 generalize wv r / 2 ^ (64*k)=m
 have e3:(2:Nat) ^ 64=2 ^ (8*j)*(256*2 ^ (56 - 8*j)):=by rw[show 256=2 ^ 8 from rfl,<- ia,<- ia]; congr 1; omega
 rw[e3,ad4,show ((m / 2 ^ (8*j) % (256*2 ^ (56 - 8*j)):Nat):Int) % 256=((m / 2 ^ (8*j) % (256*2 ^ (56 - 8*j)) % 256:Nat):Int) from rfl,Un]
def gL (x:Int) (b:R) (p:Nat):Nat->R->Int->R×Int
 | 0,o,c=>(o,c)
 | k+1,o,c=>gL x b p k (kF o (p+(3 - k)) ((x*b (3 - k)+c+o (p+(3 - k))) % 18446744073709551616)) ((x*b (3 - k)+c+o (p+(3 - k))) / 18446744073709551616)
def vd (a b:R):Nat->R
 | 0=>λ_=>0
 | i+1=>kF (gL (a i) b i 4 (vd a b i) 0).1 (i+4) (gL (a i) b i 4 (vd a b i) 0).2
theorem ako (o:R) (j:Nat) (v:Int):∀k,pv (kF o j v) k=pv o k+if j < k then (v - o j)*((2 ^ (64*j):Nat):Int) else 0
 | 0=>by simp[pv]
 | k+1=>by
  simp only[pv,ako o j v k]
  unfold kF
  by_cases h:k=j
  .subst h
   rw[if_neg om,if_pos rfl,if_pos om]
   grind
  .rw[if_neg h]
   by_cases h2:j < k
   .rw[if_pos h2,if_pos om]; grind
   .rw[if_neg h2,if_neg om]; grind
theorem agM {x y:Int} (hx:0<=x/\x<=18446744073709551615) (hy:0<=y/\y<=18446744073709551615):0<=x*y/\x*y<=340282366920938463426481119284349108225:=
 ⟨we hx.1 hy.1,T7 (adQ hx.2 hy.2 hy.1 dc) dc⟩
theorem alj {o:R} {j k:Nat} {v:Int} (h:Wd o k) (hv:0<=v/\v<=18446744073709551615):Wd (kF o j v) k:=λi hi=>by
 unfold kF
 split
 .exact hv
 .exact h i hi
theorem X0 {x:Int} {b:R} (hx:0<=x/\x<=18446744073709551615) (hb:Wd b 4) {p n:Nat} (hp:p < 4) (hn:8<=n):∀k o c,k<=4->Wd o n->0<=c/\c<=18446744073709551615->Wd (gL x b p k o c).1 n/\(0<=(gL x b p k o c).2/\(gL x b p k o c).2<=18446744073709551615)/\(∀q,p+4<=q->(gL x b p k o c).1 q=o q)/\pv (gL x b p k o c).1 8+(gL x b p k o c).2*((2 ^ (64*(p+4)):Nat):Int)=pv o 8+x*(pv b 4 - pv b (4 - k))*((2 ^ (64*p):Nat):Int)+c*((2 ^ (64*(p+(4 - k))):Nat):Int)
 | 0,o,c,_,ho,hc=>⟨ho,hc,λ_ _=>rfl,by simp only[gL,Nat.sub_zero,adS,Int.mul_zero,N0,Int.add_zero]⟩
 | k+1,o,c,hk,ho,hc=>by
  have b1:=agM hx (hb (3 - k) om)
  have b2:=ho (p+(3 - k)) om
  obtain⟨h1,h2,h3,h4⟩:=X0 hx hb hp hn k (kF o (p+(3 - k)) ((x*b (3 - k)+c+o (p+(3 - k))) % 18446744073709551616)) ((x*b (3 - k)+c+o (p+(3 - k))) / 18446744073709551616) om (alj ho om) om
  refine⟨h1,h2,λq hq=>(h3 q hq).trans (if_neg om),?_⟩
  unfold gL
  have e3:pv b (4 - k)=pv b (3 - k)+b (3 - k)*((2 ^ (64*(3 - k)):Nat):Int):=by rw[show 4 - k=3 - k+1 by omega,pv]
  have e4:((2 ^ (64*(p+(4 - k))):Nat):Int)=((2 ^ (64*p):Nat):Int)*((2 ^ (64*(3 - k)):Nat):Int)*18446744073709551616:=by rw[show p+(4 - k)=p+(3 - k)+1 by omega,akp,N7 64 p,ia,gm]
  rw[h4,ako,if_pos om,e3,e4,show 4 - (k+1)=3 - k by omega,N7 64 p,ia,gm]
  clear e3 e4
  clear h1 h2 h3 h4
  have e:=adN (x*b (3 - k)+c+o (p+(3 - k))) 18446744073709551616
  generalize (x*b (3 - k)+c+o (p+(3 - k))) % 18446744073709551616=u at*
  generalize (x*b (3 - k)+c+o (p+(3 - k))) / 18446744073709551616=w at*
  generalize ((2 ^ (64*p):Nat):Int)=P at*
  generalize ((2 ^ (64*(3 - k)):Nat):Int)=Q at*
  have e2:u=x*b (3 - k)+c+o (p+(3 - k)) - 18446744073709551616*w:=by omega
  rw[e2]
  grind
theorem aDK:∀k,pv (λ_=>0) k=0
 | 0=>rfl
 | k+1=>by rw[pv,aDK k,N0]; rfl
theorem XZ {a b:R} (ha:Wd a 4) (hb:Wd b 4):∀k,k<=4->Wd (vd a b k) 8/\(∀q,k+4<=q->vd a b k q=0)/\pv (vd a b k) 8=pv a k*pv b 4
 | 0,_=>⟨λ_ _=>⟨aP _,show (0:Int)<=18446744073709551615 by decide⟩,λ_ _=>rfl,by rw[show vd a b 0=λ_=>0 from rfl,aDK,pv,N0]⟩
 | k+1,hk=>by
  obtain⟨h1,h2,h3⟩:=XZ ha hb k om
  obtain⟨g1,g2,g3,g4⟩:=X0 (ha k om) hb (p:=k) om (fv 8) 4 _ 0 om h1 ⟨aP _,by decide⟩
  refine⟨alj g1 g2,λq hq=>?_,?_⟩
  .show kF _ _ _ q=0
   unfold kF
   rw[if_neg om,g3 q om,h2 q om]
  .rw[vd,ako,if_pos om,g3 (k+4) om,h2 (k+4) om]
   rw[yw,show pv b 0=0 from rfl,h3] at g4
   rw[show pv a (k+1)=pv a k+a k*((2 ^ (64*k):Nat):Int) from rfl]
   generalize gL (a k) b k 4 (vd a b k) 0=t at*
   rw[Int.sub_zero,g4]
   grind
theorem akX {a b:R} (ha:Wd a 4) (hb:Wd b 4) {i:Nat} (hi:i < 8):wR (lw a*lw b % Q5) i=vd a b 4 i:=by
 obtain⟨h1,_,h3⟩:=XZ ha hb 4 om
 refine XG h1 (c:=0) ?_ hi
 rw[h3,N0,Int.add_zero,gm]
 exact congr (congrArg _ (w4 ha)) (w4 hb)
def xf (a b:R):Nat->R->R
 | 0,o=>o
 | k+1,o=>xf a b k (kF (gL (a (3 - k)) b (3 - k) 4 o 0).1 (3 - k+4) (gL (a (3 - k)) b (3 - k) 4 o 0).2)
theorem aES (a b:R):xf a b 4 (λ_=>0)=vd a b 4:=rfl
theorem Wa {n:Nat}:lw (wR n)=n % 2 ^ 256:=Ir (w:=64) (n:=n) (k:=4)
def DL (b:R) (n:Int):R:=wR (aJ (bv b) n.toNat)
def K1 (a b:R):R:=wR ((wv a+(Q5 - wv b)) % Q5)
def AY (a b:R):R:=λ_=>tf (decide (wv a < wv b))
theorem ayn (a b:R) (q:Nat):0<=AY a b q/\AY a b q<=1:=by
 unfold AY
 exact Go.Z.ru _
def C6 (a b:R):R:=wR ((wv a+wv b) % Q5)
def za (w r:R) (i:Int):R:=wR (y9 (wv w) (i+1).toNat (wv r))
def Is (a b:R):R:=wR (lw a*lw b % Q5)
def XY (x b o c p j:R):R×Int:=gL (x 0) b (p 0).toNat (4 - j 0).toNat o (c 0)
def IA (w:R):R:=bV (wv w)
end Go.Sym
namespace Go.Sym
def Pr (q:Nat):Prop:=2<=q/\∀d,d∣q->d=1\/d=q
theorem least {P:Nat->Prop} (h:∃n,P n):∃n,P n/\∀k,k < n->¬P k:=by
 obtain⟨n,hn⟩:=h
 induction n using Nat.strongRecOn with
 | ind n ih=>
  by_cases h:∃k,k < n/\P k
  .obtain⟨k,hk,hp⟩:=h; exact ih k hk hp
  .exact⟨n,hn,λk hk hp=>h ⟨k,hk,hp⟩⟩
theorem a8i {n:Nat} (h:2<=n):∃q,Pr q/\q∣n:=by
 obtain⟨q,⟨h2,hd⟩,hl⟩:=least (P:=λq=>2<=q/\q∣n) ⟨n,h,Nat.dvd_refl n⟩
 refine⟨q,⟨h2,λd hdq=>?_⟩,hd⟩
 have hpos:0 < d:=Nat.pos_of_dvd_of_pos hdq om
 have hle:d<=q:=Um om hdq
 by_cases h1:d=1
 .exact Or.inl h1
 .refine Or.inr (Nat.le_antisymm hle (Nat.not_lt.1 λhlt=>?_))
  exact hl d hlt ⟨by omega,Nat.dvd_trans hdq hd⟩
theorem Pr.aeT {q a b:Nat} (hq:Pr q) (h:q∣a*b):q∣a\/q∣b:=by
 rcases hq.2 (Nat.gcd q a) (Nat.gcd_dvd_left q a) with h1 | h1
 .exact Or.inr (Nat.Coprime.dvd_of_dvd_mul_left (show Nat.Coprime q a from h1) h)
 .exact Or.inl (h1▸Nat.gcd_dvd_right q a)
def Qs:List Nat->Nat
 | []=>1
 | q::l=>q*Qs l
theorem aDA {q:Nat} (hq:Pr q):∀{l:List Nat},(∀r,r∈l->Pr r)->q∣Qs l->q∈l
 | [],_,h=>by
  have h1:=Um dc h
  have h2:=hq.1
  simp only[Qs] at h1
  omega
 | r::l,hl,h=>by
  rcases hq.aeT h with h1 | h1
  .rcases (hl r (by simp)).2 q h1 with h2 | h2
   .have:=hq.1; omega
   .rw[h2]; simp
  .exact mt (aDA hq (λr hr=>hl r (mt hr)) h1)
def m7 (m g:Nat):Prop:=2<=m/\g ^ (m - 1) % m=1/\∀k,0 < k->k < m - 1->g ^ k % m≠1
theorem aDu {g m a b:Nat} (h:g ^ a % m=1):(g ^ a) ^ b % m=1 % m:=by
 rw[ad7,h,Nat.one_pow]
theorem a8h {m g:Nat} (l:List Nat) (hm:3<=m) (hl:∀q,q∈l->Pr q) (hp:Qs l=m - 1) (h1:g ^ (m - 1) % m=1) (hq:∀q,q∈l->g ^ ((m - 1) / q) % m≠1):m7 m g:=by
 refine⟨by omega,h1,?_⟩
 obtain⟨d,⟨hd0,hd1⟩,hmin⟩:=least (P:=λd=>0 < d/\g ^ d % m=1) ⟨m - 1,by omega,h1⟩
 have one:(1:Nat) % m=1:=dE om
 have hdvd:d∣m - 1:=by
  rcases CT ((m - 1) % d) with h | h
  .exact Nat.dvd_of_mod_eq_zero h
  .exfalso
   refine hmin ((m - 1) % d) (gT _ hd0) ⟨h,?_⟩
   have e:g ^ (m - 1)=(g ^ d) ^ ((m - 1) / d)*g ^ ((m - 1) % d):=by
    rw[<- ad8,<- ia,J5]
   rw[e,Nat.mul_mod,aDu hd1,one,Up,wi] at h1
   exact h1
 obtain⟨c,hc⟩:=hdvd
 have hc1:c=1:=by
  rcases Ao c 2 with h | h
  .rcases (show c=0\/c=1 by omega) with h0 | h0
   .rw[h0] at hc; omega
   .exact h0
  .exfalso
   obtain⟨q,hqp,c',hc'⟩:=a8i h
   have hin:q∈l:=aDA hqp hl (by rw[hp,hc,hc']; exact⟨d*c',by rw[asf]⟩)
   refine hq q hin ?_
   have hq0:0 < q:=by have:=hqp.1; omega
   have e:(m - 1) / q=d*c':=by
    rw[hc,hc',asf,Nat.mul_div_cancel_left _ hq0]
   rw[e,ad8,aDu hd1,one]
 rw[hc1,um] at hc
 intro k hk0 hk hk1
 exact hmin k om ⟨hk0,hk1⟩
theorem aEF:∀(n:Nat) (f:Nat->Nat),(∀i,i < n->f i < n)->(∀i j,i < n->j < n->f i=f j->i=j)->∀y,y < n->∃x,x < n/\f x=y
 | 0,_,_,_,y,hy=>absurd hy (CU y)
 | n+1,f,hf,inj,y,hy=>by
  have ih:=aEF n (λi=>if f i=n then f n else f i) (λi hi=>by
   show (if f i=n then f n else f i) < n
   have h1:=hf i om
   have h2:=hf n om
   split
   .have:f n≠n:=λe=>by have:=inj i n om om om; omega
    omega
   .omega) (λi j hi hj h=>by
   have h':(if f i=n then f n else f i)=(if f j=n then f n else f j):=h
   split at h' <;>split at h'
   .exact inj i j om om om
   .have:=inj n j om om h'; omega
   .have:=inj i n om om h'; omega
   .exact inj i j om om h')
  by_cases hyn:y=n
  .by_cases hfn:f n=n
   .exact⟨n,by omega,by omega⟩
   .have h2:=hf n om
    obtain⟨x,hx,he⟩:=ih (f n) om
    have he':(if f x=n then f n else f x)=f n:=he
    split at he'
    .exact⟨x,by omega,by omega⟩
    .have:=inj x n om om he'; omega
  .obtain⟨x,hx,he⟩:=ih y om
   have he':(if f x=n then f n else f x)=y:=he
   split at he'
   .exact⟨n,by omega,he'⟩
   .exact⟨x,by omega,he'⟩
theorem m7.unit {m g k:Nat} (h:m7 m g) (hk:k<=m - 1):g ^ k*g ^ (m - 1 - k) % m=1:=by
 rw[<- ia,show k+(m - 1 - k)=m - 1 by omega]; exact h.2.1
theorem m7.inj {m g i j:Nat} (h:m7 m g) (hij:i < j) (hj:j < m - 1):g ^ i % m≠g ^ j % m:=λe=>by
 refine h.2.2 (j - i) om om ?_
 have e1:=h.unit (k:=i) om
 rw[Nat.mul_mod,e,<- Nat.mul_mod,show g ^ j=g ^ i*g ^ (j - i) by rw[<- ia,Nat.add_sub_cancel' om],Nat.mul_right_comm,Nat.mul_mod,h.unit om,Up,wi] at e1
 exact e1
theorem m7.cover {m g n:Nat} (h:m7 m g) (h0:0 < n) (hn:n < m):∃k,k < m - 1/\g ^ k % m=n:=by
 have nz:∀k,k < m - 1->0 < g ^ k % m:=λk hk=>by
  rcases CT (g ^ k % m) with e | e
  .have e1:=h.unit (k:=k) om
   rw[Nat.mul_mod,e,sC,J9] at e1
   omega
  .exact e
 have hm:0 < m:=by omega
 obtain⟨k,hk,e⟩:=aEF (m - 1) (λk=>g ^ k % m - 1) (λi _=>by
  show g ^ i % m - 1 < m - 1
  have:=gT (g ^ i) hm
  have:=h.1
  omega) (λi j hi hj e=>by
  have e':g ^ i % m - 1=g ^ j % m - 1:=e
  have a:=nz i hi
  have b:=nz j hj
  rcases Nat.lt_trichotomy i j with c | c | c
  .exact absurd om (h.inj c hj)
  .exact c
  .exact absurd om (h.inj c hi)) (n - 1) om
 have e':g ^ k % m - 1=n - 1:=e
 exact⟨k,hk,by have:=nz k hk; omega⟩
theorem m7.jW {m g:Nat} (h:m7 m g):Pr m:=by
 refine⟨h.1,λd hd=>?_⟩
 have hm:=h.1
 have h0:0 < d:=Nat.pos_of_dvd_of_pos hd om
 have hle:d<=m:=Um om hd
 by_cases he:d=m
 .exact Or.inr he
 .left
  obtain⟨k,hk,e⟩:=h.cover h0 om
  have e1:=h.unit (k:=k) om
  rw[Nat.mul_mod,e,Nat.mul_mod_mod] at e1
  have e2:=J5 (d*g ^ (m - 1 - k)) m
  rw[e1] at e2
  have:d∣1:=(Nat.dvd_add_right (Nat.dvd_trans hd (Nat.dvd_mul_right _ _))).1 (by rw[e2]; exact Nat.dvd_mul_right _ _)
  exact Nat.dvd_one.1 this
def pm (m:Nat):Nat->Nat->Nat->Nat
 | 0,_,_=>1 % m
 | f+1,b,e=>if e % 2=1 then pm m f (b*b % m) (e / 2)*b % m else pm m f (b*b % m) (e / 2)
theorem Xm (m:Nat):∀(f b e:Nat),e < 2 ^ f->pm m f b e=b ^ e % m
 | 0,b,e,h=>by
  have:e=0:=by simpa using h
  rw[this]; rfl
 | f+1,b,e,h=>by
  have ih:=Xm m f (b*b % m) (e / 2) (by rw[yv] at h; omega)
  have e1:(b*b % m) ^ (e / 2) % m=b ^ (2*(e / 2)) % m:=by
   rw[<- ad7,show b*b=b ^ 2 by rw[Nat.pow_two],ad8]
  unfold pm
  rw[ih,e1]
  split
  .rename_i h1
   rw[ad3,<- yv,show (2*(e / 2)).succ=e by omega]
  .rw[show 2*(e / 2)=e by omega]
def aDz (m g:Nat) (l:List Nat):Bool:=Qs l==m - 1 && pm m 256 g (m - 1)==1 && l.all λq=>!(pm m 256 g ((m - 1) / q)==1)
theorem Ie {m g:Nat} {l:List Nat} (hm:3<=m) (hs:m - 1 < 2 ^ 256) (hl:∀q,q∈l->Pr q) (h:aDz m g l=true):m7 m g:=by
 unfold aDz at h
 simp only[ar,beq_iff_eq,dD,Ai] at h
 obtain⟨⟨h1,h2⟩,h3⟩:=h
 rw[Xm _ _ _ _ hs] at h2
 refine a8h l hm hl h1 h2 λq hq e=>?_
 have:=h3 q hq
 rw[Xm _ _ _ _ (Gm (adZ _ _) hs),e] at this
 simp at this
def QW (m:Nat):Nat->Nat->Bool
 | 0,_=>false
 | f+1,d=>if m < d*d then true else !(m % d==0) && QW m f (d+1)
theorem aE5 {m:Nat}:∀(f d:Nat),QW m f d=true->∀k,d<=k->k*k<=m->¬k∣m
 | 0,_,h,_,_,_=>by simp[QW] at h
 | f+1,d,h,k,h1,h2=>by
  unfold QW at h
  split at h
  .rename_i h3
   have:=J7 h1 h1
   omega
  .simp only[ar,Ai,beq_eq_false_iff_ne] at h
   rcases Ao d k with h4 | h4
   .exact aE5 f (d+1) h.2 k h4 h2
   .obtain rfl:k=d:=by omega
    exact λhd=>h.1 (Nat.mod_eq_zero_of_dvd hd)
theorem kE {m:Nat} (f:Nat) (h2:2<=m) (h:QW m f 2=true):Pr m:=by
 refine⟨h2,λd hd=>?_⟩
 obtain⟨c,hc⟩:=hd
 have no:=aE5 f 2 h
 have hd0:0 < d:=(CT d).elim (λe=>by rw[e,sC] at hc; omega) id
 have hc0:0 < c:=(CT c).elim (λe=>by rw[e,Nat.mul_zero] at hc; omega) id
 rcases Ao d 2 with h3 | h3
 .left; omega
 .rcases Ao c 2 with h4 | h4
  .right
   obtain rfl:c=1:=by omega
   omega
  .exfalso
   rcases Nat.le_total d c with h5 | h5
   .exact no d h3 (by rw[hc]; exact Uo _ h5) ⟨c,hc⟩
   .exact no c h4 (by rw[hc]; exact Gp _ h5) ⟨d,by rw[hc,n9]⟩
theorem rq:Pr 2:=kE 3 dc (by decide+kernel)
theorem Lw:Pr 3:=kE 3 dc (by decide+kernel)
theorem pr5:Pr 5:=kE 4 dc (by decide+kernel)
theorem pr7:Pr 7:=kE 4 dc (by decide+kernel)
theorem a7U:Pr 13:=kE 5 dc (by decide+kernel)
theorem a7W:Pr 19:=kE 6 dc (by decide+kernel)
theorem a70:Pr 31:=kE 7 dc (by decide+kernel)
theorem aDw:Pr 47:=kE 8 dc (by decide+kernel)
theorem a7S:Pr 107:=kE 12 dc (by decide+kernel)
theorem a7T:Pr 127:=kE 13 dc (by decide+kernel)
theorem a7Y:Pr 223:=kE 16 dc (by decide+kernel)
theorem a71:Pr 353:=kE 20 dc (by decide+kernel)
theorem a7Z:Pr 2437:=kE 51 dc (by decide+kernel)
theorem a72:Pr 4153:=kE 66 dc (by decide+kernel)
theorem a75:Pr 57467:=kE 241 dc (by decide+kernel)
theorem a76:Pr 65147:=kE 257 dc (by decide+kernel)
theorem a78:Pr 75707:=kE 277 dc (by decide+kernel)
theorem a7V:Pr 132049:=kE 365 dc (by decide+kernel)
theorem a73:Pr 430751:=kE 658 dc (by decide+kernel)
theorem a74:Pr 569003:=kE 756 dc (by decide+kernel)
theorem a7X:Pr 1923133:=kE 1388 dc (by decide+kernel)
theorem a79:Pr 8574133:=kE 2930 dc (by decide+kernel)
theorem aSD : m7 2773320623 5 := Ie (l := [2, 2437, 569003]) (by decide +kernel) (by decide +kernel) (fun q hq => by
    simp only [ep, gn, or_false] at hq
    rcases hq with rfl | rfl | rfl
    · exact rq
    · exact a7Z
    · exact a74) (by decide +kernel)
theorem a8a:Pr 2773320623:=aSD.jW
theorem aSE : m7 72106336199 7 := Ie (l := [2, 13, 2773320623]) (by decide +kernel) (by decide +kernel) (fun q hq => by
    simp only [ep, gn, or_false] at hq
    rcases hq with rfl | rfl | rfl
    · exact rq
    · exact a7U
    · exact a8a) (by decide +kernel)
theorem a8b:Pr 72106336199:=aSE.jW
theorem aSF : m7 1919519569386763 2 := Ie (l := [2, 3, 7, 19, 47, 47, 127, 8574133]) (by decide +kernel) (by decide +kernel) (fun q hq => by
    simp only [ep, gn, or_false] at hq
    rcases hq with rfl | rfl | rfl | rfl | rfl | rfl | rfl | rfl
    · exact rq
    · exact Lw
    · exact pr7
    · exact a7W
    · exact aDw
    · exact aDw
    · exact a7T
    · exact a79) (by decide +kernel)
theorem a8c:Pr 1919519569386763:=aSF.jW
theorem aSG : m7 31757755568855353 10 := Ie (l := [2, 2, 2, 3, 31, 107, 223, 4153, 430751]) (by decide +kernel) (by decide +kernel) (fun q hq => by
    simp only [ep, gn, or_false] at hq
    rcases hq with rfl | rfl | rfl | rfl | rfl | rfl | rfl | rfl | rfl
    · exact rq
    · exact rq
    · exact rq
    · exact Lw
    · exact a70
    · exact a7S
    · exact a7Y
    · exact a72
    · exact a73) (by decide +kernel)
theorem a8d:Pr 31757755568855353:=aSG.jW
theorem aSH : m7 75445702479781427272750846543864801 7 := Ie (l := [2, 2, 2, 2, 2, 3, 3, 5, 5, 75707, 72106336199, 1919519569386763]) (by decide +kernel) (by decide +kernel) (fun q hq => by
    simp only [ep, gn, or_false] at hq
    rcases hq with rfl | rfl | rfl | rfl | rfl | rfl | rfl | rfl | rfl | rfl | rfl | rfl
    · exact rq
    · exact rq
    · exact rq
    · exact rq
    · exact rq
    · exact Lw
    · exact Lw
    · exact pr5
    · exact pr5
    · exact a78
    · exact a8b
    · exact a8c) (by decide +kernel)
theorem a8e:Pr 75445702479781427272750846543864801:=aSH.jW
theorem aSI : m7 74058212732561358302231226437062788676166966415465897661863160754340907 2 := Ie (l := [2, 3, 353, 57467, 132049, 1923133, 31757755568855353, 75445702479781427272750846543864801]) (by decide +kernel) (by decide +kernel) (fun q hq => by
    simp only [ep, gn, or_false] at hq
    rcases hq with rfl | rfl | rfl | rfl | rfl | rfl | rfl | rfl
    · exact rq
    · exact Lw
    · exact a71
    · exact a75
    · exact a7V
    · exact a7X
    · exact a8d
    · exact a8e) (by decide +kernel)
theorem a8f:Pr 74058212732561358302231226437062788676166966415465897661863160754340907:=aSI.jW
theorem aSJ : m7 pP 2 := Ie (l := [2, 2, 3, 65147, 74058212732561358302231226437062788676166966415465897661863160754340907]) (by decide +kernel) (by decide +kernel) (fun q hq => by
    simp only [ep, gn, or_false] at hq
    rcases hq with rfl | rfl | rfl | rfl | rfl
    · exact rq
    · exact rq
    · exact Lw
    · exact a76
    · exact a8f) (by decide +kernel)
theorem auB:m7 pP 2:=aSJ
theorem aDy:Pr pP:=auB.jW
end Go.Sym
namespace Go.Sym
open Go
open Go.Z (R)
def lk (x:R) (E:Nat):Nat->R->R
 | 0,m=>m
 | k+1,m=>lk x E k (if E / 2 ^ k % 2=1 then eW (eW m m) x else eW m m)
theorem wB (x y:R) (i:Nat):0<=eW x y i/\eW x y i<=a7:=iL _ _
theorem Qr (x:R) (E:Nat):∀k m,(∀i,0<=m i/\m i<=a7)->∀i,0<=lk x E k m i/\lk x E k m i<=a7
 | 0,_,h=>h
 | k+1,m,_=>by
  unfold lk
  refine Qr x E k _ λi=>?_
  split <;>exact wB _ _ _
theorem aRt (E i:Nat):E / 2 ^ i=2*(E / 2 ^ (i+1))+E / 2 ^ i % 2:=by
 rw[yv,<- J6]
 omega
theorem Tw.aDv {x:R} {n E:Nat} (h:Tw x n):∀k m,Tw m (n ^ (E / 2 ^ k) % pP)->Tw (lk x E k m) (n ^ E % pP)
 | 0,m,hm=>by rw[wj,Gj] at hm; exact hm
 | k+1,m,hm=>by
  unfold lk
  refine Tw.aDv h k _ ?_
  have e:=aRt E k
  split
  .rename_i hb
   have:=(hm.mul hm).mul h
   rw[hb] at e
   rw[e]
   generalize E / 2 ^ (k+1)=b at*
   rwa [yv,ad9,ia,<- ad3 (n ^ b*n ^ b),Nat.mul_mod (n ^ b) (n ^ b)]
  .rename_i hb
   have:=hm.mul hm
   rw[show E / 2 ^ k % 2=0 by omega] at e
   rw[e]
   generalize E / 2 ^ (k+1)=b at*
   rwa [Nat.add_zero,ad9,ia,Nat.mul_mod (n ^ b) (n ^ b)]
def pw (n E:Nat):Nat:=n ^ E % pP
theorem Tw.akh {x:R} {n E:Nat} (hE:E < 2 ^ 256) (h:Tw x n):Tw (lk x E 256 (et 1)) (pw n E):=
 h.aDv 256 _ (by rw[yt hE,wj]; exact Tw.small dc)
theorem Xt (n E:Nat):pw n E < pP:=gT _ ow
attribute [irreducible] pw
def eI:Nat:=pP - 2
def eS:Nat:=(pP+3) / 8
def eQ:Nat:=(pP - 1) / 4
theorem OF:eI < 2 ^ 256:=by decide+kernel
theorem atM:eQ < 2 ^ 256:=by decide+kernel
theorem atN:eS < 2 ^ 256:=by decide+kernel
attribute [irreducible] eI eS eQ
def wD (x:R):R:=lk x eI 256 (et 1)
abbrev ll (x:R):R:=lk x eS 256 (et 1)
abbrev iX:R:=lk (et 2) eQ 256 (et 1)
def jX (x:R):R:=if val (eW (ll x) (ll x)) % pP=val x % pP then ll x else eW (ll x) iX
def yX (x:R):Bool:=decide (val (eW (jX x) (jX x)) % pP=val x % pP)
def wT (x:R):R:=if val (eW (jX x) (jX x)) % pP=val x % pP then (if val (jX x) % pP % 2=1 then mF (λ_=>0) (jX x) else jX x) else λ_=>0
theorem a8y (x:R) (i:Nat):0<=jX x i/\jX x i<=a7:=by
 unfold jX
 split
 .exact Qr _ _ _ _ (λi=>AU _ _) i
 .exact wB _ _ _
theorem ahs (x:R) (i:Nat):0<=wT x i/\wT x i<=a7:=by
 unfold wT
 split
 .split
  .exact iL _ _
  .exact a8y x i
 .exact⟨aP _,show (0:Int)<=a7 by decide⟩
def DY (u v:R):R×Bool:=if val v % pP=0 then (λ_=>0,decide (val u % pP=0)) else (wT (eW u (wD v)),yX (eW u (wD v)))
def jU (n:Nat):Nat:=pw n eI
abbrev l9 (n:Nat):Nat:=pw n eS
def iN:Nat:=pw 2 eQ
theorem Vv:iN=pw 2 eQ:=rfl
def fD (n:Nat):Nat:=if l9 n*l9 n % pP=n then l9 n else l9 n*iN % pP
def pf (n:Nat):Bool:=decide (fD n*fD n % pP=n)
def l6 (n:Nat):Nat:=if fD n*fD n % pP=n then (if fD n % 2=1 then (0+pP - fD n) % pP else fD n) else 0
theorem aDN {n:Nat} (h:l9 n*l9 n % pP=n):fD n=l9 n:=if_pos h
theorem a8x {n:Nat} (h:¬l9 n*l9 n % pP=n):fD n=l9 n*iN % pP:=if_neg h
theorem ahq {n:Nat} (h:¬fD n*fD n % pP=n):l6 n=0/\pf n=false:=⟨if_neg h,decide_eq_false h⟩
theorem ahr {n:Nat} (h:fD n*fD n % pP=n) (h2:fD n % 2=1):l6 n=(0+pP - fD n) % pP/\pf n=true:=⟨by unfold l6; rw[if_pos h,if_pos h2],decide_eq_true h⟩
theorem WH {n:Nat} (h:fD n*fD n % pP=n) (h2:¬fD n % 2=1):l6 n=fD n/\pf n=true:=⟨by unfold l6; rw[if_pos h,if_neg h2],decide_eq_true h⟩
def w6 (u v:Nat):Nat×Bool:=if v=0 then (0,decide (u=0)) else (l6 (u*jU v % pP),pf (u*jU v % pP))
theorem a8v (n:Nat):l9 n < pP:=Xt _ _
theorem aDM (n:Nat):fD n < pP:=by
 unfold fD; split
 .exact a8v n
 .exact gT _ ow
theorem a1W (n:Nat):l6 n < pP:=by
 unfold l6; split
 .split
  .exact gT _ ow
  .exact aDM n
 .exact ow
theorem au8 (n:Nat):jU n < pP:=Xt _ _
theorem Tw.inv {x:R} {n:Nat} (h:Tw x n):Tw (wD x) (jU n):=h.akh OF
theorem Tw.r0 {x:R} {n:Nat} (h:Tw x n):Tw (ll x) (l9 n):=h.akh atN
theorem Tw.im:Tw iX iN:=by rw[Vv]; exact (Tw.small dc).akh atM
theorem Tw.same {x y:R} {m n:Nat} (hx:Tw x m) (hy:Tw y n):(val x % pP=val y % pP)=(m=n):=by rw[hx.2.2,hy.2.2]
theorem Tw.r1 {x:R} {n:Nat} (h:Tw x n):Tw (jX x) (fD n):=by
 unfold jX fD
 simp only[Tw.same (h.r0.mul h.r0) h]
 by_cases hc:l9 n*l9 n % pP=n
 .rw[if_pos hc,if_pos hc]; exact h.r0
 .rw[if_neg hc,if_neg hc]; exact h.r0.mul Tw.im
theorem Tw.okk {x:R} {n:Nat} (h:Tw x n):yX x=pf n:=by
 unfold yX pf
 simp only[Tw.same (h.r1.mul h.r1) h]
theorem Tw.out {x:R} {n:Nat} (h:Tw x n):Tw (wT x) (l6 n):=by
 unfold wT l6
 simp only[Tw.same (h.r1.mul h.r1) h,h.r1.2.2]
 by_cases hc:fD n*fD n % pP=n
 .rw[if_pos hc,if_pos hc]
  by_cases hd:fD n % 2=1
  .rw[if_pos hd,if_pos hd]; exact h.r1.neg
  .rw[if_neg hd,if_neg hd]; exact h.r1
 .rw[if_neg hc,if_neg hc]; exact Tw.zero
theorem Tw.ratio {x y:R} {m n:Nat} (hx:Tw x m) (hy:Tw y n):Tw (DY x y).1 (w6 m n).1/\(DY x y).2=(w6 m n).2:=by
 unfold DY w6
 simp only[hy.2.2,hx.2.2]
 by_cases hc:n=0
 .rw[if_pos hc,if_pos hc]; exact⟨Tw.zero,rfl⟩
 .rw[if_neg hc,if_neg hc]; exact⟨(hx.mul hy.inv).out,(hx.mul hy.inv).okk⟩
theorem a8A {u v:Nat} (h:v=0):w6 u v=(0,decide (u=0)):=if_pos h
theorem aDQ {u v:Nat} (h:¬v=0):w6 u v=(l6 (u*jU v % pP),pf (u*jU v % pP)):=if_neg h
theorem ql (n E:Nat):pw n E=n ^ E % pP:=by unfold pw; rfl
theorem a0T:1 % pP=1:=by decide+kernel
theorem akq {n:Nat} (h:n < pP):pw n 1=n:=by rw[ql,Nat.pow_one,dE h]
theorem DX (n a b:Nat):pw n a*pw n b % pP=pw n (a+b):=by rw[ql,ql,ql,<- Nat.mul_mod,ia]
theorem LB (n a b:Nat):pw (pw n a) b=pw n (a*b):=by rw[ql,ql,ql,<- ad7,ad8]
theorem aDL (m n a:Nat):pw (m*n % pP) a=pw m a*pw n a % pP:=by rw[ql,ql,ql,<- ad7,<- Nat.mul_mod,Nat.mul_pow]
theorem ag9 (a:Nat):pw 1 a=1:=by rw[ql,Nat.one_pow,a0T]
theorem aFq {a:Nat} (h:0 < a):pw 0 a=0:=by rw[ql,Nat.zero_pow h,J9]
theorem Xu {n E v:Nat} (hE:E < 2 ^ 256) (h:pm pP 256 n E=v):pw n E=v:=by rw[ql,<- Xm pP 256 n E hE,h]
def hP:Nat:=(pP - 1) / 2
theorem aE7:pw 2 hP=pP - 1:=Xu (by decide+kernel) (by decide+kernel)
theorem a_k:pw 2 (pP - 1)=1:=Xu (by decide+kernel) (by decide+kernel)
theorem h_h:hP+hP=pP - 1:=by decide+kernel
theorem Q_Q:eQ+eQ=hP:=by decide+kernel
theorem S_S:eS+eS=1+eQ:=by decide+kernel
theorem I_1:1+eI=pP - 1:=by decide+kernel
theorem aPP:0 < eS:=by decide+kernel
theorem aC8:pP % 2=1:=by decide+kernel
theorem a7f:5 < pP:=by decide+kernel
theorem neg_neg:(pP - 1)*(pP - 1) % pP=1:=by decide+kernel
attribute [irreducible] hP
theorem avc {n:Nat} (h0:0 < n) (hn:n < pP):∃k,pw 2 k=n:=by
 obtain⟨k,_,h⟩:=auB.cover h0 hn
 exact⟨k,by rw[ql]; exact h⟩
theorem ae5 {n:Nat} (h0:0 < n) (hn:n < pP):pw n (pP - 1)=1:=by
 obtain⟨k,rfl⟩:=avc h0 hn
 rw[LB,n9,<- LB,a_k,ag9]
theorem a0p (k:Nat):pw (pP - 1) k=if k % 2=0 then 1 else pP - 1:=by
 have e:pw (pP - 1) 2=1:=by rw[ql,Nat.pow_two,neg_neg]
 have hl:pP - 1 < pP:=by have:=a7f; omega
 split
 .rename_i h
  rw[show k=2*(k / 2) by omega,<- LB,e,ag9]
 .rename_i h
  have h1:pw (pP - 1) (2*(k / 2))=1:=by rw[<- LB,e,ag9]
  rw[show k=2*(k / 2)+1 by omega,<- DX,h1,akq hl,Up,dE hl]
theorem aRQ {n:Nat} (h0:0 < n) (hn:n < pP):(pw n hP=1/\∃x,0 < x/\x < pP/\x*x % pP=n)\/pw n hP=pP - 1:=by
 obtain⟨k,hk⟩:=avc h0 hn
 have e:pw n hP=pw (pP - 1) k:=by rw[<- hk,LB,n9,<- LB,aE7]
 rw[e,a0p]
 by_cases h:k % 2=0
 .rw[if_pos h]
  refine Or.inl ⟨rfl,pw 2 (k / 2),?_,Xt _ _,?_⟩
  .rcases CT (pw 2 (k / 2)) with q | q
   .have:=DX 2 (k / 2) (k / 2)
    rw[q,sC,J9,show k / 2+k / 2=k by omega,hk] at this
    omega
   .exact q
  .rw[DX,show k / 2+k / 2=k by omega,hk]
 .rw[if_neg h]; exact Or.inr rfl
theorem akO (x a:Nat):pw (x*x % pP) a=pw x (a+a):=by rw[aDL,DX]
theorem a8w {n:Nat} (hn:n < pP):l9 n*l9 n % pP=n*pw n eQ % pP:=by
 rw[DX,S_S,<- DX,akq hn]
theorem a9s {n:Nat} (h:pw n hP=pP - 1):pw n eQ*pw n eQ % pP=pP - 1:=by rw[DX,Q_Q,h]
theorem XR {i n:Nat} (hi:i=pw n eQ) (hn:n=2):i*i % pP=pP - 1:=by
 rw[hi]; exact a9s (by rw[hn]; exact aE7)
theorem auU:iN*iN % pP=pP - 1:=XR Vv dc
theorem aZ4 (a i p:Nat):(a*i % p)*(a*i % p) % p=(a*a % p)*(i*i % p) % p:=by
 rw[<- Nat.mul_mod,<- Nat.mul_mod,Nat.mul_mul_mul_comm]
theorem a0R:pf 0=true/\l6 0=0:=by
 have e:l9 0=0:=aFq aPP
 have e1:fD 0=0:=by rw[aDN (by rw[e,sC,J9]),e]
 have:=WH (n:=0) (by rw[e1,sC,J9]) (by rw[e1]; decide)
 exact⟨this.2,by rw[this.1,e1]⟩
theorem azj {x:Nat} (hx:x < pP):pf (x*x % pP)=true:=by
 rcases CT x with h0 | h0
 .rw[h0,sC,J9]; exact a0R.1
 .have hn:x*x % pP < pP:=gT _ ow
  generalize hN:x*x % pP=n at hn ⊢
  have hq:pw n eQ=pw x hP:=by rw[<- hN,akO,Q_Q]
  have hr:=a8w hn
  rw[hq] at hr
  unfold pf
  rw[decide_eq_true_eq]
  by_cases hy:l9 n*l9 n % pP=n
  .rw[aDN hy]; exact hy
  .rcases aRQ h0 hx with ⟨h1,_⟩ | h1
   .exfalso
    rw[h1,um,dE hn] at hr
    exact hy hr
   .rw[a8x hy,aZ4,auU,hr,h1,ad3,yu,Nat.mul_mod,neg_neg,um,wi,dE hn]
theorem neg_num {r:Nat} (h0:0 < r) (hr:r < pP):(0+pP - r) % pP=pP - r:=by
 rw[Nat.zero_add]; exact dE om
theorem a0q {r p:Nat} (hr:r<=p):(p - r)*(p - r) % p=r*r % p:=by
 obtain⟨s,rfl⟩:∃s,p=r+s:=⟨p - r,by omega⟩
 rw[aPD]
 have e:s*s+(r+s)*r=r*r+(r+s)*s:=by
  rw[yr,yr,n9 s r]; omega
 have:=congrArg (· % (r+s)) e
 simp only[adY] at this
 exact this
theorem azi {n:Nat} (h:pf n=true):l6 n*l6 n % pP=n/\l6 n % 2=0:=by
 have h2:fD n*fD n % pP=n:=by unfold pf at h; exact of_decide_eq_true h
 have hl:=aDM n
 by_cases h3:fD n % 2=1
 .rw[(ahr h2 h3).1,neg_num om hl,a0q om]
  have:=aC8
  exact⟨h2,by omega⟩
 .rw[(WH h2 h3).1]
  exact⟨h2,by omega⟩
theorem a0Q {n:Nat} (h:pf n=false):l6 n=0:=by
 have h2:¬fD n*fD n % pP=n:=by unfold pf at h; exact of_decide_eq_false h
 exact (ahq h2).1
theorem a1V (n:Nat):l6 n % 2=0:=by
 cases h:pf n
 .rw[a0Q h]
 .exact (azi h).2
theorem a9b {r x:Nat} (hr:r < pP) (hx:x < pP) (h:r*r % pP=x*x % pP):r=x\/r=(0+pP - x) % pP:=by
 have key:∀r x,r < pP->x < pP->x<=r->r*r % pP=x*x % pP->r=x\/r+x=pP:=by
  intro r x hr hx hle h
  obtain⟨d,rfl⟩:∃d,r=x+d:=⟨r - x,by omega⟩
  have e:(x+d)*(x+d)=x*x+d*(x+d+x):=by
   rw[N7,yr,n9 d (x+d+x),yr,yr,yr,n9 d x]; omega
  have hd:pP∣d*(x+d+x):=by
   have h2:=Nat.sub_mod_eq_zero_of_mod_eq h
   rw[e,aPD] at h2
   exact Nat.dvd_of_mod_eq_zero h2
  rcases aDy.aeT hd with h3 | h3
  .rcases CT d with h4 | h4
   .left; omega
   .have:=Um h4 h3; omega
  .obtain⟨c,hc⟩:=h3
   rcases Ao c 2 with h4 | h4
   .rcases (show c=0\/c=1 by omega) with h5 | h5
    .rw[h5,Nat.mul_zero] at hc; left; omega
    .rw[h5,um] at hc; right; omega
   .have:=Uo pP h4
    omega
 rcases Nat.le_total x r with h1 | h1
 .rcases key r x hr hx h1 h with h2 | h2
  .exact Or.inl h2
  .rcases CT x with h3 | h3
   .omega
   .right; rw[neg_num h3 hx]; omega
 .rcases key x r hx hr h1 h.symm with h2 | h2
  .exact Or.inl h2.symm
  .rcases CT x with h3 | h3
   .omega
   .right; rw[neg_num h3 hx]; omega
theorem a8Z {x:Nat} (hx:x < pP):l6 (x*x % pP)=x\/l6 (x*x % pP)=(0+pP - x) % pP:=
 a9b (a1W _) hx (azi (azj hx)).1
theorem inv_mul {n:Nat} (h0:0 < n) (hn:n < pP):n*jU n % pP=1:=by
 unfold jU
 have e:=DX n 1 eI
 rw[akq hn,I_1,ae5 h0 hn] at e
 exact e
theorem a8B (u v:Nat):(w6 u v).1 % 2=0:=by
 unfold w6; split
 .rfl
 .exact a1V _
theorem a8C {u v:Nat} (h0:0 < v) (hu:u < pP) (hv:v < pP):(w6 (u*u % pP*v % pP) v).2=true/\((w6 (u*u % pP*v % pP) v).1=u\/(w6 (u*u % pP*v % pP) v).1=(0+pP - u) % pP):=by
 rw[aDQ om]
 have e:u*u % pP*v % pP*jU v % pP=u*u % pP:=by
  rw[ad3,yu,Nat.mul_mod,inv_mul h0 hv,um,wi,wi]
 rw[e]
 exact⟨azj hu,a8Z hu⟩
def sh (r:R) (k:Nat):R:=λi=>r (i+k)
def qm (a b c d:R):R:=λi=>if i < 5 then a i else if i < 10 then b (i - 5) else if i < 15 then c (i - 10) else d (i - 15)
section
variable {a b c d:R} {q:Nat} (h:q < 5)
include h
theorem D1:qm a b c d q=a q:=if_pos h
theorem D4:qm a b c d (q+5)=b q:=by unfold qm; rw[if_neg om,if_pos om,Gi]
theorem D2:qm a b c d (q+10)=c q:=by unfold qm; rw[if_neg om,if_neg om,if_pos om,Gi]
theorem D3:qm a b c d (q+15)=d q:=by unfold qm; rw[if_neg om,if_neg om,if_neg om,Gi]
end
theorem Tw.congr {x y:R} {n:Nat} (h:Tw x n) (e:∀q,q < 5->y q=x q):Tw y n:=by
 have ev:val y=val x:=by unfold val; rw[auy e]
 exact⟨λi hi=>by rw[e i hi]; exact h.1 i hi,h.2.1,by rw[ev]; exact h.2.2⟩
def yY:R:=et 1
def aeO:Nat->BitVec 8:=lY 0 [0xa3#8,0x78#8,0x59#8,0x13#8,0xca#8,0x4d#8,0xeb#8,0x75#8,0xab#8,0xd8#8,0x41#8,0x41#8,0x4d#8,0x0a#8,0x70#8,0x00#8,0x98#8,0xe8#8,0x79#8,0x77#8,0x79#8,0x40#8,0xc7#8,0x8c#8,0x73#8,0xfe#8,0x6f#8,0x2b#8,0xee#8,0x6c#8,0x03#8,0x52#8]
def nc:R:=et (aJ aeO 32)
def ob (x y:R):R:=qm x y yY (eW x y)
def nr:R:=ob (λ_=>0) yY
def lr (y:R):R×Bool:=DY (mF (eW y y) yY) (uA (eW nc (eW y y)) yY)
def Oi:R:=eW (et 4) (wD (et 5))
def lQ:R:=ob (lr Oi).1 Oi
def KB (e f g h:R):R:=qm (eW e f) (eW g h) (eW f g) (eW e h)
def aX (p q:R):R:=eW (mF (sh p 5) p) (mF (sh q 5) q)
def bX (p q:R):R:=eW (uA (sh p 5) p) (uA (sh q 5) q)
def cX (p q:R):R:=uA (eW (eW (sh p 15) (sh q 15)) nc) (eW (eW (sh p 15) (sh q 15)) nc)
def dX (p q:R):R:=uA (eW (sh p 10) (sh q 10)) (eW (sh p 10) (sh q 10))
def gB (p q:R):R:=KB (mF (bX p q) (aX p q)) (mF (dX p q) (cX p q)) (uA (dX p q) (cX p q)) (uA (bX p q) (aX p q))
def mL (p:R):R:=qm (mF (λ_=>0) p) (sh p 5) (sh p 10) (mF (λ_=>0) (sh p 15))
def Xl (p:R):R:=eW p (wD (sh p 10))
def Lv (p:R):R:=eW (sh p 5) (wD (sh p 10))
def OG (p:R):Nat->BitVec 8:=if val (Xl p) % pP % 2=1 then dh (fV (val (Lv p) % pP)) 31 (fV (val (Lv p) % pP) 31 ||| 128#8) else fV (val (Lv p) % pP)
def mulR (n:Nat) (p:R):Nat->R->R
 | 0,m=>m
 | k+1,m=>mulR n p k (if n / 2 ^ k % 2=1 then gB (gB m m) p else gB m m)
def DC (n:Nat) (p:R):R:=mulR n p 256 nr
theorem LI {a b c d:R} (ha:∀i,0<=a i/\a i<=a7) (hb:∀i,0<=b i/\b i<=a7) (hc:∀i,0<=c i/\c i<=a7) (hd:∀i,0<=d i/\d i<=a7) (i:Nat):0<=qm a b c d i/\qm a b c d i<=a7:=by
 unfold qm
 split
 .exact ha _
 .split
  .exact hb _
  .split
   .exact hc _
   .exact hd _
theorem asE (p q:R) (i:Nat):0<=gB p q i/\gB p q i<=a7:=LI (wB _ _) (wB _ _) (wB _ _) (wB _ _) i
theorem aRC (i:Nat):0<=nc i/\nc i<=a7:=AU _ _
theorem Wy (i:Nat):0<=yY i/\yY i<=a7:=AU _ _
theorem alA (i:Nat):0<=nr i/\nr i<=a7:=LI (λ_=>⟨aP _,show (0:Int)<=a7 by decide⟩) Wy Wy (wB _ _) i
theorem Qy (y:R) (i:Nat):0<=(lr y).1 i/\(lr y).1 i<=a7:=by
 unfold lr DY
 split
 .exact⟨aP _,show (0:Int)<=a7 by decide⟩
 .exact ahs _ _
theorem aeh (i:Nat):0<=lQ i/\lQ i<=a7:=LI (Qy _) (wB _ _) Wy (wB _ _) i
def Oq (p:R):Nat->R
 | 0=>nr
 | 1=>p
 | 2=>lQ
 | _=>gB p lQ
def rz (a b k:Nat):Nat:=a / 2 ^ (255 - k) % 2+2*(b / 2 ^ (255 - k) % 2)
def rA (a b:Nat) (p:R):Nat->R->R
 | 0,m=>m
 | k+1,m=>rA a b p k (if 0 < a / 2 ^ k % 2+2*(b / 2 ^ k % 2) then gB (gB m m) (Oq p (a / 2 ^ k % 2+2*(b / 2 ^ k % 2))) else gB m m)
def Ed (a b:Nat) (p:R):R:=rA a b p 256 nr
theorem a_g (a b k:Nat):rz a b k < 4:=by unfold rz; omega
def fo {α:Type} (n:Nat) (k:Nat->α):α:=Nat.rec (motive:=λ_=>α) (k 0) (λm _=>k (m+1)) n
theorem mG {α:Type} (n:Nat) (k:Nat->α):fo n k=k n:=by cases n <;>rfl
structure NP where
 x:Nat
 y:Nat
 z:Nat
 t:Nat
def dN:Nat:=37095705934669439343138083508754565189542113879843219016388785533085940283555
theorem aRe:aJ aeO 32 % 2 ^ 255 % pP=dN:=by decide+kernel
def Pn (x y z t:Nat):NP:=fo x λx=>fo y λy=>fo z λz=>fo t λt=>⟨x,y,z,t⟩
theorem Lc (x y z t:Nat):Pn x y z t=⟨x,y,z,t⟩:=by unfold Pn; rw[mG,mG,mG,mG]
def u5 (m n:Nat):Nat:=(m+pP - n) % pP
def UR (e f g h:Nat):NP:=Pn (e*f % pP) (g*h % pP) (f*g % pP) (e*h % pP)
def ic (p q:NP):NP:=
 fo (u5 p.y p.x*u5 q.y q.x % pP) λa=>fo ((p.y+p.x) % pP*((q.y+q.x) % pP) % pP) λb=>
 fo (p.t*q.t % pP*dN % pP) λm=>fo ((m+m) % pP) λc=>fo (p.z*q.z % pP) λn=>fo ((n+n) % pP) λd=>
 fo (u5 b a) λe=>fo (u5 d c) λf=>fo ((d+c) % pP) λg=>fo ((b+a) % pP) λh=>UR e f g h
structure PW (p:R) (q:NP):Prop where
 x:Tw p q.x
 y:Tw (sh p 5) q.y
 z:Tw (sh p 10) q.z
 t:Tw (sh p 15) q.t
theorem PW.of {a b c d:R} {q:NP} (x:Tw a q.x) (y:Tw b q.y) (z:Tw c q.z) (t:Tw d q.t):PW (qm a b c d) q:=
 ⟨x.congr λ_ h=>D1 h,y.congr λ_ h=>D4 h,z.congr λ_ h=>D2 h,t.congr λ_ h=>D3 h⟩
theorem aE6:Tw nc dN:=by have h:=Tw.read aeO; rw[aRe] at h; exact h
theorem Ya:Tw yY 1:=Tw.small dc
theorem PW.aQ7 {e f g h:R} {e' f' g' h':Nat} (h1:Tw e e') (h2:Tw f f') (h3:Tw g g') (h4:Tw h h'):PW (KB e f g h) (UR e' f' g' h'):=by
 unfold UR
 rw[Lc]
 exact .of (h1.mul h2) (h3.mul h4) (h2.mul h3) (h1.mul h4)
theorem PW.add {p q:R} {m n:NP} (hp:PW p m) (hq:PW q n):PW (gB p q) (ic m n):=by
 unfold ic
 simp only[mG]
 have ha:Tw (aX p q) _:=(hp.y.sub hp.x).mul (hq.y.sub hq.x)
 have hb:Tw (bX p q) _:=(hp.y.add hp.x).mul (hq.y.add hq.x)
 have hm:=(hp.t.mul hq.t).mul aE6
 have hc:Tw (cX p q) _:=hm.add hm
 have hz:=hp.z.mul hq.z
 have hd:Tw (dX p q) _:=hz.add hz
 exact .aQ7 (hb.sub ha) (hd.sub hc) (hd.add hc) (hb.add ha)
def C5 (x y:Nat):NP:=Pn x y 1 (x*y % pP)
theorem PW.Gy {x y:R} {m n:Nat} (hx:Tw x m) (hy:Tw y n):PW (ob x y) (C5 m n):=by
 unfold C5
 rw[Lc]
 exact .of hx hy Ya (hx.mul hy)
def Eh:NP:=C5 0 1
theorem PW.zero:PW nr Eh:=.Gy Tw.zero Ya
def wN (p:NP):NP:=Pn (u5 0 p.x) p.y p.z (u5 0 p.t)
theorem PW.neg {p:R} {q:NP} (h:PW p q):PW (mL p) (wN q):=by
 unfold wN
 rw[Lc]
 exact .of h.x.neg h.y h.z h.t.neg
def l8 (n E:Nat):Nat:=pm pP 256 n E
theorem LA (n:Nat) {E:Nat} (h:E < 2 ^ 256):pw n E=l8 n E:=Xu h rfl
def iC:Nat:=19681161376707505956807079304988542015446066515923890162744021073123829784752
theorem aS5:iN=iC:=by rw[Vv,LA _ atM]; decide+kernel
def ahp (n:Nat):Nat×Bool:=fo (l8 n eS) λr=>fo (bif Nat.beq (r*r % pP) n then r else r*iC % pP) λr=>bif Nat.beq (r*r % pP) n then (bif Nat.beq (r % 2) 1 then (u5 0 r,true) else (r,true)) else (0,false)
theorem mC (a b:Nat) {α:Type} (x y:α):(bif Nat.beq a b then x else y)=if a=b then x else y:=by
 by_cases h:a=b
 .rw[if_pos h,h,show Nat.beq b b=true by simp]; rfl
 .rw[if_neg h]
  have:Nat.beq a b=false:=by
   cases hb:Nat.beq a b with
   | false=>rfl
   | true=>exact absurd (iJ hb) h
  rw[this]; rfl
theorem a1U (n:Nat):(l6 n,pf n)=ahp n:=by
 unfold ahp
 simp only[mG,mC]
 have h0:l9 n=l8 n eS:=LA n atN
 have h1:fD n=if l8 n eS*l8 n eS % pP=n then l8 n eS else l8 n eS*iC % pP:=by unfold fD; rw[h0,aS5]
 rw[<- h1]
 by_cases h:fD n*fD n % pP=n
 .rw[if_pos h]
  by_cases h2:fD n % 2=1
  .rw[if_pos h2,(ahr h h2).1,(ahr h h2).2]; rfl
  .rw[if_neg h2,(WH h h2).1,(WH h h2).2]
 .rw[if_neg h,(ahq h).1,(ahq h).2]
def akr (u v:Nat):Nat×Bool:=bif Nat.beq v 0 then (0,Nat.beq u 0) else fo (u*l8 v eI % pP) ahp
theorem aDP (u v:Nat):w6 u v=akr u v:=by
 unfold akr
 simp only[mG,mC]
 by_cases h:v=0
 .rw[if_pos h,a8A h]
  congr 1
  by_cases h2:u=0
  .rw[decide_eq_true h2,h2]; rfl
  .rw[decide_eq_false h2]
   cases hb:Nat.beq u 0 with
   | false=>rfl
   | true=>exact absurd (iJ hb) h2
 .rw[if_neg h,aDQ h,<- a1U]
  have:jU v=l8 v eI:=LA v OF
  rw[this]
def nq (y:Nat):Nat×Bool:=fo (y*y % pP) λs=>fo (u5 s 1) λu=>fo ((dN*s % pP+1) % pP) λv=>akr u v
theorem Qz {y:R} {n:Nat} (h:Tw y n):Tw (lr y).1 (nq n).1/\(lr y).2=(nq n).2:=by
 have hs:=h.mul h
 have hu:=hs.sub Ya
 have hv:=(aE6.mul hs).add Ya
 have hr:=hu.ratio hv
 rw[aDP] at hr
 unfold nq lr
 simp only[mG]
 exact hr
def iK:NP:=C5 15112221349535400772501151409588531511454012693041857206046113283949847762202 46316835694926478169428394003475163141307993866256225615783033603165251855960
theorem asU:Tw Oi 46316835694926478169428394003475163141307993866256225615783033603165251855960:=by
 have h:Tw Oi _:=(Tw.small dc).mul (Tw.small dc).inv
 have e:jU 5=l8 5 eI:=LA _ OF
 rw[e,show 4*l8 5 eI % pP=46316835694926478169428394003475163141307993866256225615783033603165251855960 by decide+kernel] at h
 exact h
theorem aP7:(nq 46316835694926478169428394003475163141307993866256225615783033603165251855960).1=15112221349535400772501151409588531511454012693041857206046113283949847762202:=by decide+kernel
theorem PW.base:PW lQ iK:=by
 have h:=(Qz asU).1
 rw[aP7] at h
 exact .Gy h asU
attribute [local irreducible] iK lQ nr Eh ic gB
def mulC (n:Nat) (p:NP):Nat->NP
 | 0=>Eh
 | k+1=>bif Nat.beq (n / 2 ^ (255 - k) % 2) 1 then ic (ic (mulC n p k) (mulC n p k)) p else ic (mulC n p k) (mulC n p k)
theorem PW.ayP {p:R} {q:NP} (n:Nat) (h:PW p q):∀k m,k<=256->PW m (mulC n q (256 - k))->PW (mulR n p k m) (mulC n q 256)
 | 0,_,_,hm=>hm
 | k+1,m,hk,hm=>by
  refine PW.ayP n h k _ om ?_
  rw[show 256 - k=256 - (k+1)+1 by omega,mulC,mC,show 255 - (256 - (k+1))=k by omega]
  split
  .exact (hm.add hm).add h
  .exact hm.add hm
theorem PW.mul {p:R} {q:NP} (n:Nat) (h:PW p q):PW (DC n p) (mulC n q 256):=.ayP n h 256 _ (fv _) .zero
def yz (p:NP) (k:Nat):NP:=bif Nat.beq k 0 then Eh else bif Nat.beq k 1 then p else bif Nat.beq k 2 then iK else ic p iK
theorem PW.both {p:R} {q:NP} (h:PW p q) (k:Nat) (hk:k < 4):PW (Oq p k) (yz q k):=by
 unfold yz
 rw[mC,mC,mC]
 by_cases h0:k=0
 .rw[if_pos h0,h0]; exact .zero
 .by_cases h1:k=1
  .rw[if_neg h0,if_pos h1,h1]; exact h
  .by_cases h2:k=2
   .rw[if_neg h0,if_neg h1,if_pos h2,h2]; exact .base
   .rw[if_neg h0,if_neg h1,if_neg h2,show k=3 by omega]
    exact h.add .base
def fz (a b:Nat) (p:NP):Nat->NP
 | 0=>Eh
 | k+1=>bif Nat.beq (rz a b k) 0 then ic (fz a b p k) (fz a b p k) else ic (ic (fz a b p k) (fz a b p k)) (yz p (rz a b k))
theorem PW.aE8 {p:R} {q:NP} (a b:Nat) (h:PW p q):∀k m,k<=256->PW m (fz a b q (256 - k))->PW (rA a b p k m) (fz a b q 256)
 | 0,_,_,hm=>hm
 | k+1,m,hk,hm=>by
  refine PW.aE8 a b h k _ om ?_
  have e:rz a b (256 - (k+1))=a / 2 ^ k % 2+2*(b / 2 ^ k % 2):=by unfold rz; rw[show 255 - (256 - (k+1))=k by omega]
  have hl:=a_g a b (256 - (k+1))
  rw[show 256 - k=256 - (k+1)+1 by omega,fz,mC,e]
  rw[e] at hl
  by_cases hz:a / 2 ^ k % 2+2*(b / 2 ^ k % 2)=0
  .rw[if_neg om,if_pos hz]
   exact hm.add hm
  .rw[if_pos om,if_neg hz]
   exact (hm.add hm).add (h.both _ hl)
theorem PW.two {p:R} {q:NP} (a b:Nat) (h:PW p q):PW (Ed a b p) (fz a b q 256):=.aE8 a b h 256 _ (fv _) .zero
def i9 (q:NP):Nat:=fo (l8 q.z eI) λzi=>fo (q.x*zi % pP) λx=>q.y*zi % pP+x % 2*2 ^ 255
theorem aQE {y i:Nat} (hy:y < 2 ^ 255) (hi:i < 32):fV (y+2 ^ 255) i=if i=31 then fV y 31 ||| 128#8 else fV y i:=by
 by_cases h:i=31
 .subst h
  rw[if_pos rfl]
  have h1:(y+2 ^ 255) / 2 ^ (8*31)=y / 2 ^ (8*31)+128:=by
   rw[show (2:Nat) ^ 255=128*2 ^ (8*31) by decide+kernel,Uj _ _ (Ap _)]
  have h2:y / 2 ^ (8*31) < 128:=Nat.div_lt_of_lt_mul hy
  unfold fV
  rw[h1]
  generalize y / 2 ^ (8*31)=q at h2 ⊢
  have key:∀q:Fin 128,BitVec.ofNat 8 (q.val+128)=BitVec.ofNat 8 q.val ||| 128#8:=by decide
  exact key ⟨q,h2⟩
 .rw[if_neg h]
  unfold fV
  have hlt:i < 31:=by omega
  have h1:(y+2 ^ 255) / 2 ^ (8*i)=y / 2 ^ (8*i)+2 ^ (247 - 8*i)*256:=by
   rw[show (2:Nat) ^ 255=2 ^ (247 - 8*i)*256*2 ^ (8*i) by
    rw[show (256:Nat)=2 ^ 8 from rfl,<- ia,<- ia]; congr 1; omega]
   rw[Uj _ _ (Ap _)]
  rw[h1]
  apply adD
  rw[F5,F5,show (2:Nat) ^ 8=256 from rfl,aPC]
theorem atS {p:R} {q:NP} (h:PW p q) {i:Nat} (hi:i < 32):OG p i=fV (i9 q) i:=by
 have hz:=h.z.inv
 have hx:Tw (Xl p) _:=h.x.mul hz
 have hy:Tw (Lv p) _:=h.y.mul hz
 have e:jU q.z=l8 q.z eI:=LA _ OF
 rw[e] at hx hy
 unfold i9
 rw[mG,mG]
 unfold OG
 rw[hx.eq,hy.eq]
 have hlt:q.y*l8 q.z eI % pP < 2 ^ 255:=Gn (gT _ ow) (by decide+kernel)
 by_cases ho:q.x*l8 q.z eI % pP % 2=1
 .rw[if_pos ho,ho,Up,aQE hlt hi]
  unfold dh
  rfl
 .rw[if_neg ho,show q.x*l8 q.z eI % pP % 2=0 by omega,sC,Nat.add_zero]
def iy (f:Nat->BitVec 8):R:=ob (if f 31 &&& 128#8=0#8 then (lr (et (aJ f 32))).1 else mF (λ_=>0) (lr (et (aJ f 32))).1) (et (aJ f 32))
def wx (N:Nat):NP:=fo (N % 2 ^ 255 % pP) λy=>fo (nq y).1 λx=>C5 (bif Nat.beq (N / 2 ^ 255 % 2) 1 then u5 0 x else x) y
def p9 (N:Nat):Bool:=fo (N % 2 ^ 255) λy=>Nat.blt y pP && (nq (y % pP)).2 && !(Nat.beq (N / 2 ^ 255 % 2) 1 && Nat.beq (nq (y % pP)).1 0)
theorem UW {N:Nat} (h:p9 N=true):N % 2 ^ 255 < pP/\(nq (N % 2 ^ 255 % pP)).2=true/\(N / 2 ^ 255 % 2=1->(nq (N % 2 ^ 255 % pP)).1=0->False):=by
 unfold p9 at h
 rw[mG] at h
 generalize nq (N % 2 ^ 255 % pP)=r at h ⊢
 generalize N / 2 ^ 255 % 2=q at h ⊢
 generalize N % 2 ^ 255=y at h ⊢
 generalize pP=p at h ⊢
 simp only[ar,Ai] at h
 obtain⟨⟨h1,h2⟩,h3⟩:=h
 refine⟨by rwa [Ul] at h1,h2,λe1 e2=>?_⟩
 rw[e1,e2] at h3
 cases h3
theorem Ww (f:Nat->BitVec 8):(f 31 &&& 128#8=0#8)↔aJ f 32 / 2 ^ 255 % 2=0:=by
 have h1:aJ f 32=aJ f 31+(f 31).toNat*2 ^ (8*31):=rfl
 have h2:=HU f 31
 have h3:aJ f 32 / 2 ^ 255=(f 31).toNat / 128:=by
  rw[show (2:Nat) ^ 255=2 ^ (8*31)*128 by decide+kernel,<- J6,h1,Uj _ _ (Ap _),yt h2,Nat.zero_add]
 rw[h3]
 have key:∀b:BitVec 8,(b &&& 128#8=0#8)↔b.toNat / 128 % 2=0:=by decide
 exact key _
theorem PW.dec (f:Nat->BitVec 8):PW (iy f) (wx (aJ f 32)):=by
 have hy:=Tw.read f
 have hr:=(Qz hy).1
 unfold iy wx
 rw[mG,mG,mC]
 refine .Gy ?_ hy
 by_cases h:f 31 &&& 128#8=0#8
 .rw[if_pos h,if_neg (by rw[(Ww f).1 h]; decide)]
  exact hr
 .rw[if_neg h,if_pos (by have:¬aJ f 32 / 2 ^ 255 % 2=0:=λe=>h ((Ww f).2 e); omega)]
  exact hr.neg
end Go.Sym
