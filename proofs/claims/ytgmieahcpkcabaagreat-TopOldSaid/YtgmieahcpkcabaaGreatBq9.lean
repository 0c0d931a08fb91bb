import Derived.Test.YtgmieahcpkcabaaGreatBq8
set_option maxRecDepth 100000
set_option linter.unusedSimpArgs false
set_option linter.unusedVariables false
set_option linter.constructorNameAsVariable false
set_option linter.unusedSectionVars false
noncomputable section
namespace Go.Proofs.Y
open Go Go.Z
section
variable [kv]
abbrev aK3:X:=xL 1 2 3 4 (pH apa)
def ae1:X:=aK3
abbrev ki:X:=bj ae1
abbrev E6:X:=.f 204 ki
abbrev vF:V:=.c .cT
abbrev aK4:ai:=aF (.f 211 ki)
def nj:Lp:=⟨nK aKm [MU,So,fR,fJ E6] apc,[(0,mS),(1,MW),(2,Sq),(6,vp),(7,vF)],11,[Jb,MX,MY,dU,ga,eF,gb,eG,gg,EZ,aaH],.exit 0,[(0,mS),(6,gw (.f 203 ki)),(7,lH 11 E6)],12,[vD 9 [jL,mT,vC,a8,aK4,aF (.f 212 ki),aF (.f 213 ki),rW (.f 214 ki),aF (.f 215 ki),aF (.f 216 ki)],(0,zO (.f 200 ki) (.f 201 ki) (.f 202 ki)),jj [zQ (.f 220 ki),aF (.f 205 ki),fu,bg,iV,aF (.f 210 ki),aF (.f 209 ki),aF (.f 206 ki),aF (.f 207 ki),rW (.f 208 ki)],dU,(3,rP (.f 221 ki)),eF,(5,rP (.f 222 ki)),eG,(7,vu (.f 223 ki)),(8,B1 (.f 224 ki) aK4),aaH,cj 11 E6 (.f 225 ki)],aKj⟩
def aU9:X:=Jk
abbrev aaV:X:=aU9
def avU:X:=.f 100 (iF aaV (.v 2) M1 EG (pH apa))
def aVc:X:=aK3
def av6:X:=MR
def awd:X:=xL 1 2 3 4 (pH aLh)
def afO:X:=ao8
def afR:X:=.o2 0 ao9 fR
def aVn:X:=mR afO afR E1
def aww:X:=mR afO afR (.o2 1 g7 cq)
def aVo:X:=aKS
def avV:X:=xL 1 2 3 4 (pH aKT)
abbrev M3(a:X):X:=fJ (.f 204 (bj a))
def aVa:X:=M3 avV
def avW:X:=mR afO afR aaT
abbrev baa:X:=aVn
abbrev E7(a:X):X:=Su baa a
def aVb:X:=E7 avW
def avX:X:=Se
def afI:X:=BU
abbrev apx:X:=di xG afI
def afJ:X:=.f 17 (cy 2 apx)
def avY:X:=.o3 1 (rS afI) bA aj
def avZ:X:=.f 14 (cy 2 apx)
def av0:X:=mo avX avZ afJ 4 (iF ae ae (IZ 20 21 apx ET) afI (rZ 22 23 24 ae (iF ae ae aj avY vG)))
def av1:X:=E5 avZ afJ
def av2:X:=EU
abbrev aLx:X:=kL av2
def aVd:X:=.f 91 aLx
def VY:X:=.f 90 aLx
abbrev aLy:X:=j8 av2 VY
def aVe:X:=.f 17 aLy
def av3:X:=xI VY
def afK:X:=.f 14 aLy
def av4:X:=.f 32 (bL 22 cV (eZ 28 VY))
abbrev abk:X:=aVd
abbrev Sz:X:=aVe
def av5:X:=mo abk afK Sz 4 (pH (cN 20 21 (kK av4 23 (bL 24 ae (pD ae 27 av3 aj vG)))))
def afL:X:=E5 afK Sz
def av7:X:=E7 afL
def av8:X:=zP VY Sh
def av9:X:=mo abk afK Sz 4 (pH (cN 20 21 (kK av4 23 (bL 24 ae (iF ae av8 aj ae (rZ 40 41 50 ae (qB ae av8 aj MT)))))))
def awa:X:=ES
abbrev aLz:X:=kL awa
def aVf:X:=.f 91 aLz
def VZ:X:=.f 90 aLz
abbrev aLA:X:=j8 awa VZ
def aVg:X:=.f 17 aLA
def awb:X:=xI VZ
def afM:X:=.f 14 aLA
def awc:X:=.f 32 (bL 23 cV (eZ 28 VZ))
abbrev abl:X:=aVf
abbrev SA:X:=aVg
def awe:X:=mo abl afM SA 4 (pH (rZ 20 21 22 awc (iE 24 25 26 27 (dG awb bA vG))))
def afN:X:=E5 afM SA
def awf:X:=E7 afN
def awg:X:=zP VZ Sj
def awh:X:=mo abl afM SA 4 (pH (rZ 20 21 22 awc (bL 24 awg aK6)))
def awi:X:=E0
abbrev aLB:X:=kL awi
def aVh:X:=.f 91 aLB
def V0:X:=.f 90 aLB
abbrev aLC:X:=j8 awi V0
def aVi:X:=.f 17 aLC
def awj:X:=xI V0
def afP:X:=.f 14 aLC
def awk:X:=.f 32 (bL 24 aU (eZ 28 V0))
abbrev abm:X:=aVh
abbrev SB:X:=aVi
def awl:X:=mo abm afP SB 4 (pH (iE 20 21 22 23 (kK awk 25 (cN 26 27 (dG awj cq vG)))))
def afQ:X:=E5 afP SB
def awm:X:=E7 afQ
def aVj:X:=qw V0 aU Sk
abbrev abn:X:=aVj
def awn:X:=mo abm afP SB 4 (pH (iE 20 21 22 23 (qB awk (.v 25) abn aK7)))
def awo:X:=aaE
def awp:X:=mo nL rT mQ 4 (pH (mm 20 21 22 23 24 25 26 27 (dG awo bM vG)))
def awq:X:=.o2 0 aaJ rT
def awr:X:=aK0
def afS:X:=mR awq awr E1
def aws:X:=E7 afS
def aVk:X:=B0
abbrev xO:X:=aVk
def awt:X:=mo nL rT mQ 4 (pH (iE 20 21 22 23 (cN 24 25 (pD xO 27 aj ae (iE 40 41 50 25 (.c xO aK9))))))
def aVl:X:=rY xO
def aVm:X:=B3 xO
def awu:X:=mR awq awr aaT
def awv:X:=mo nL rT mQ 4 (pH (iE 20 21 22 23 (cN 24 25 (pD xO 27 aj ae (iE 40 41 50 25 (.c xO aK1))))))
def σ0 (k:Nat):X:=bif Nat.beq k 5 || Nat.beq k 6 then .i 0 else .v k
abbrev e0 (E:Env):Env:=@dw _ E σ0
theorem dn {E:Env} (hF:@ah _ E nj.fa.fx):@ah _ (e0 E) dx.fa.fx:=by
 letI:=E
 exact ae2 (F:=nj.fa.fx) (σ:=σ0) hF kr
theorem nk {E:Env} {b:Bool} (h:decide (@N _ E yQ≠0)=b):decide (@N _ (e0 E) yQ≠0)=b:=by
 have e:@N _ E (bP σ0 yQ)=@N _ (e0 E) yQ:=by letI:=E; exact fm (σ:=σ0) yQ
 have e2:bP σ0 yQ=yQ:=kr
 rw[e2] at e
 rw[<- e]
 exact h
theorem sV {E:Env}:@N _ (e0 E) (.v 5) < 128:=show (0:Int) < 128 by decide
theorem aFk {E:Env} (hF:ah nj.fa.fx):1<=N E6:=by
 have:=hF.g (x:=.o2 1 E6 aj) (mt (mt (mt mh)))
 have e:(0:Int)<=N E6 - 1:=this
 omega
theorem no0 {E:Env} (hF:@ah _ E nj.fa.fx) (h:@N _ (e0 E) (.v 5)=@N _ (e0 E) aaI):0<=@N _ E nH:=by
 have h1:=aFk hF
 have h2:(0:Int)=@N _ E E6:=h
 omega
theorem rC {E:Env} {t:Lz.ak} (hF:ah nj.fa.fx) (h:t.fin=(s0 (e0 E)).fin):0<=Lz.gN 0 128 4 (Lz.Dp t) - 1:=by
 have h1:=aFk hF
 have e:Lz.gN 0 128 4 (Lz.Dp t)=N E6:=by
  unfold Lz.Dp
  rw[h]
  rfl
 omega
theorem aDE {E:Env} (x:X):@D _ (e0 E) (.o3 0 (.v 6) (.v 5) (.o3 0 x aj ae))=@D _ (e0 E) (.o3 0 x aj ae):=by
 funext q
 rw[@cE _ (e0 E)]
 have e:@N _ (e0 E) (.v 5)=0:=rfl
 rw[e,if_neg om]
 congr 1
theorem a7w {E:Env} {H:Prop} (k:H->@ah _ (e0 E) dx.fa.fx) (h:((((((H/\¬@N _ (e0 E) (.v 55)=3)/\¬@N _ (e0 E) (.v 55)=4)/\@N _ (e0 E) (.v 3)<=0)/\@N _ (e0 E) (.v 1) < @N _ (e0 E) (.v 2))/\0 < @N _ (e0 E) (.v 54))/\@N _ (e0 E) (.v 5) < 128)/\0 < @N _ (e0 E) (.v 51)):@D _ E (xL 1 2 3 4 (dG aj (lD MR) (mm 20 21 22 23 24 25 26 27 (tD 28 29 aKI apq))))=@D _ E ae1:=by
 have g:=congrArg Lz.ak.all (OR (E:=e0 E) k h).fin
 rw[aDE] at g
 exact g
abbrev aLD:X:=xL 1 2 3 4 (dG aj aKJ aLf)
theorem a7x {E:Env} {H:Prop} (k:H->@ah _ (e0 E) dx.fa.fx) (h:((((((H/\¬@N _ (e0 E) (.v 55)=3)/\¬@N _ (e0 E) (.v 55)=4)/\@N _ (e0 E) (.v 3)<=0)/\@N _ (e0 E) (.v 1) < @N _ (e0 E) (.v 2))/\0 < @N _ (e0 E) (.v 54))/\@N _ (e0 E) (.v 5) < 128)/\@N _ (e0 E) (.v 51)<=0):@D _ E aLD=@D _ E ae1:=by
 have g:=congrArg Lz.ak.all (OS (E:=e0 E) k h).fin
 rw[aDE] at g
 exact g
def mJ:Fa->Bool:=WD [(295,bG (av PZ) (av PY)),(297,bG (av Qd) (bG (av Qe) (bG (av Qf) (bG (av Qg) (bG (av Qh) (bG (av Qi) (bG (av Qj) (bG (av Qk) (av Ql)))))))))] [] 8 244 3 Tryz.f244 nj dx
def avD:Fa:=nj.fa
abbrev apy:Tr:=.ge nH .no
def awx:Tr:=apy
theorem aUQ:cx mJ (avD.on aaL true) awx=true:=kr
def avJ:Fa:=(avD.on (.o2 12 (.v 55) (.i 3)) false)
def awI:Tr:=apy
theorem aU1:cx mJ (avJ.on aa6 true) awI=true:=kr
def avQ:Fa:=(avJ.on (.o2 12 (.v 55) (.i 4)) false)
def avR:Fa:=(avQ.on (.o2 11 (.i 0) (.v 3)) true)
def awN:Tr:=apy
theorem aU6:cx mJ (avR.on M5 true) awN=true:=kr
abbrev E8:X:=aVc
def awO:Tr:=.ge (fJ So) (Sy (dG aaV M1 apb) (g8 (M3 avU) (rY aaV) (g8 (.o2 1 qx aaV) aLb (tB avU E8))))
theorem aU7:cx mJ (avR.on M5 false) awO=true:=kr
def avS:Fa:=(avQ.on (.o2 11 (.i 0) (.v 3)) false)
def avT:Fa:=(avS.on (.o2 11 (.v 1) (.v 2)) true)
def avE:Fa:=(avT.on (.o2 11 (.i 0) (.v 54)) true)
def awy:Tr:=g8 aa8 aoY (g8 aoZ ao4 (.is aLc true (tB (xL 1 2 3 4 (dG aj (lD av6) (mm 20 21 22 23 24 25 26 27 (tD 28 29 (tq 40 41 av6 Jd) apq)))) E8)))
theorem aUR:cx mJ (avE.on M6 true) awy=true:=kr
def awz:Tr:=pG aa8 (cJ 52 ae) (bz ae 52) (.is aLe true (tB aLD E8))
theorem aUS:cx mJ (avE.on M6 false) awz=true:=kr
def avF:Fa:=(avT.on (.o2 11 (.i 0) (.v 54)) false)
def avG:Fa:=(avF.on (.o2 12 (.v 41) (.v 50)) true)
abbrev E9(a b c d:X):Tr:=pG (M3 a) b c (tB d E8)
def awA:Tr:=.is aLg true (E9 awd (E7 aww) aww awd)
theorem aUT:cx mJ (avG.on IU true) awA=true:=kr
abbrev aLE:Tr:=.is aVo true (pG aVa aVb avW (tB avV E8))
def awB:Tr:=aLE
theorem aUU:cx mJ (avG.on IU false) awB=true:=kr
def avH:Fa:=(avF.on (.o2 12 (.v 41) (.v 50)) false)
def awC:Tr:=pG kh Ja (bz aj 28) (nQ avX afJ aj avY aba (E9 av0 (E7 av1) av1 av0))
theorem aUV:cx mJ (avH.on aaW true) awC=true:=kr
def avI:Fa:=(avH.on (.o2 12 (.v 29) (.i 0)) false)
def avK:Fa:=(avI.on (.o2 12 (.v 29) (.i 1)) true)
def awD:Tr:=pG kh aaX aaY (nQ abk Sz av3 aj aba (E9 av5 av7 afL av5))
theorem aUW:cx mJ (avK.on vH true) awD=true:=kr
def awE:Tr:=g8 kh aaX (g8 aaY MN (Sy (dG abk Sz aK5) (E9 av9 av7 afL av9)))
theorem aUX:cx mJ (avK.on vH false) awE=true:=kr
def avL:Fa:=(avI.on (.o2 12 (.v 29) (.i 1)) false)
def avM:Fa:=(avL.on (.o2 12 (.v 29) (.i 2)) true)
def awF:Tr:=.ge kh (nQ abl SA awb bA M4 (E9 awe awf afN awe))
theorem aUY:cx mJ (avM.on vH true) awF=true:=kr
def awG:Tr:=g8 kh MN (nQ abl SA aj cq (.c awg apo) (E9 awh awf afN awh))
theorem aUZ:cx mJ (avM.on vH false) awG=true:=kr
def avN:Fa:=(avL.on (.o2 12 (.v 29) (.i 2)) false)
def avO:Fa:=(avN.on (.o2 12 (.v 29) (.i 3)) true)
def awH:Tr:=g8 kh zS (nQ abm SB awj cq M4 (E9 awl awm afQ awl))
theorem aU0:cx mJ (avO.on vI true) awH=true:=kr
def awJ:Tr:=pG kh zS MS (nQ abm SB aj bM (bL 25 abn aa9) (g8 (M3 awn) (rY abn) (pG (B3 abn) awm afQ (tB awn E8))))
theorem aU2:cx mJ (avO.on vI false) awJ=true:=kr
def avP:Fa:=(avN.on (.o2 12 (.v 29) (.i 3)) false)
def awK:Tr:=pG kh zS aa3 (nQ nL mQ awo bM M4 (E9 awp aws afS awp))
theorem aU3:cx mJ (avP.on vI true) awK=true:=kr
abbrev abo:X:=aVl
abbrev abp:X:=aVm
def awL:Tr:=g8 kh zS (g8 aa3 MS (.tf (.o1 8 (xD Sr (xD (EH 41 xO) aaK))) (nQ nL mQ aj ae (bL 25 xO (bL 25 xO aK8)) (g8 (M3 awt) abo (g8 abp abo (pG abp (E7 awu) awu (tB awt E8))))) (nQ nL mQ aj ae (bL 25 xO (bL 25 xO aLa)) (g8 (M3 awv) abo (g8 abp abo (pG abp aws afS (tB awv E8)))))))
theorem aU4:cx mJ (avP.on vI false) awL=true:=kr
def awM:Tr:=aLE
theorem aU5:cx mJ (avS.on aaU false) awM=true:=kr
def afT:Tr:=.tf aaL awx (.tf aa6 awI (.tf (qu (.v 3)) (.tf M5 awN awO) (.tf aaU (.tf (qu (.v 54)) (.tf M6 awy awz) (.tf aK2 (.tf IU awA awB) (.tf aaW awC (.tf (rS (.v 29)) (.tf vH awD awE) (.tf (E2 29 bA) (.tf vH awF awG) (.tf (E2 29 cq) (.tf vI awH awJ) (.tf vI awK awL))))))) awM)))
theorem aUO:Ob nj.fa (λE=>ah nj.fa.fx) afT:=⟨⟨λE h=>no0 (h.1) (x1 (E:=e0 E) (dn (E:=E)) h).ol,trivial⟩,⟨⟨λE h=>no0 (h.1.1) (x2 (E:=e0 E) (dn (E:=E)) h).ol,trivial⟩,⟨⟨⟨λE h=>no0 (h.1.1.1.1) (x4 (E:=e0 E) (dn (E:=E)) h).ol,trivial⟩,⟨λE h=>(Kf (E:=e0 E) (dn (E:=E)) h).1,⟨λE h=>dS (G0 (E:=e0 E) (dn (E:=E)) h).ok,⟨λE h=>rC (h.1.1.1.1) (G0 (E:=e0 E) (dn (E:=E)) h).fin,⟨λE h=>(Kf (E:=e0 E) (dn (E:=E)) h).2.1,⟨λE h=>(Kf (E:=e0 E) (dn (E:=E)) h).2.2,⟨λE h=>(G0 (E:=e0 E) (dn (E:=E)) h).pos,⟨λE h=>congrArg Lz.ak.all (G0 (E:=e0 E) (dn (E:=E)) h).fin,trivial⟩⟩⟩⟩⟩⟩⟩⟩,⟨⟨⟨⟨λE h=>(C0 (E:=e0 E) (dn (E:=E)) ⟨⟨⟨⟨⟨⟨⟨h.1.1.1.1.1.1,h.1.1.1.1.1.2⟩,h.1.1.1.1.2⟩,h.1.1.1.2⟩,h.1.1.2⟩,h.1.2⟩,sV⟩,h.2⟩).1,⟨λE h=>(C0 (E:=e0 E) (dn (E:=E)) ⟨⟨⟨⟨⟨⟨⟨h.1.1.1.1.1.1,h.1.1.1.1.1.2⟩,h.1.1.1.1.2⟩,h.1.1.1.2⟩,h.1.1.2⟩,h.1.2⟩,sV⟩,h.2⟩).2.1,⟨λE h=>(C0 (E:=e0 E) (dn (E:=E)) ⟨⟨⟨⟨⟨⟨⟨h.1.1.1.1.1.1,h.1.1.1.1.1.2⟩,h.1.1.1.1.2⟩,h.1.1.1.2⟩,h.1.1.2⟩,h.1.2⟩,sV⟩,h.2⟩).2.2.1,⟨λE h=>(C0 (E:=e0 E) (dn (E:=E)) ⟨⟨⟨⟨⟨⟨⟨h.1.1.1.1.1.1,h.1.1.1.1.1.2⟩,h.1.1.1.1.2⟩,h.1.1.1.2⟩,h.1.1.2⟩,h.1.2⟩,sV⟩,h.2⟩).2.2.2,⟨λE h=>dS (OR (E:=e0 E) (dn (E:=E)) ⟨⟨⟨⟨⟨⟨⟨h.1.1.1.1.1.1,h.1.1.1.1.1.2⟩,h.1.1.1.1.2⟩,h.1.1.1.2⟩,h.1.1.2⟩,h.1.2⟩,sV⟩,h.2⟩).ok,⟨λE h=>a7w (E:=E) (dn (E:=E)) ⟨⟨⟨⟨⟨⟨⟨h.1.1.1.1.1.1,h.1.1.1.1.1.2⟩,h.1.1.1.1.2⟩,h.1.1.1.2⟩,h.1.1.2⟩,h.1.2⟩,sV⟩,h.2⟩,trivial⟩⟩⟩⟩⟩⟩,⟨λE h=>(Kh (E:=e0 E) (dn (E:=E)) ⟨⟨⟨⟨⟨⟨⟨h.1.1.1.1.1.1,h.1.1.1.1.1.2⟩,h.1.1.1.1.2⟩,h.1.1.1.2⟩,h.1.1.2⟩,h.1.2⟩,sV⟩,h.2⟩).1,⟨λE h=>(Kh (E:=e0 E) (dn (E:=E)) ⟨⟨⟨⟨⟨⟨⟨h.1.1.1.1.1.1,h.1.1.1.1.1.2⟩,h.1.1.1.1.2⟩,h.1.1.1.2⟩,h.1.1.2⟩,h.1.2⟩,sV⟩,h.2⟩).2.1,⟨λE h=>(Kh (E:=e0 E) (dn (E:=E)) ⟨⟨⟨⟨⟨⟨⟨h.1.1.1.1.1.1,h.1.1.1.1.1.2⟩,h.1.1.1.1.2⟩,h.1.1.1.2⟩,h.1.1.2⟩,h.1.2⟩,sV⟩,h.2⟩).2.2,⟨λE h=>dS (OS (E:=e0 E) (dn (E:=E)) ⟨⟨⟨⟨⟨⟨⟨h.1.1.1.1.1.1,h.1.1.1.1.1.2⟩,h.1.1.1.1.2⟩,h.1.1.1.2⟩,h.1.1.2⟩,h.1.2⟩,sV⟩,h.2⟩).ok,⟨λE h=>a7x (E:=E) (dn (E:=E)) ⟨⟨⟨⟨⟨⟨⟨h.1.1.1.1.1.1,h.1.1.1.1.1.2⟩,h.1.1.1.1.2⟩,h.1.1.1.2⟩,h.1.1.2⟩,h.1.2⟩,sV⟩,h.2⟩,trivial⟩⟩⟩⟩⟩⟩,⟨⟨⟨λE h=>dS (AF (E:=e0 E) (dn (E:=E)) h).ok,⟨λE h=>rC (h.1.1.1.1.1.1.1) (AF (E:=e0 E) (dn (E:=E)) h).fin,⟨λE h=>(AF (E:=e0 E) (dn (E:=E)) h).mu,⟨λE h=>(AF (E:=e0 E) (dn (E:=E)) h).pos,⟨λE h=>congrArg Lz.ak.all (AF (E:=e0 E) (dn (E:=E)) h).fin,trivial⟩⟩⟩⟩⟩,⟨λE h=>dS (AG (E:=e0 E) (dn (E:=E)) h).ok,⟨λE h=>rC (h.1.1.1.1.1.1.1) (AG (E:=e0 E) (dn (E:=E)) h).fin,⟨λE h=>(AG (E:=e0 E) (dn (E:=E)) h).mu,⟨λE h=>(AG (E:=e0 E) (dn (E:=E)) h).pos,⟨λE h=>congrArg Lz.ak.all (AG (E:=e0 E) (dn (E:=E)) h).fin,trivial⟩⟩⟩⟩⟩⟩,⟨⟨λE h=>(Ki (E:=e0 E) (dn (E:=E)) h).1,⟨λE h=>(Ki (E:=e0 E) (dn (E:=E)) h).2.1,⟨λE h=>(Ki (E:=e0 E) (dn (E:=E)) h).2.2,⟨λE h=>dS (AH (E:=e0 E) (dn (E:=E)) h).ok,⟨λE h=>rC (h.1.1.1.1.1.1.1) (AH (E:=e0 E) (dn (E:=E)) h).fin,⟨λE h=>(AH (E:=e0 E) (dn (E:=E)) h).mu,⟨λE h=>(AH (E:=e0 E) (dn (E:=E)) h).pos,⟨λE h=>congrArg Lz.ak.all (AH (E:=e0 E) (dn (E:=E)) h).fin,trivial⟩⟩⟩⟩⟩⟩⟩⟩,⟨⟨⟨λE h=>(Kj (E:=e0 E) (dn (E:=E)) h).1,⟨λE h=>(Kj (E:=e0 E) (dn (E:=E)) h).2.1,⟨λE h=>(Kj (E:=e0 E) (dn (E:=E)) h).2.2,⟨λE h=>dS (AD (E:=e0 E) (dn (E:=E)) h).ok,⟨λE h=>rC (h.1.1.1.1.1.1.1.1.1) (AD (E:=e0 E) (dn (E:=E)) h).fin,⟨λE h=>(AD (E:=e0 E) (dn (E:=E)) h).mu,⟨λE h=>(AD (E:=e0 E) (dn (E:=E)) h).pos,⟨λE h=>congrArg Lz.ak.all (AD (E:=e0 E) (dn (E:=E)) h).fin,trivial⟩⟩⟩⟩⟩⟩⟩⟩,⟨λE h=>(C4 (E:=e0 E) (dn (E:=E)) h).1,⟨λE h=>(C4 (E:=e0 E) (dn (E:=E)) h).2.1,⟨λE h=>(C4 (E:=e0 E) (dn (E:=E)) h).2.2.1,⟨λE h=>(C4 (E:=e0 E) (dn (E:=E)) h).2.2.2,⟨λE h=>dS (AE (E:=e0 E) (dn (E:=E)) h).ok,⟨λE h=>rC (h.1.1.1.1.1.1.1.1.1) (AE (E:=e0 E) (dn (E:=E)) h).fin,⟨λE h=>(AE (E:=e0 E) (dn (E:=E)) h).mu,⟨λE h=>(AE (E:=e0 E) (dn (E:=E)) h).pos,⟨λE h=>congrArg Lz.ak.all (AE (E:=e0 E) (dn (E:=E)) h).fin,trivial⟩⟩⟩⟩⟩⟩⟩⟩⟩⟩,⟨⟨⟨λE h=>(a_6 (E:=e0 E) (dn (E:=E)) h),⟨λE h=>dS (AI (E:=e0 E) (dn (E:=E)) h).ok,⟨λE h=>rC (h.1.1.1.1.1.1.1.1.1.1) (AI (E:=e0 E) (dn (E:=E)) h).fin,⟨λE h=>(AI (E:=e0 E) (dn (E:=E)) h).mu,⟨λE h=>(AI (E:=e0 E) (dn (E:=E)) h).pos,⟨λE h=>congrArg Lz.ak.all (AI (E:=e0 E) (dn (E:=E)) h).fin,trivial⟩⟩⟩⟩⟩⟩,⟨λE h=>(Ux (E:=e0 E) (dn (E:=E)) h).1,⟨λE h=>(Ux (E:=e0 E) (dn (E:=E)) h).2,⟨λE h=>dS (AJ (E:=e0 E) (dn (E:=E)) h).ok,⟨λE h=>rC (h.1.1.1.1.1.1.1.1.1.1) (AJ (E:=e0 E) (dn (E:=E)) h).fin,⟨λE h=>(AJ (E:=e0 E) (dn (E:=E)) h).mu,⟨λE h=>(AJ (E:=e0 E) (dn (E:=E)) h).pos,⟨λE h=>congrArg Lz.ak.all (AJ (E:=e0 E) (dn (E:=E)) h).fin,trivial⟩⟩⟩⟩⟩⟩⟩⟩,⟨⟨⟨λE h=>(Uy (E:=e0 E) (dn (E:=E)) h).1,⟨λE h=>(Uy (E:=e0 E) (dn (E:=E)) h).2,⟨λE h=>dS (AO (E:=e0 E) (dn (E:=E)) h).ok,⟨λE h=>rC (h.1.1.1.1.1.1.1.1.1.1.1) (AO (E:=e0 E) (dn (E:=E)) h).fin,⟨λE h=>(AO (E:=e0 E) (dn (E:=E)) h).mu,⟨λE h=>(AO (E:=e0 E) (dn (E:=E)) h).pos,⟨λE h=>congrArg Lz.ak.all (AO (E:=e0 E) (dn (E:=E)) h).fin,trivial⟩⟩⟩⟩⟩⟩⟩,⟨λE h=>(yx (E:=e0 E) (dn (E:=E)) h).1,⟨λE h=>(yx (E:=e0 E) (dn (E:=E)) h).2.1,⟨λE h=>(yx (E:=e0 E) (dn (E:=E)) h).2.2.1,⟨λE h=>dS (AP (E:=e0 E) (dn (E:=E)) h).ok,⟨λE h=>rC (h.1.1.1.1.1.1.1.1.1.1.1) (AP (E:=e0 E) (dn (E:=E)) h).fin,⟨λE h=>(yx (E:=e0 E) (dn (E:=E)) h).2.2.2.1,⟨λE h=>(yx (E:=e0 E) (dn (E:=E)) h).2.2.2.2,⟨λE h=>(AP (E:=e0 E) (dn (E:=E)) h).mu,⟨λE h=>(AP (E:=e0 E) (dn (E:=E)) h).pos,⟨λE h=>congrArg Lz.ak.all (AP (E:=e0 E) (dn (E:=E)) h).fin,trivial⟩⟩⟩⟩⟩⟩⟩⟩⟩⟩⟩,⟨⟨λE h=>(Kg (E:=e0 E) (dn (E:=E)) h).1,⟨λE h=>(Kg (E:=e0 E) (dn (E:=E)) h).2.1,⟨λE h=>(Kg (E:=e0 E) (dn (E:=E)) h).2.2,⟨λE h=>dS (AL (E:=e0 E) (dn (E:=E)) h).ok,⟨λE h=>rC (h.1.1.1.1.1.1.1.1.1.1.1) (AL (E:=e0 E) (dn (E:=E)) h).fin,⟨λE h=>(AL (E:=e0 E) (dn (E:=E)) h).mu,⟨λE h=>(AL (E:=e0 E) (dn (E:=E)) h).pos,⟨λE h=>congrArg Lz.ak.all (AL (E:=e0 E) (dn (E:=E)) h).fin,trivial⟩⟩⟩⟩⟩⟩⟩⟩,⟨λE h=>(C1 (E:=e0 E) (dn (E:=E)) h).1,⟨λE h=>(C1 (E:=e0 E) (dn (E:=E)) h).2.1,⟨λE h=>(C1 (E:=e0 E) (dn (E:=E)) h).2.2.1,⟨λE h=>(C1 (E:=e0 E) (dn (E:=E)) h).2.2.2,⟨⟨λE h=>dS (AN (E:=e0 E) (dn (E:=E)) ⟨h.1,nk h.2⟩).ok,⟨λE h=>rC (h.1.1.1.1.1.1.1.1.1.1.1.1) (AN (E:=e0 E) (dn (E:=E)) ⟨h.1,nk h.2⟩).fin,⟨λE h=>(C2 (E:=e0 E) (dn (E:=E)) ⟨h.1,nk h.2⟩).1,⟨λE h=>(C2 (E:=e0 E) (dn (E:=E)) ⟨h.1,nk h.2⟩).2.1,⟨λE h=>(C2 (E:=e0 E) (dn (E:=E)) ⟨h.1,nk h.2⟩).2.2.1,⟨λE h=>(C2 (E:=e0 E) (dn (E:=E)) ⟨h.1,nk h.2⟩).2.2.2,⟨λE h=>(AN (E:=e0 E) (dn (E:=E)) ⟨h.1,nk h.2⟩).mu,⟨λE h=>(AN (E:=e0 E) (dn (E:=E)) ⟨h.1,nk h.2⟩).pos,⟨λE h=>congrArg Lz.ak.all (AN (E:=e0 E) (dn (E:=E)) ⟨h.1,nk h.2⟩).fin,trivial⟩⟩⟩⟩⟩⟩⟩⟩⟩,⟨λE h=>dS (AM (E:=e0 E) (dn (E:=E)) ⟨h.1,nk h.2⟩).ok,⟨λE h=>rC (h.1.1.1.1.1.1.1.1.1.1.1.1) (AM (E:=e0 E) (dn (E:=E)) ⟨h.1,nk h.2⟩).fin,⟨λE h=>(C3 (E:=e0 E) (dn (E:=E)) ⟨h.1,nk h.2⟩).1,⟨λE h=>(C3 (E:=e0 E) (dn (E:=E)) ⟨h.1,nk h.2⟩).2.1,⟨λE h=>(C3 (E:=e0 E) (dn (E:=E)) ⟨h.1,nk h.2⟩).2.2.1,⟨λE h=>(C3 (E:=e0 E) (dn (E:=E)) ⟨h.1,nk h.2⟩).2.2.2,⟨λE h=>(AM (E:=e0 E) (dn (E:=E)) ⟨h.1,nk h.2⟩).mu,⟨λE h=>(AM (E:=e0 E) (dn (E:=E)) ⟨h.1,nk h.2⟩).pos,⟨λE h=>congrArg Lz.ak.all (AM (E:=e0 E) (dn (E:=E)) ⟨h.1,nk h.2⟩).fin,trivial⟩⟩⟩⟩⟩⟩⟩⟩⟩⟩⟩⟩⟩⟩⟩⟩⟩⟩⟩⟩⟩,⟨λE h=>dS (AK (E:=e0 E) (dn (E:=E)) h).ok,⟨λE h=>rC (h.1.1.1.1) (AK (E:=e0 E) (dn (E:=E)) h).fin,⟨λE h=>(AK (E:=e0 E) (dn (E:=E)) h).mu,⟨λE h=>(AK (E:=e0 E) (dn (E:=E)) h).pos,⟨λE h=>congrArg Lz.ak.all (AK (E:=e0 E) (dn (E:=E)) h).fin,trivial⟩⟩⟩⟩⟩⟩⟩⟩⟩
theorem aU8:cx mJ nj.fa afT=true:=(eV aUQ (eV aU1 (eV (eV aU6 aU7) (eV (eV (eV aUR aUS) (eV (eV aUT aUU) (eV aUV (eV (eV aUW aUX) (eV (eV aUY aUZ) (eV (eV aU0 aU2) (eV aU3 aU4))))))) aU5))))
theorem aVp:cr aa Tryz.f244.ntmps (aI 3 (loops (aC Tryz.f244))) nj nj.fa:=orO (t:=ahi) (lt:=[]) (m:=8) (f:=244) (k:=3) asl trivial dx aVq (λ_=>rfl) rfl afT aUO aU8
theorem aUN (E:Env) (hF:ah nj.fa.fx):0<=N nj.μ:=(Lz.ayJ (XJ (dn hF)))
theorem aUP:ct aa Tryz.f244.ntmps (aI 3 (loops (aC Tryz.f244))) nj:=aVp.all aUN
theorem avs:cA aa ((244,3),aW nj):=dZ Tryz.func244 kr aUP
end
end Go.Proofs.Y
