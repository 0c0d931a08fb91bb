import Derived.Test.YtgmieahcpkcabaaGreatBq6
import Derived.Test.YtgmieahcpkcabaaGreatBq5
set_option maxRecDepth 100000
set_option linter.unusedSimpArgs false
set_option linter.unusedVariables false
set_option linter.constructorNameAsVariable false
set_option linter.unusedSectionVars false
noncomputable section
namespace Go.Proofs.Y
open Go Go.Z
section
variable [kv]
abbrev aI4:Nat×Int×Int:=(0,-9223372036854775808,9223372036854775807)
abbrev dT(a:VB)(b:List X)(c:List (X×Bool)):Fa:=⟨a,b,c,[]⟩
abbrev fj(a:VB)(b:List X):Fa:=dT a b []
abbrev cI(a:VB):Fa:=fj a []
abbrev gw(a:X):V:=.c (.int .i64 a)
abbrev lB(a:Nat):V:=gw (.v a)
abbrev R2:V:=lB 0
abbrev nG:X:=.i 31
abbrev MB(a:X)(b:Nat):X:=.o2 11 a (.v b)
abbrev EI(a b:X)(c:Nat):X:=.o3 1 a b (.v c)
abbrev aI5:X:=EI (MB (.i 2017) 0) (.i 2017) 0
abbrev aI6:X:=.o3 1 (.o2 11 nG aI5) aI5 nG
abbrev lC(a:Fa)(b:List V)(c:V):Sp:=⟨a,b,0,[],c,0,[]⟩
def ain:Sp:=lC (cI [aI4]) [R2] (gw aI6)
abbrev bj(a:X):X:=.c a .n
abbrev qv(a:Nat):X:=bj (.v a)
abbrev fO:X:=qv 0
abbrev BL:X:=.f 10 fO
def PU:Sp:={ain with v:=gw BL,l':=ain.l'}
theorem a3Z:ab aa 333 ain:=aG (t:=[]) (lt:=[]) (m:=8) trivial trivial .lf kr
abbrev ae:X:=.i 0
abbrev ao(a:X):X:=.o2 0 a ae
theorem a30:ab aa 333 PU:=aL a3Z [((ao aI6),(ao BL))] _ _ (al (λE hF=>(by
 refine aD ?_
 have e1:N BL=Lz.az 31 2017 (N (.v 0)):=rfl
 rw[e1]
 simp only[bl,bB,iY,dH,yo,pX,CS,ui,yq]
 unfold Lz.az
 by_cases h:2017 < N (.v 0)
 .simp only[if_pos h,if_pos (show (31:Int) < 2017 by decide)]
  rw[if_neg om]
 .simp only[if_neg h]
  by_cases h2:31 < N (.v 0)
  .rw[if_pos h2,if_neg om]
  .rw[if_neg h2]
   split <;>omega))<|aN) kr
theorem ahe:aY aa (333,av PU):=cf a30
abbrev IT:V:=lB 1
abbrev xC(a:X):X:=.o2 12 a ae
abbrev IU:X:=xC (.v 1)
abbrev nH:X:=.i (-1)
abbrev qw(a b c:X):X:=.o2 0 (.o2 2 a b) c
abbrev vq(a b:X):X:=qw a nH b
abbrev aoq:X:=vq BL (.i 2048)
abbrev bW:X:=.i 32
abbrev IP(a:X):X:=.o2 2 a nH
abbrev aI3:X:=.o3 1 IU (.o2 0 BL (.o2 3 aoq bW)) (.o2 0 BL (IP (.o2 3 BL bW)))
def ahv:Sp:=lC (cI [aI4,(1,-9223372036854775808,9223372036854775807)]) [R2,IT] (gw aI3)
abbrev vo:X:=qv 1
abbrev cy(a:Nat)(b:X):X:=.c (.v a) b
abbrev jJ:X:=cy 0 vo
def PK:Sp:={ahv with v:=gw (.f 11 jJ),l':=ahv.l'}
theorem a1Y:ab aa 336 ahv:=aG (t:=[(333,av PU)]) (lt:=[]) (m:=8) ⟨ahe,trivial⟩ trivial (.tf (.o2 12 (.v 1) (.i 0)) .lf .lf) kr
theorem a1Z:ab aa 336 PK:=aL a1Y [((ao aI3),(ao (.f 11 jJ)))] _ _ (al (λE hF=>(by
 have hb:=Lz.KR (N (.v 0))
 refine aD ?_
 have e0:N BL=Lz.hold (N (.v 0)):=rfl
 have e1:N (.f 11 jJ)=Lz.adapt (N (.v 0)) (N (.v 1)):=rfl
 rw[e1,Lz.aPS]
 generalize Lz.hold (N (.v 0))=H at*
 have e2:N aoq=2048 - H:=by simp only[bl,bB,iY,dH,yo,pX,CS,ui,yq,e0]; omega
 have e3:N (.o2 3 aoq bW)=(2048 - H) / 32:=by rw[gQ om,e2]
 have e7:N (.o2 3 BL bW)=H / 32:=by rw[gQ om,e0]
 simp only[ui,bB,dH,bl,e0,e7]
 rw[e3]
 by_cases h:N (.v 1)=0
 .simp only[if_pos h]
 .simp only[if_neg h] <;>omega))<|aN) kr
theorem ahb:aY aa (336,av PK):=cf a1Z
abbrev oB:Nat×Int×Int:=(0,0,255)
abbrev aj:X:=.i 1
abbrev fJ(a:X):X:=.o2 1 a aj
abbrev IQ(a:Nat):X:=fJ (.v a)
abbrev bz(a:X)(b:Nat):X:=.o2 1 a (.v b)
abbrev jv(a:VB)(b:X):Fa:=fj a [b]
abbrev aop:C:=.ptr 0 0 ae
abbrev bS:V:=.c aop
abbrev tm:Nat×V:=(0,bS)
abbrev tn(a:X):V:=.c (.int .u64 a)
abbrev IS(a:Nat):V:=tn (.v a)
abbrev xA:V:=IS 1
abbrev vp:V:=lB 4
abbrev dM(a:Nat)(b:X):ai:=.c (.sl a 0 ae b .g)
abbrev nF(a:X):ai:=.c (.int .u64 a)
abbrev rM(a:Nat)(b c:X):Bl:=⟨372,[dM a b,nF c],false,0⟩
abbrev xB:Nat×Bl:=(0,rM 1 (.v 6) (.v 7))
abbrev oC(a b:X):Bl:=⟨5,[.a [.u8] a b],false,1⟩
abbrev cj(a:Nat)(b c:X):Nat×Bl:=(a,oC b c)
abbrev oD(a b:Nat)(c:X):Nat×Bl:=cj a (.v b) c
abbrev dG(a b c:X):X:=.c a (.c b c)
abbrev bL(a:Nat)(b c:X):X:=dG (.v a) b c
abbrev cN(a b:Nat)(c:X):X:=bL a (.v b) c
abbrev aI2:X:=.f 12 (cN 0 4 vo)
abbrev bQ(a:Nat)(b:X):X:=.o2 0 (.v a) b
abbrev nE(a:Nat):X:=bQ a aj
abbrev EG:X:=nE 4
def Hb:Lp:=⟨jv [oB,(1,0,8589934592),(4,-1,1048576),(6,1,1048576)] (bz (IQ 6) 4),[tm,(1,xA),(4,vp)],2,[xB,oD 1 6 (.v 0)],.exit 0,[],2,[xB,oD 1 6 aI2],EG⟩
abbrev lA(a:Nat)(b:X):X:=.o2 11 (.v a) b
abbrev EH(a:Nat)(b:X):X:=.o1 8 (lA a b)
abbrev qu(a:X):X:=.o2 11 ae a
abbrev fZ(a:Nat)(b:X):X:=.o2 14 (.v a) b
abbrev j7(a:X):X:=fZ 0 a
abbrev aad:X:=bQ 1 (j7 (.v 4))
abbrev eN(a:Nat)(b:X):X:=.o2 15 (.v a) b
abbrev bZ(a b c d e:X):X:=.o3 0 a b (.o3 0 c d e)
abbrev tq(a b:Nat)(c d:X):X:=bZ (.v a) (.v b) c aj d
abbrev aJc:X:=tq 0 4 (.o1 3 aad) (eN 0 EG)
abbrev BS(a:Nat):X:=bQ a nH
abbrev aH:X:=.i 8
abbrev lE(a b c:X):X:=dG a b (bj c)
abbrev bk(a b:X):X:=.o3 0 a b ae
abbrev iU(a:X)(b:Nat):X:=bk a (.v b)
abbrev aow:X:=iU aI2 6
abbrev aJd:X:=iU (.v 0) 6
theorem aUs:cr aa Tryz.f334.ntmps (aI 1 (loops (aC Tryz.f334))) Hb Hb.fa:=eX (t:=[]) (lt:=[]) (m:=8) (f:=334) (k:=1) trivial trivial (λ_=>rfl) rfl (.tf (EH 4 ae) (.tf (qu (.v 1)) (.same (iU (.f 12 (lE aJc (BS 4) (.o2 10 aad aH))) 6) aow .lf) (.same aJd aow .lf)) (.same aJd aow .lf)) ⟨⟨⟨λE hF=>(by
 obtain⟨⟨hF,h1⟩,h2⟩:=hF
 have h1:0<=N (.v 4):=h1
 have h2:0 < N (.v 1):=h2
 have b1:=(hF.b 0 rfl)
 have hr:0<=D (.v 0) (N (.v 4)).toNat:=(hF.vb 0 0 255 rfl _).1
 refine aq (λq _=>congrFun ?_ q) _
 show Lz.qR (N (.v 4)+-1+1).toNat (D aJc) (N (.o2 10 aad (.i ((8:Nat):Int))))=Lz.qR (N (.v 4)+1).toNat (D (.v 0)) (N (.v 1))
 have e:N aad=N (.v 1)+D (.v 0) (N (.v 4)).toNat:=rfl
 rw[su h1,uk 8 om,e,show (N (.v 4)+1).toNat=(N (.v 4)).toNat+1 by omega,show (N (.v 4)+-1+1).toNat=(N (.v 4)).toNat by omega]
 conv=>rhs; unfold Lz.qR
 rw[if_neg om]
 rfl),trivial⟩,⟨λE hF=>(by
 refine aq (λq _=>?_) _
 show D (.v 0) q=Lz.qR (N (.v 4)+1).toNat (D (.v 0)) (N (.v 1)) q
 rw[Lz.asG _ _ (show N (.v 1)<=0 from hF.2)]),trivial⟩⟩,⟨λE hF=>(by
 refine aq (λq _=>?_) _
 show D (.v 0) q=Lz.qR (N (.v 4)+1).toNat (D (.v 0)) (N (.v 1)) q
 have h:N (.v 4) < 0:=hF.2
 rw[show (N (.v 4)+1).toNat=0 by omega]
 rfl),trivial⟩⟩ kr
theorem aUq (E:Env) (hF:ah Hb.fa.fx):0<=N Hb.μ:=by
 have:=(hF.b 4 rfl).1
 show 0<=N (.v 4)+1
 omega
theorem aUr:ct aa Tryz.f334.ntmps (aI 1 (loops (aC Tryz.f334))) Hb:=aUs.all aUq
theorem aTN:cA aa ((334,1),aW Hb):=dZ Tryz.func334 kr aUr
abbrev vt:Nat×Int×Int:=(1,0,4294967295)
abbrev aJe:X:=cN 5 6 .n
abbrev MD:X:=.f 13 aJe
abbrev EK:Bl:=oC (.v 6) MD
abbrev ME:List (Nat×Bl):=[xB,(1,EK)]
abbrev iD:V:=.dK []
abbrev nJ(a:X):X:=bQ 6 a
abbrev aJf:X:=.f 12 (dG MD (nJ nH) vo)
def ahw:Sp:=⟨cI [vt,(6,1,1048575)],[bS,xA],2,ME,iD,2,[xB,oD 1 6 aJf]⟩
abbrev kI(a b:Nat):X:=bQ a (.v b)
abbrev di(a b:X):X:=dG a b .n
abbrev jK(a b:X):X:=.f 13 (di a b)
abbrev aJg:X:=jK (kI 5 1) (.v 6)
def WJ:Sp:={ahw with v:=ahw.v,l':=[xB,oD 1 6 aJg]}
theorem a10:ab aa 334 ahw:=aG (t:=[]) (lt:=[((334,1),aW Hb)]) (m:=8) trivial ⟨aTN,trivial⟩ .lf kr
theorem a12:ab aa 334 WJ:=aL a10 [((iU aJf 6),(iU aJg 6))] _ _ (al (λE hF=>(by
 have b6:=hF.b 6 rfl
 have b1:=hF.b 1 rfl
 refine aq (λq hq=>?_) _
 have hq:(q:Int) < N (.v 6):=hq
 show Lz.qR (N (.v 6)+-1+1).toNat (Lz.be (N (.v 5)) (N (.v 6))) (N (.v 1)) q=Lz.be (N (.v 5)+N (.v 1)) (N (.v 6)) q
 have e:N (.v 6)=((N (.v 6)).toNat:Int):=by omega
 rw[show (N (.v 6)+-1+1).toNat=(N (.v 6)).toNat by omega]
 conv=>lhs; rw[e]
 conv=>rhs; rw[e]
 rw[fg]
 exact Lz.aPU _ _ b1.1 _ q om))<|aN) kr
theorem azl:aY aa (334,av WJ):=cf a12
abbrev tp:X:=.i 16777216
abbrev aab:X:=lA 7 tp
abbrev IV:X:=nE 6
abbrev EJ:X:=EI aab IV 6
abbrev cV:X:=.i 256
abbrev mP(a:Nat)(b:X):X:=.o2 2 (.v a) b
abbrev aou:X:=EI aab (mP 7 cV) 7
abbrev lD(a:X):X:=bk a aj
abbrev BN:X:=lD ae
abbrev aov:X:=.o3 1 aab (.o3 0 MD (.v 6) BN) MD
def Lq:Sp:=⟨cI [(6,1,1048575),(7,0,4294967295)],[bS],2,ME,iD,3,[(0,rM 2 EJ aou),cj 2 EJ aov]⟩
abbrev BO:X:=qv 7
abbrev R4:X:=nJ (.f 21 BO)
abbrev aac:X:=jK (mP 5 (.f 22 BO)) R4
def W6:Sp:={Lq with v:=Lq.v,l':=[(0,rM 2 R4 (.f 16 BO)),cj 2 R4 aac]}
theorem a6h:ab aa 335 Lq:=aG (t:=[]) (lt:=[]) (m:=8) trivial trivial (.tf aab .lf .lf) kr
theorem a6i {E:Env} (hF:ah Lq.fa.fx):D (ao EJ)=D (ao R4):=by
 refine aD ?_
 have e:N (.f 21 BO)=Lz.fy (N (.v 7)):=rfl
 simp only[bl,bB,iY,dH,yo,pX,CS,ui,yq,e]
 unfold Lz.fy
 by_cases h:N (.v 7) < 16777216
 .simp only[if_pos h]
 .simp only[if_neg h] <;>omega
abbrev aI9:X:=ao (.f 16 BO)
theorem a6j {E:Env} (hF:ah Lq.fa.fx):D (ao aou)=D aI9:=by
 refine aD ?_
 have e:N (.f 16 BO)=Lz.wide (N (.v 7)):=rfl
 simp only[bl,bB,iY,dH,yo,pX,CS,ui,yq,e]
 unfold Lz.wide
 by_cases h:N (.v 7) < 16777216
 .simp only[if_pos h]
 .simp only[if_neg h]
theorem a6k {E:Env} (hF:ah Lq.fa.fx):D (bk aov EJ)=D (bk aac EJ):=by
 have b6:=hF.b 6 rfl
 refine aq (λq hq=>?_) _
 have e1:D aac q=Lz.be (N (.v 5)*Lz.gr (N (.v 7))) (N (.v 6)+Lz.fy (N (.v 7))) q:=rfl
 have e2:D MD q=Lz.be (N (.v 5)) (N (.v 6)) q:=rfl
 have e3:N (.v 6)=((N (.v 6)).toNat:Int):=by omega
 rw[e1,arZ,cE,adJ,e2]
 simp only[bl,bB,iY,dH,yo,pX,CS,ui,yq] at hq ⊢
 unfold Lz.gr Lz.fy
 by_cases h:N (.v 7) < 16777216
 .rw[if_pos h] at hq
  rw[if_pos h,if_pos h,if_pos h,e3,Lz.aQd _ _ _ om]
  by_cases h2:q < (N (.v 6)).toNat
  .rw[if_pos om,if_pos h2]
  .rw[if_neg om,if_neg h2]
 .rw[if_neg h,if_neg h,if_neg h,JX,Int.add_zero]
theorem a6l:ab aa 335 W6:=aL a6h [((ao EJ),(ao R4)),((ao aou),aI9),((bk aov EJ),(bk aac EJ))] _ _ (al (λ_ h=>a6i h)<|al (λ_ h=>a6j h)<|al (λ_ h=>a6k h)<|aN) kr
theorem azt:aY aa (335,av W6):=cf a6l
abbrev BP:Nat×Int×Int:=(7,16777216,4294967295)
abbrev BQ:V:=lB 8
abbrev R5:V:=lB 9
abbrev R6:X:=qv 9
abbrev aJa:V:=gw (.f 11 (cy 8 R6))
abbrev IW:X:=xC (.v 9)
abbrev nI(a:Nat)(b:X):X:=.o2 10 (.v a) b
abbrev IX:X:=qv 8
abbrev rN:X:=.o2 2 (nI 7 (.i 11)) (.f 10 IX)
abbrev zE(a:X):X:=.f 21 (bj a)
abbrev aJb:X:=nJ (zE rN)
abbrev vr:X:=bQ 7 (IP rN)
abbrev aI7:X:=nJ (zE vr)
abbrev R3:X:=.o3 1 IW aJb aI7
abbrev BM(a:X):X:=.f 16 (bj a)
abbrev aI8:X:=.o3 1 IW (BM rN) (BM vr)
abbrev aor:X:=jK (mP 5 (.f 22 (bj rN))) aJb
abbrev aos:X:=jK (.o2 2 (bQ 5 rN) (.f 22 (bj vr))) aI7
def ahM:Sp:=⟨cI [(6,1,1048570),BP,(8,-9223372036854775808,9223372036854775807),(9,0,1)],[bS,BQ,R5],2,ME,aJa,3,[(0,rM 2 R3 aI8),cj 2 R3 (.o3 1 IW aor aos)]⟩
abbrev MC:X:=cN 7 8 R6
abbrev aaa:X:=nJ (.f 17 MC)
abbrev aot:X:=jK (.f 15 (cy 5 MC)) aaa
def PL:Sp:={ahM with v:=aJa,l':=[(0,rM 2 aaa (.f 14 MC)),cj 2 aaa aot]}
abbrev cJ(a:Nat)(b:X):X:=.o2 1 (.v a) b
abbrev aJs:X:=.o2 1 (cJ 7 rN) (.i 253952)
theorem a2g {E:Env} (hF:ah ahM.fa.fx):0<=N aJs:=by
 have b:=hF.b 7 rfl
 have h:=Lz.wu (p:=N (.v 8)) b.1 b.2
 have e:=yy (p:=.v 8) (show 0<=N (.v 7) by omega)
 show 0<=N (.v 7) - N rN - 253952
 rw[e]
 omega
theorem a2h:ab aa 314 ahM:=dj (t:=[(333,av PU),(336,av PK),(334,av WJ),(335,av W6)]) (lt:=[]) (m:=8) ⟨ahe,ahb,azl,azt,trivial⟩ trivial (.ge aJs (.tf IW .lf .lf)) ⟨λ_ h=>a2g h,df rfl⟩ kr
theorem a2i:ab aa 314 PL:=aL a2h [((ao R3),(ao aaa)),((ao aI8),(ao (.f 14 MC))),((bk (.o3 1 IW aor aos) R3),(bk aot R3))] _ _ (al (λE hF=>(by
 have b7:=hF.b 7 rfl
 have en:=yy (w:=.v 7) (p:=.v 8) om
 have ew:N vr=N (.v 7) - Lz.bU (N (.v 7)) (N (.v 8)):=by
  rw[bB,dH,en]
  show N (.v 7)+Lz.bU (N (.v 7)) (N (.v 8))*-1=_
  omega
 refine aD ?_
 have e0:N (.f 17 MC)=Lz.fy (Lz.part (N (.v 7)) (N (.v 8)) (N (.v 9))):=rfl
 have e1:N (zE rN)=Lz.fy (N rN):=rfl
 have e2:N (zE vr)=Lz.fy (N vr):=rfl
 rw[en] at e1
 rw[ew] at e2
 simp only[ui,bB,bl,e0,e1,e2]
 unfold Lz.part
 by_cases h:N (.v 9)=0
 .simp only[if_pos h]
 .simp only[if_neg h]))<|al (λE hF=>(by
 have b7:=hF.b 7 rfl
 have en:=yy (w:=.v 7) (p:=.v 8) om
 have ew:N vr=N (.v 7) - Lz.bU (N (.v 7)) (N (.v 8)):=by
  rw[bB,dH,en]
  show N (.v 7)+Lz.bU (N (.v 7)) (N (.v 8))*-1=_
  omega
 refine aD ?_
 have e0:N (.f 14 MC)=Lz.aM (N (.v 7)) (N (.v 8)) (N (.v 9)):=rfl
 have e1:N (BM rN)=Lz.wide (N rN):=rfl
 have e2:N (BM vr)=Lz.wide (N vr):=rfl
 rw[en] at e1
 rw[ew] at e2
 rw[Lz.UE _ b7.1 b7.2] at e0
 simp only[ui,bl,e0,e1,e2]
 unfold Lz.part
 by_cases h:N (.v 9)=0
 .simp only[if_pos h]
 .simp only[if_neg h]))<|al (λE hF=>(by
 have b7:=hF.b 7 rfl
 have en:=yy (w:=.v 7) (p:=.v 8) om
 have ew:N vr=N (.v 7) - Lz.bU (N (.v 7)) (N (.v 8)):=by
  rw[bB,dH,en]
  show N (.v 7)+Lz.bU (N (.v 7)) (N (.v 8))*-1=_
  omega
 refine aq (λq _=>?_) _
 have e0:D aot q=Lz.be ((N (.v 5)+if N (.v 9)=0 then 0 else Lz.bU (N (.v 7)) (N (.v 8)))*Lz.gr (Lz.part (N (.v 7)) (N (.v 8)) (N (.v 9)))) (N (.v 6)+Lz.fy (Lz.part (N (.v 7)) (N (.v 8)) (N (.v 9)))) q:=rfl
 have e1:D aor q=Lz.be (N (.v 5)*Lz.gr (N rN)) (N (.v 6)+Lz.fy (N rN)) q:=rfl
 have e2:D aos q=Lz.be ((N (.v 5)+N rN)*Lz.gr (N vr)) (N (.v 6)+Lz.fy (N vr)) q:=rfl
 rw[en] at e1
 rw[en,ew] at e2
 rw[e0,arX,e1,e2]
 unfold Lz.part
 by_cases h:N (.v 9)=0
 .simp only[if_pos h,Int.add_zero]
 .simp only[if_neg h]))<|aN) kr
theorem ahc:aY aa (314,av PL):=cf a2i
abbrev bA:X:=.i 2
abbrev pA:X:=.o2 3 (.v 7) bA
abbrev zG:X:=nJ (zE pA)
abbrev aaj:X:=BM pA
abbrev aJt:X:=jK (.o2 2 (bQ 5 pA) (.f 22 (bj pA))) zG
abbrev aJu:X:=jK (mP 5 (.f 22 (bj pA))) zG
abbrev aoB:X:=.o3 1 (.o1 8 IW) aJt aJu
def Ll:Sp:=⟨cI [(6,1,1048570),BP,(9,0,1)],[bS,R5],2,ME,iD,3,[(0,rM 2 zG aaj),cj 2 zG aoB]⟩
abbrev MG:X:=nJ (.f 20 BO)
abbrev I0:X:=.f 18 BO
abbrev aak:X:=jK (.f 19 (cN 5 7 R6)) MG
def aim:Sp:={Ll with v:=Ll.v,l':=[(0,rM 2 MG I0),cj 2 MG aak]}
theorem a3S:ab aa 316 Ll:=aG (t:=[(334,av WJ),(335,av W6)]) (lt:=[]) (m:=8) ⟨azl,azt,trivial⟩ trivial (.tf (.o1 8 IW) .lf .lf) kr
theorem a3T {E:Env} (hF:ah Ll.fa.fx):D (ao zG)=D (ao MG):=by
 have b7:=hF.b 7 rfl
 have en:N pA=N (.v 7) / 2:=gQ om
 refine aD ?_
 have e0:N (.f 20 BO)=Lz.fy (N (.v 7) / 2):=rfl
 have e1:N (zE pA)=Lz.fy (N pA):=rfl
 rw[en] at e1
 simp only[bB,e0,e1]
theorem a3U {E:Env} (hF:ah Ll.fa.fx):D (ao aaj)=D (ao I0):=by
 have b7:=hF.b 7 rfl
 have en:N pA=N (.v 7) / 2:=gQ om
 refine aD ?_
 have e0:N I0=Lz.gD (N (.v 7)):=rfl
 have e1:N aaj=Lz.wide (N pA):=rfl
 rw[e0,e1,en,Lz.Vt b7.1 b7.2]
theorem a3V {E:Env} (hF:ah Ll.fa.fx):D (bk aoB zG)=D (bk aak zG):=by
 have b7:=hF.b 7 rfl
 have en:N pA=N (.v 7) / 2:=gQ om
 refine aq (λq _=>?_) _
 have e0:D aak q=Lz.be ((N (.v 5)+if N (.v 9)=0 then 0 else N (.v 7) / 2)*Lz.gr (N (.v 7) / 2)) (N (.v 6)+Lz.fy (N (.v 7) / 2)) q:=rfl
 have e1:D aJt q=Lz.be ((N (.v 5)+N pA)*Lz.gr (N pA)) (N (.v 6)+Lz.fy (N pA)) q:=rfl
 have e2:D aJu q=Lz.be (N (.v 5)*Lz.gr (N pA)) (N (.v 6)+Lz.fy (N pA)) q:=rfl
 rw[en] at e1 e2
 rw[e0,ar0,arX,e1,e2]
 by_cases h:N (.v 9)=0
 .simp only[if_pos h,Int.add_zero]
 .simp only[if_neg h]
theorem a3W:ab aa 316 aim:=aL a3S [((ao zG),(ao MG)),((ao aaj),(ao I0)),((bk aoB zG),(bk aak zG))] _ _ (al (λ_ h=>a3T h)<|al (λ_ h=>a3U h)<|al (λ_ h=>a3V h)<|aN) kr
theorem a01:aY aa (316,av aim):=cf a3W
end
end Go.Proofs.Y
namespace Go.Proofs.Y
open Go Go.Z
section
variable [kv]
abbrev ir(a b:Nat):X:=bz (.v a) b
abbrev aal:X:=ir 0 1
abbrev BT:Nat×V:=(3,bS)
abbrev vv(a:Nat)(b:X)(c:gj):ai:=.c (.sl a 0 ae b c)
abbrev kJ(a:Nat)(b:X)(c:gj):Bl:=⟨400,[vv a b c],false,0⟩
abbrev aJv:Nat×Bl:=(0,kJ 1 (.v 0) (.k (.v 0)))
abbrev gO:X:=.i 1024
abbrev EM(a b:X):Bl:=⟨401,[.a [.u16] a b],false,0⟩
def Dz:Lp:=⟨jv [(0,2,256),(1,0,256)] aal,[BT,(16,R2),(17,IT)],2,[aJv,(1,EM (.v 0) (iU gO 1))],.exit 0,[BT],2,[aJv,(1,EM (.v 0) gO)],aal⟩
abbrev xE(a b:Nat):X:=lA a (.v b)
theorem aWS:cr aa Tryz.f313.ntmps (aI 3 (loops (aC Tryz.f313))) Dz Dz.fa:=eX (t:=[]) (lt:=[]) (m:=8) (f:=313) (k:=3) trivial trivial (λ_=>rfl) rfl (.tf (xE 1 0) .lf .lf) ⟨trivial,trivial⟩ kr
theorem aWQ (E:Env) (hF:ah Dz.fa.fx):0<=N Dz.μ:=by
 have h:0<=N (.v 0) - N (.v 1):=hF.g mh
 exact h
theorem aWR:ct aa Tryz.f313.ntmps (aI 3 (loops (aC Tryz.f313))) Dz:=aWS.all aWQ
theorem avt:cA aa ((313,3),aW Dz):=dZ Tryz.func313 kr aWR
abbrev oE:Fa:=cI []
abbrev MH:gj:=.k cV
abbrev rP(a:X):Bl:=EM cV a
abbrev I1:Bl:=rP gO
def aiY:Sp:=⟨oE,[gw aH],0,[],bS,2,[(0,kJ 1 cV MH),(1,I1)]⟩
theorem a4K:ab aa 313 aiY:=aG (t:=[]) (lt:=[((313,3),aW Dz)]) (m:=8) trivial ⟨avt,trivial⟩ .lf kr
theorem a1e:aY aa (313,av aiY):=cf a4K
abbrev rQ:X:=.i 6
abbrev aU:X:=.i 64
abbrev R7:gj:=.k aU
abbrev vu(a:X):Bl:=EM aU a
abbrev aae:Bl:=vu gO
def aiX:Sp:=⟨oE,[gw rQ],0,[],bS,2,[(0,kJ 1 aU R7),(1,aae)]⟩
theorem a4J:ab aa 313 aiX:=aG (t:=[]) (lt:=[((313,3),aW Dz)]) (m:=8) trivial ⟨avt,trivial⟩ .lf kr
theorem a1d:aY aa (313,av aiX):=cf a4J
abbrev bM:X:=.i 4
abbrev qx:X:=.i 4294967295
abbrev aoz:ai:=nF qx
abbrev iq:ai:=.a [.u8] bM ae
abbrev EL(a:Nat)(b:List ai):Nat×Bl:=(a,⟨5,b,false,0⟩)
def azZ:Sp:=⟨oE,[],0,[],bS,2,[(0,⟨372,[vv 1 bM (.k bM),aoz],false,0⟩),EL 1 [iq]]⟩
abbrev aJm:ai:=dM 1 bM
abbrev aJn:X:=jK ae bM
def pCN:Sp:={azZ with v:=bS,l':=[(0,⟨372,[aJm,aoz],false,0⟩),cj 1 bM aJn]}
theorem a2t:ab aa 264 azZ:=aG (t:=[]) (lt:=[]) (m:=8) trivial trivial .lf kr
theorem a2u:ab aa 264 pCN:=aSS [(1,4)] (aL a2t [((bk ae bM),(bk aJn bM))] _ _ (al (λE hF=>(by
 refine aq (λq _=>?_) _
 show (0:Int)=Lz.be 0 4 q
 unfold Lz.be
 rw[Int.zero_ediv]
 split <;>rfl))<|aN) kr) kr
theorem a0V:aY aa (264,av pCN):=cf a2u
abbrev IY:Nat×Int×Int:=(12,31,2017)
abbrev aJo:Nat×Int×Int:=(11,-9223372036854775808,9223372036854775807)
abbrev aoA:V:=lB 11
abbrev R8:Nat×Bl:=(0,kJ 1 (.v 13) .a)
abbrev aaf:Bl:=EM (.v 13) (.v 12)
abbrev aag:X:=EH 11 aj
abbrev aah:X:=xE 11 13
abbrev aJp:X:=fZ 12 (.v 11)
abbrev pz(a b:X):X:=.o3 1 a ae b
abbrev xD(a b:X):X:=.o3 1 a b ae
abbrev aJq:X:=xD aag (pz (.o1 8 aah) aJp)
def ahB:Sp:=⟨cI [IY,aJo,(13,2,256)],[bS,aoA],2,[R8,(1,aaf)],gw aJq,2,[R8,(1,aaf)]⟩
abbrev aai:X:=.f 31 (cN 12 13 (bj (.v 11)))
def WK:Sp:={ahB with v:=gw aai,l':=ahB.l'}
theorem a14:ab aa 338 ahB:=aG (t:=[]) (lt:=[]) (m:=8) trivial trivial (.tf aag (.tf (.o1 8 aah) .lf .lf) .lf) kr
theorem a15:ab aa 338 WK:=aL a14 [((ao aJq),(ao aai))] _ _ (al (λE hF=>(by
 have b:=λq=>hF.vb 12 31 2017 rfl q
 refine aD ?_
 have e:N aai=Lz.az 0 2017 (if 1<=N (.v 11)/\N (.v 11) < N (.v 13) then D (.v 12) (N (.v 11)).toNat else 0):=rfl
 rw[e,yo,pX]
 by_cases h:N (.v 11) < 1
 .rw[if_pos h,if_neg om]; rfl
 .rw[if_neg h,yo,wg]
  by_cases h2:N (.v 11) < N (.v 13)
  .have:=b (N (.v 11)).toNat
   rw[if_pos h2,Gh,if_pos ⟨by omega,h2⟩]
   exact (Lz.a6 (by have:=this.1; show 0<=D (.v 12) _; exact T7 dc this) this.2).symm
  .rw[if_neg h2,if_neg om]; rfl))<|aN) kr
theorem azm:aY aa (338,av WK):=cf a15
abbrev R9:X:=nE 11
abbrev IZ(a b:Nat)(c d:X):X:=tq a b (.f 11 c) d
abbrev aJr:X:=EI aag (EI aah (IZ 12 11 (.c aJp R6) (eN 12 R9)) 12) 12
def ajY:Sp:=⟨cI [IY,aJo,(9,0,1),(13,2,256)],[bS,aoA,R5],2,[R8,(1,aaf)],iD,2,[R8,(1,EM (.v 13) aJr)]⟩
abbrev zF(a b c:Nat)(d:X):X:=cN a b (cy c d)
abbrev aox:X:=.f 32 (zF 12 13 11 R6)
def W8:Sp:={ajY with v:=ajY.v,l':=[R8,(1,EM (.v 13) aox)]}
theorem a6P:ab aa 339 ajY:=aG (t:=[(336,av PK)]) (lt:=[]) (m:=8) ⟨ahb,trivial⟩ trivial (.tf aag (.tf aah .lf .lf) .lf) kr
theorem a6Q:ab aa 339 W8:=aL a6P [((iU aJr 13),(iU aox 13))] _ _ (al (λE hF=>(by
 have b:=λq=>hF.vb 12 31 2017 rfl q
 refine aq (λq _=>?_) _
 have e:D aox q=Lz.az 31 2017 (if 1<=N (.v 11)/\N (.v 11) < N (.v 13)/\q=(N (.v 11)).toNat then Lz.adapt (D (.v 12) q) (N (.v 9)) else D (.v 12) q):=rfl
 have i:Lz.az 31 2017 (D (.v 12) q)=D (.v 12) q:=Lz.a6 (b q).1 (b q).2
 rw[e,ar0,arZ]
 by_cases h:N (.v 11) < 1
 .rw[if_pos h,if_neg om,i]
 .rw[if_neg h,arY]
  by_cases h2:N (.v 11) < N (.v 13)
  .rw[if_pos h2,su om]
   by_cases h3:q=(N (.v 11)).toNat
   .have hb:=Lz.cH (show (31:Int)<=2017 by decide) (if N (.v 9)=0 then Lz.hold (D (.v 12) q)+(2048 - Lz.hold (D (.v 12) q)) / 32 else Lz.hold (D (.v 12) q) - Lz.hold (D (.v 12) q) / 32)
    rw[if_pos ⟨by omega,h2,h3⟩]
    show (if q=(N (.v 11)).toNat then Lz.adapt (D (.v 12) (N (.v 11)).toNat) (N (.v 9)) else D (.v 12) q)=_
    rw[if_pos h3,<- h3]
    exact (Lz.a6 hb.1 hb.2).symm
   .rw[if_neg (λk=>h3 k.2.2),i]
    exact if_neg h3
  .rw[if_neg h2,if_neg (λk=>h2 k.2.1),i]))<|aN) kr
theorem azv:aY aa (339,av W8):=cf a6Q
abbrev aJh:Bl:=rP (.v 12)
abbrev aJi:List (Nat×Bl):=[(0,kJ 1 cV .a),(1,aJh)]
def ajG:Sp:=⟨cI [IY],[bS],2,aJi,gw aH,2,aJi⟩
theorem a58:ab aa 337 ajG:=aG (t:=[]) (lt:=[]) (m:=8) trivial trivial .lf kr
theorem a1p:aY aa (337,av ajG):=cf a58
abbrev aJj:Bl:=vu (.v 12)
abbrev aJk:List (Nat×Bl):=[(0,kJ 1 aU .a),(1,aJj)]
def ajF:Sp:=⟨cI [IY],[bS],2,aJk,gw rQ,2,aJk⟩
theorem a57:ab aa 337 ajF:=aG (t:=[]) (lt:=[]) (m:=8) trivial trivial .lf kr
theorem a1o:aY aa (337,av ajF):=cf a57
abbrev jg:Nat×Int×Int:=(8,0,255)
abbrev aoy:X:=nE 10
abbrev rO(a:Int)(b:X):X:=.o2 1 (.i a) b
abbrev aJl:List X:=[rO 1048560 (nJ aoy)]
abbrev MF:X:=qv 10
abbrev nK(a:VB)(b:List X)(c:X):Fa:=dT a b [(c,true)]
abbrev tt(a:Nat):V:=.c (.ptr a 0 ae)
abbrev lF:V:=tt 2
abbrev MJ:V:=lB 10
abbrev aJJ:Nat×Bl:=(2,kJ 3 (.v 13) .a)
abbrev iE(a b c d:Nat)(e:X):X:=cN a b (cN c d e)
abbrev aoH:X:=iE 12 13 8 11 MF
abbrev aar:X:=cy 7 aoH
abbrev aas:X:=nJ (.f 35 aar)
abbrev aat:X:=jK (.f 33 (cy 5 aar)) aas
def mK:Lp:=⟨nK [IY,(6,1,1048560),BP,jg,(10,-1,7),(11,1,511),(13,2,256)] aJl (.f 30 (cy 11 MF)),[tm,(1,lF),(2,BQ),(7,aoA),(8,MJ)],4,[xB,(1,EK),aJJ,(3,aaf)],.exit 0,[],5,[(0,rM 4 aas (.f 34 aar)),cj 4 aas aat,aJJ,(3,EM (.v 13) (.f 36 aoH))],aoy⟩
abbrev tu:X:=EH 10 ae
abbrev zI(a:X):X:=.o2 5 a aj
abbrev gA:X:=zI (nI 8 (.v 10))
abbrev MK:X:=qw (.v 11) bA gA
abbrev Sb:X:=bj (BS 10)
abbrev aoI:X:=.f 30 (.c MK Sb)
theorem aY9 {E:Env} (hF:(ah mK.fa.fx/\oh E tu true)):decide (N aoI≠0)=true:=by
 have hk:=jI (of_decide_eq_true (show decide (yes (Lz.yW (N (.v 11)) (N (.v 10)))≠0)=true from hF.1.t mh))
 obtain⟨hF,h1⟩:=hF
 have h1:0<=N (.v 10):=h1
 have b8:=hF.b 8 rfl
 have b7:=hF.b 7 rfl
 have b10:=hF.b 10 rfl
 have br:=λq=>hF.vb 12 31 2017 rfl q
 have eb:=CP (a:=.v 8) (i:=.v 10) om
 have hx:0<=N gA/\N gA<=1:=by rw[eb]; omega
 have:=Lz.a0y hk h1 hx
 have e:N aoI=yes (Lz.yW (N (.v 11)*2+N gA) (N (.v 10)+-1)):=rfl
 rw[e]
 rw[show 2*N (.v 11)+N gA=N (.v 11)*2+N gA by omega,show N (.v 10) - 1=N (.v 10)+-1 by omega] at this
 exact decide_eq_true (by rw[Yz this]; decide)
theorem aZa {E:Env} (hF:(ah mK.fa.fx/\oh E tu true)):0<=N (fJ MK):=by
 have hk:=jI (of_decide_eq_true (show decide (yes (Lz.yW (N (.v 11)) (N (.v 10)))≠0)=true from hF.1.t mh))
 obtain⟨hF,h1⟩:=hF
 have h1:0<=N (.v 10):=h1
 have b8:=hF.b 8 rfl
 have b7:=hF.b 7 rfl
 have b10:=hF.b 10 rfl
 have br:=λq=>hF.vb 12 31 2017 rfl q
 have eb:=CP (a:=.v 8) (i:=.v 10) om
 have hx:0<=N gA/\N gA<=1:=by rw[eb]; omega
 have:=Lz.ay5 hk
 show 0<=N (.v 11)*2+N gA - 1
 omega
theorem aZc {E:Env} (hF:(ah mK.fa.fx/\oh E tu true)):0<=N (rO 511 MK):=by
 have hk:=jI (of_decide_eq_true (show decide (yes (Lz.yW (N (.v 11)) (N (.v 10)))≠0)=true from hF.1.t mh))
 obtain⟨hF,h1⟩:=hF
 have h1:0<=N (.v 10):=h1
 have b8:=hF.b 8 rfl
 have b7:=hF.b 7 rfl
 have b10:=hF.b 10 rfl
 have br:=λq=>hF.vb 12 31 2017 rfl q
 have eb:=CP (a:=.v 8) (i:=.v 10) om
 have hx:0<=N gA/\N gA<=1:=by rw[eb]; omega
 have:=Lz.ay5 hk
 show 0<=511 - (N (.v 11)*2+N gA)
 omega
abbrev rR(a:Nat)(b c:X):X:=bL a b (bj c)
abbrev aoJ:X:=rR 7 aai gA
abbrev eZ(a:Nat)(b:X):X:=bL a b .n
abbrev kK(a:X)(b:Nat)(c:X):X:=dG a (.v b) c
abbrev aJK:X:=kK (.f 32 (cN 12 13 (eZ 11 gA))) 13 (bL 8 MK Sb)
abbrev aoK:X:=.c (.f 14 aoJ) aJK
abbrev I4(a b:X):X:=.o2 0 a (.f 35 b)
abbrev ML:X:=I4 (nJ (.f 17 aoJ)) aoK
abbrev aau:X:=ao aas
theorem aZd {E:Env} (hF:(ah mK.fa.fx/\oh E tu true)):D (ao ML)=D aau:=by
 obtain⟨hF,h1⟩:=hF
 have h1:0<=N (.v 10):=h1
 have b8:=hF.b 8 rfl
 have b7:=hF.b 7 rfl
 have b10:=hF.b 10 rfl
 have br:=λq=>hF.vb 12 31 2017 rfl q
 have eb:=CP (a:=.v 8) (i:=.v 10) om
 refine aD ?_
 show N (.v 6)+Lz.bq (N (.v 7)) (Lz.atR (D (.v 12)) (N (.v 13)) (N (.v 11))) (N gA)+Lz.az 0 8 (Lz.aZ (N (.v 13)) (N (.v 8)) (N (.v 10)+-1+1).toNat ⟨0,Lz.aM (N (.v 7)) (Lz.atR (D (.v 12)) (N (.v 13)) (N (.v 11))) (N gA),0,Lz.dq (D (.v 12)) (N (.v 13)) (N (.v 11)) (N gA),N (.v 11)*2+N gA⟩).k=N (.v 6)+Lz.az 0 8 (Lz.aZ (N (.v 13)) (N (.v 8)) (N (.v 10)+1).toNat ⟨0,N (.v 7),0,D (.v 12),N (.v 11)⟩).k
 rw[eb]
 have:=Lz.aE2 (r:=D (.v 12)) (n:=N (.v 13)) (v:=N (.v 8)) (a:=N (.v 11)) h1 b10.2 b7.1 b7.2 br
 omega
abbrev aJL:X:=ao (.f 34 aoK)
abbrev aan:X:=ao (.f 34 aar)
theorem aZe {E:Env} (hF:(ah mK.fa.fx/\oh E tu true)):D aJL=D aan:=by
 obtain⟨hF,h1⟩:=hF
 have h1:0<=N (.v 10):=h1
 have b8:=hF.b 8 rfl
 have b7:=hF.b 7 rfl
 have b10:=hF.b 10 rfl
 have br:=λq=>hF.vb 12 31 2017 rfl q
 have eb:=CP (a:=.v 8) (i:=.v 10) om
 refine aD ?_
 show Lz.az 16777216 4294967295 (Lz.aZ (N (.v 13)) (N (.v 8)) (N (.v 10)+-1+1).toNat ⟨0,Lz.aM (N (.v 7)) (Lz.atR (D (.v 12)) (N (.v 13)) (N (.v 11))) (N gA),0,Lz.dq (D (.v 12)) (N (.v 13)) (N (.v 11)) (N gA),N (.v 11)*2+N gA⟩).w=Lz.az 16777216 4294967295 (Lz.aZ (N (.v 13)) (N (.v 8)) (N (.v 10)+1).toNat ⟨0,N (.v 7),0,D (.v 12),N (.v 11)⟩).w
 rw[eb]
 exact Lz.a96 h1
abbrev I2(a b:X):X:=.f 33 (.c a b)
abbrev I3(a b c:X):X:=bk (jK a b) c
abbrev aJA:X:=I3 (I2 (.f 15 (cy 5 aoJ)) aoK) ML ML
theorem aZf {E:Env} (hF:(ah mK.fa.fx/\oh E tu true)):D aJA=D (bk aat ML):=by
 obtain⟨hF,h1⟩:=hF
 have h1:0<=N (.v 10):=h1
 have b8:=hF.b 8 rfl
 have b7:=hF.b 7 rfl
 have b10:=hF.b 10 rfl
 have br:=λq=>hF.vb 12 31 2017 rfl q
 have eb:=CP (a:=.v 8) (i:=.v 10) om
 refine aq (λq _=>?_) _
 show Lz.be (Lz.aZ (N (.v 13)) (N (.v 8)) (N (.v 10)+-1+1).toNat ⟨Lz.jB (N (.v 5)) (N (.v 7)) (Lz.atR (D (.v 12)) (N (.v 13)) (N (.v 11))) (N gA),Lz.aM (N (.v 7)) (Lz.atR (D (.v 12)) (N (.v 13)) (N (.v 11))) (N gA),0,Lz.dq (D (.v 12)) (N (.v 13)) (N (.v 11)) (N gA),N (.v 11)*2+N gA⟩).L (N (.v 6)+Lz.bq (N (.v 7)) (Lz.atR (D (.v 12)) (N (.v 13)) (N (.v 11))) (N gA)+Lz.az 0 8 (Lz.aZ (N (.v 13)) (N (.v 8)) (N (.v 10)+-1+1).toNat ⟨0,Lz.aM (N (.v 7)) (Lz.atR (D (.v 12)) (N (.v 13)) (N (.v 11))) (N gA),0,Lz.dq (D (.v 12)) (N (.v 13)) (N (.v 11)) (N gA),N (.v 11)*2+N gA⟩).k) q=Lz.be (Lz.aZ (N (.v 13)) (N (.v 8)) (N (.v 10)+1).toNat ⟨N (.v 5),N (.v 7),0,D (.v 12),N (.v 11)⟩).L (N (.v 6)+Lz.az 0 8 (Lz.aZ (N (.v 13)) (N (.v 8)) (N (.v 10)+1).toNat ⟨0,N (.v 7),0,D (.v 12),N (.v 11)⟩).k) q
 rw[eb]
 have:=Lz.aE2 (r:=D (.v 12)) (n:=N (.v 13)) (v:=N (.v 8)) (a:=N (.v 11)) h1 b10.2 b7.1 b7.2 br
 exact Oj (Lz.a94 h1 _) om q
abbrev aJB:X:=iU (.f 36 aJK) 13
abbrev aao:X:=iU (.f 36 aoH) 13
theorem aZg {E:Env} (hF:(ah mK.fa.fx/\oh E tu true)):D aJB=D aao:=by
 obtain⟨hF,h1⟩:=hF
 have h1:0<=N (.v 10):=h1
 have b8:=hF.b 8 rfl
 have b7:=hF.b 7 rfl
 have b10:=hF.b 10 rfl
 have br:=λq=>hF.vb 12 31 2017 rfl q
 have eb:=CP (a:=.v 8) (i:=.v 10) om
 refine aq (λq _=>congrFun ?_ q) _
 show (λq=>Lz.az 31 2017 ((Lz.aZ (N (.v 13)) (N (.v 8)) (N (.v 10)+-1+1).toNat ⟨0,0,0,Lz.dq (D (.v 12)) (N (.v 13)) (N (.v 11)) (N gA),N (.v 11)*2+N gA⟩).r q))=λq=>Lz.az 31 2017 ((Lz.aZ (N (.v 13)) (N (.v 8)) (N (.v 10)+1).toNat ⟨0,0,0,D (.v 12),N (.v 11)⟩).r q)
 rw[eb]
 exact Lz.a95 h1
abbrev fP(a:Nat):X:=ao (.v a)
abbrev zH:X:=fP 6
theorem aZh {E:Env} (hF:(ah mK.fa.fx/\oh E tu false)):D zH=D aau:=by
 refine aD ?_
 show N (.v 6)=N (.v 6)+Lz.az 0 8 (Lz.aZ (N (.v 13)) (N (.v 8)) (N (.v 10)+1).toNat ⟨0,N (.v 7),0,D (.v 12),N (.v 11)⟩).k
 rw[Lz.QU (show N (.v 10) < 0 from hF.2)]
 show N (.v 6)=N (.v 6)+0
 omega
abbrev aap:X:=fP 7
theorem aZi {E:Env} (hF:(ah mK.fa.fx/\oh E tu false)):D aap=D aan:=by
 have b7:=hF.1.b 7 rfl
 refine aD ?_
 show N (.v 7)=Lz.az 16777216 4294967295 (Lz.aZ (N (.v 13)) (N (.v 8)) (N (.v 10)+1).toNat ⟨0,N (.v 7),0,D (.v 12),N (.v 11)⟩).w
 rw[Lz.QU (show N (.v 10) < 0 from hF.2)]
 exact (Lz.a6 b7.1 b7.2).symm
abbrev aaq:X:=iU MD 6
abbrev aJC:X:=iU aat 6
theorem aZj {E:Env} (hF:(ah mK.fa.fx/\oh E tu false)):D aaq=D aJC:=by
 refine aq (λq _=>?_) _
 show Lz.be (N (.v 5)) (N (.v 6)) q=Lz.be (Lz.aZ (N (.v 13)) (N (.v 8)) (N (.v 10)+1).toNat ⟨N (.v 5),N (.v 7),0,D (.v 12),N (.v 11)⟩).L (N (.v 6)+Lz.az 0 8 (Lz.aZ (N (.v 13)) (N (.v 8)) (N (.v 10)+1).toNat ⟨0,N (.v 7),0,D (.v 12),N (.v 11)⟩).k) q
 rw[Lz.QU (show N (.v 10) < 0 from hF.2),Lz.QU (show N (.v 10) < 0 from hF.2)]
 show Lz.be (N (.v 5)) (N (.v 6)) q=Lz.be (N (.v 5)) (N (.v 6)+0) q
 rw[Int.add_zero]
abbrev aJD:X:=iU (.v 12) 13
theorem aZb {E:Env} (hF:(ah mK.fa.fx/\oh E tu false)):D aJD=D aao:=by
 have br:=λq=>hF.1.vb 12 31 2017 rfl q
 refine aq (λq _=>?_) _
 show D (.v 12) q=Lz.az 31 2017 ((Lz.aZ (N (.v 13)) (N (.v 8)) (N (.v 10)+1).toNat ⟨0,0,0,D (.v 12),N (.v 11)⟩).r q)
 rw[Lz.QU (show N (.v 10) < 0 from hF.2)]
 exact (Lz.a6 (br q).1 (br q).2).symm
theorem aZm:cr aa Tryz.f315.ntmps (aI 4 (loops (aC Tryz.f315))) mK mK.fa:=eX (t:=[(314,av PL),(338,av WK),(339,av W8)]) (lt:=[]) (m:=8) (f:=315) (k:=4) ⟨ahc,azm,azv,trivial⟩ trivial (λ_=>rfl) rfl (.tf tu (.is aoI true (.ge (fJ MK) (.ge (rO 511 MK) (.same (ao ML) aau (.same aJL aan (.same aJA (bk aat ML) (.same aJB aao .lf))))))) (.same zH aau (.same aap aan (.same aaq aJC (.same aJD aao .lf))))) ⟨⟨λ_ h=>aY9 h,⟨λ_ h=>aZa h,⟨λ_ h=>aZc h,⟨λ_ h=>aZd h,⟨λ_ h=>aZe h,⟨λ_ h=>aZf h,⟨λ_ h=>aZg h,trivial⟩⟩⟩⟩⟩⟩⟩,⟨λ_ h=>aZh h,⟨λ_ h=>aZi h,⟨λ_ h=>aZj h,⟨λ_ h=>aZb h,trivial⟩⟩⟩⟩⟩ kr
theorem aZk (E:Env) (hF:ah mK.fa.fx):0<=N mK.μ:=by
 have:=(hF.b 10 rfl).1
 show 0<=N (.v 10)+1
 omega
theorem aZl:ct aa Tryz.f315.ntmps (aI 4 (loops (aC Tryz.f315))) mK:=aZm.all aZk
theorem avu:cA aa ((315,4),aW mK):=dZ Tryz.func315 kr aZl
abbrev aJE:List X:=[bz (.i 1048540) 6]
abbrev dU:Nat×Bl:=(2,kJ 3 cV .a)
abbrev jh:X:=.i 7
abbrev MI:X:=di aj jh
abbrev xF(a:Nat)(b:X)(c:Nat)(d:X):X:=bL a b (cy c d)
abbrev aJF:X:=xF 12 cV 8 MI
abbrev aoE:X:=cy 7 aJF
abbrev aoF:X:=nJ (.f 35 aoE)
abbrev aJG:Nat×Bl:=(0,rM 4 aoF (.f 34 aoE))
abbrev aJH:Nat×Bl:=(3,rP (.f 36 aJF))
abbrev aJI:Nat×Bl:=cj 4 aoF (jK (.f 33 (cy 5 aoE)) aoF)
def ajX:Sp:=⟨fj [IY,(6,1,1048560),BP,jg] aJE,[bS,lF,BQ],4,[xB,(1,EK),dU,(3,aJh)],iD,5,[aJG,dU,aJH,aJI]⟩
def W7:Sp:={ajX with v:=ajX.v,l':=[aJG,aJI,dU,aJH]}
theorem a6N:ab aa 315 ajX:=dj (t:=[(337,av ajG)]) (lt:=[((315,4),aW mK)]) (m:=8) ⟨a1p,trivial⟩ ⟨avu,trivial⟩ (.is (.f 30 MI) true .lf) ⟨λE hF=>dS (show Lz.yW 1 7 from ⟨by decide,by decide,by decide,by decide⟩),df rfl⟩ kr
theorem a6O:ab aa 315 W7:=aL a6N [] _ _ (λ_ _ _ hq=>(gn hq).elim) kr
theorem azu:aY aa (315,av W7):=cf a6O
abbrev aoG:Nat×Bl:=(2,kJ 3 aU .a)
abbrev g7:X:=.i 5
abbrev EN:X:=bj g7
abbrev aam:X:=.c aj EN
abbrev aJw:X:=xF 12 aU 8 aam
abbrev aoC:X:=cy 7 aJw
abbrev aoD:X:=nJ (.f 35 aoC)
abbrev aJx:Nat×Bl:=(0,rM 4 aoD (.f 34 aoC))
abbrev aJy:Nat×Bl:=(3,vu (.f 36 aJw))
abbrev aJz:Nat×Bl:=cj 4 aoD (jK (.f 33 (cy 5 aoC)) aoD)
def ajW:Sp:=⟨fj [IY,(6,1,1048560),BP,(8,0,63)] aJE,[bS,lF,BQ],4,[xB,(1,EK),aoG,(3,aJj)],iD,5,[aJx,aoG,aJy,aJz]⟩
def ajV:Sp:={ajW with v:=ajW.v,l':=[aJx,aJz,aoG,aJy]}
theorem a6L:ab aa 315 ajW:=dj (t:=[(337,av ajF)]) (lt:=[((315,4),aW mK)]) (m:=8) ⟨a1o,trivial⟩ ⟨avu,trivial⟩ (.is (.f 30 aam) true .lf) ⟨λE hF=>dS (show Lz.yW 1 5 from ⟨by decide,by decide,by decide,by decide⟩),df rfl⟩ kr
theorem a6M:ab aa 315 ajV:=aL a6L [] _ _ (λ_ _ _ hq=>(gn hq).elim) kr
theorem a1C:aY aa (315,av ajV):=cf a6M
end
end Go.Proofs.Y
namespace Go.Proofs.Y
open Go Go.Z
section
variable [kv]
abbrev Sa:C:=.int .u64 ae
abbrev eY:ai:=.c Sa
abbrev aF(a:X):ai:=.c (.int .i64 a)
abbrev kM:ai:=aF bM
abbrev MM(a b c:ai):Bl:=⟨387,[a,b,c],false,0⟩
abbrev aJV:Bl:=MM eY aoz kM
def ah3:Sp:=⟨oE,[],0,[],bS,1,[(0,aJV)]⟩
theorem a2V:ab aa 289 ah3:=aG (t:=[]) (lt:=[]) (m:=8) trivial trivial .lf kr
theorem a0X:aY aa (289,av ah3):=cf a2V
abbrev dQ:ai:=nF (.v 1)
abbrev ed:ai:=nF (.v 2)
abbrev aoP:C:=.int .i64 ae
abbrev ag:ai:=.c aoP
abbrev oG:Nat×Bl:=(0,MM dQ ed ag)
abbrev aax:X:=lA 2 tp
abbrev aJW:X:=EI aax (mP 2 cV) 2
abbrev pB(a:Fa)(b:List V)(c:Nat×Bl)(d:V)(e:List (Nat×Bl)):Sp:=⟨a,b,1,[c],d,1,e⟩
def ah4:Sp:=pB (cI [(2,0,4294967295)]) [bS] oG iD [(0,MM dQ (nF aJW) (aF (xD aax aj)))]
abbrev oH:X:=qv 2
def WT:Sp:={ah4 with v:=ah4.v,l':=[(0,MM dQ (nF (.f 16 oH)) (aF (.f 21 oH)))]}
theorem a2W:ab aa 354 ah4:=aG (t:=[]) (lt:=[]) (m:=8) trivial trivial (.tf aax .lf .lf) kr
theorem a2X:ab aa 354 WT:=aL a2W [((ao aJW),(ao (.f 16 oH))),((ao (xD aax aj)),(ao (.f 21 oH)))] _ _ (al (λE hF=>(by
 refine aD ?_
 have e:N (.f 16 oH)=Lz.wide (N (.v 2)):=rfl
 simp only[bl,bB,iY,dH,yo,pX,CS,ui,yq,e]
 unfold Lz.wide
 by_cases h:N (.v 2) < 16777216
 .simp only[if_pos h]
 .simp only[if_neg h]))<|al (λE hF=>(by
 refine aD ?_
 have e:N (.f 21 oH)=Lz.fy (N (.v 2)):=rfl
 simp only[bl,bB,iY,dH,yo,pX,CS,ui,yq,e]
 unfold Lz.fy
 by_cases h:N (.v 2) < 16777216
 .simp only[if_pos h]
 .simp only[if_neg h]))<|aN) kr
theorem azq:aY aa (354,av WT):=cf a2X
abbrev BW:Nat×Int×Int:=(2,16777216,4294967295)
abbrev tw:X:=fJ (ir 2 1)
abbrev EP:V:=lB 3
abbrev I7:X:=qv 3
abbrev qy:X:=.o2 2 (nI 2 (.i 11)) (.f 10 I7)
abbrev I8:X:=lA 1 qy
abbrev nM(a:X):P1:=.c (.int .i64 a)
abbrev qz:X:=bj ae
abbrev xH:X:=bj aj
abbrev aoQ:X:=.o3 1 I8 (.f 11 (.c (.f 10 I7) qz)) (.f 11 (.c (.f 10 I7) xH))
abbrev tz(a b:P1):V:=.dK [a,b]
abbrev aoR:X:=.o3 1 I8 (.v 1) (bQ 1 (IP qy))
abbrev BX:X:=bQ 2 (IP qy)
abbrev aoS:X:=.o3 1 I8 (BM qy) (BM BX)
abbrev aoL:X:=.o3 1 I8 (zE qy) (zE BX)
abbrev zO(a b c:X):Bl:=MM (nF a) (nF b) (aF c)
def DN:Sp:=pB (jv [vt,BW,(3,-9223372036854775808,9223372036854775807)] tw) [bS,EP] oG (tz (nM (pz I8 aj)) (nM aoQ)) [(0,zO aoR aoS aoL)]
abbrev I6:X:=cN 1 2 I7
abbrev aav:X:=eZ 3 (.f 90 I6)
abbrev aoM:X:=.f 14 (cy 2 aav)
abbrev aoN:X:=.f 17 (cy 2 aav)
def WR:Sp:={DN with v:=tz (nM (.f 90 I6)) (nM (.f 11 aav)),l':=[(0,zO (.f 91 I6) aoM aoN)]}
abbrev aJM:X:=.o2 1 (cJ 2 qy) (.i 253952)
theorem a2H {E:Env} (hF:ah DN.fa.fx):0<=N aJM:=by
 have b:=hF.b 2 rfl
 have b1:=hF.b 1 rfl
 have h:=Lz.wu (p:=N (.v 3)) b.1 b.2
 have e:=yy (w:=.v 2) (p:=.v 3) om
 have hl:0<=N (.v 2) - N (.v 1) - 1:=hF.g mh
 show 0<=N (.v 2) - N qy - 253952
 rw[e]
 omega
theorem a2I:ab aa 349 DN:=dj (t:=[(333,av PU),(336,av PK),(354,av WT)]) (lt:=[]) (m:=8) ⟨ahe,ahb,azq,trivial⟩ trivial (.ge aJM (.tf I8 .lf .lf)) ⟨λ_ h=>a2H h,df rfl⟩ kr
abbrev aJN:X:=ao (pz I8 aj)
abbrev aJO:X:=ao (.f 90 I6)
theorem a2J {E:Env} (hF:ah DN.fa.fx):D aJN=D aJO:=by
 have b:=hF.b 2 rfl
 have b1:=hF.b 1 rfl
 have h:=Lz.wu (p:=N (.v 3)) b.1 b.2
 have e:=yy (w:=.v 2) (p:=.v 3) om
 have hl:0<=N (.v 2) - N (.v 1) - 1:=hF.g mh
 have ew:N BX=N (.v 2) - (Lz.bU (N (.v 2)) (N (.v 3))):=by
  show N (.v 2)+N qy*-1=_
  rw[e]; omega
 refine aD ?_
 rw[wg,e]
 show (if N (.v 1) < (Lz.bU (N (.v 2)) (N (.v 3))) then (0:Int) else 1)=(Lz.dO (N (.v 1)) (N (.v 2)) (N (.v 3)))
 unfold Lz.dO
 rfl
abbrev aJP:X:=ao (.f 11 aav)
theorem a2K {E:Env} (hF:ah DN.fa.fx):D (ao aoQ)=D aJP:=by
 have b:=hF.b 2 rfl
 have b1:=hF.b 1 rfl
 have h:=Lz.wu (p:=N (.v 3)) b.1 b.2
 have e:=yy (w:=.v 2) (p:=.v 3) om
 have hl:0<=N (.v 2) - N (.v 1) - 1:=hF.g mh
 have ew:N BX=N (.v 2) - (Lz.bU (N (.v 2)) (N (.v 3))):=by
  show N (.v 2)+N qy*-1=_
  rw[e]; omega
 refine aD ?_
 rw[wg,e]
 show (if N (.v 1) < (Lz.bU (N (.v 2)) (N (.v 3))) then Lz.adapt (Lz.hold (N (.v 3))) 0 else Lz.adapt (Lz.hold (N (.v 3))) 1)=Lz.adapt (N (.v 3)) (Lz.dO (N (.v 1)) (N (.v 2)) (N (.v 3)))
 rw[Lz.asC,Lz.asC]
 unfold Lz.dO
 by_cases h2:N (.v 1) < (Lz.bU (N (.v 2)) (N (.v 3)))
 .simp only[if_pos h2]
 .simp only[if_neg h2]
abbrev aJQ:X:=ao (.f 91 I6)
theorem a2L {E:Env} (hF:ah DN.fa.fx):D (ao aoR)=D aJQ:=by
 have b:=hF.b 2 rfl
 have b1:=hF.b 1 rfl
 have h:=Lz.wu (p:=N (.v 3)) b.1 b.2
 have e:=yy (w:=.v 2) (p:=.v 3) om
 have hl:0<=N (.v 2) - N (.v 1) - 1:=hF.g mh
 have ew:N BX=N (.v 2) - (Lz.bU (N (.v 2)) (N (.v 3))):=by
  show N (.v 2)+N qy*-1=_
  rw[e]; omega
 refine aD ?_
 rw[wg,e]
 show (if N (.v 1) < (Lz.bU (N (.v 2)) (N (.v 3))) then N (.v 1) else N (.v 1)+N qy*-1)=Lz.kz (N (.v 1)) (N (.v 2)) (N (.v 3))
 rw[e]
 unfold Lz.kz
 by_cases h2:N (.v 1) < (Lz.bU (N (.v 2)) (N (.v 3)))
 .simp only[if_pos h2]
  exact (Lz.a6 om om).symm
 .simp only[if_neg h2]
  rw[Lz.a6 om om]
  omega
theorem a2M {E:Env} (hF:ah DN.fa.fx):D (ao aoS)=D (ao aoM):=by
 have b:=hF.b 2 rfl
 have b1:=hF.b 1 rfl
 have h:=Lz.wu (p:=N (.v 3)) b.1 b.2
 have e:=yy (w:=.v 2) (p:=.v 3) om
 have hl:0<=N (.v 2) - N (.v 1) - 1:=hF.g mh
 have ew:N BX=N (.v 2) - (Lz.bU (N (.v 2)) (N (.v 3))):=by
  show N (.v 2)+N qy*-1=_
  rw[e]; omega
 refine aD ?_
 rw[wg,e]
 show (if N (.v 1) < (Lz.bU (N (.v 2)) (N (.v 3))) then Lz.wide (N qy) else Lz.wide (N BX))=Lz.aM (N (.v 2)) (N (.v 3)) (Lz.dO (N (.v 1)) (N (.v 2)) (N (.v 3)))
 rw[e,ew,Lz.UE _ b.1 b.2,Lz.Xd]
 by_cases h2:N (.v 1) < (Lz.bU (N (.v 2)) (N (.v 3)))
 .simp only[if_pos h2]
 .simp only[if_neg h2]
theorem a2N {E:Env} (hF:ah DN.fa.fx):D (ao aoL)=D (ao aoN):=by
 have b:=hF.b 2 rfl
 have b1:=hF.b 1 rfl
 have h:=Lz.wu (p:=N (.v 3)) b.1 b.2
 have e:=yy (w:=.v 2) (p:=.v 3) om
 have hl:0<=N (.v 2) - N (.v 1) - 1:=hF.g mh
 have ew:N BX=N (.v 2) - (Lz.bU (N (.v 2)) (N (.v 3))):=by
  show N (.v 2)+N qy*-1=_
  rw[e]; omega
 refine aD ?_
 rw[wg,e]
 show (if N (.v 1) < (Lz.bU (N (.v 2)) (N (.v 3))) then Lz.fy (N qy) else Lz.fy (N BX))=Lz.fy (Lz.part (N (.v 2)) (N (.v 3)) (Lz.dO (N (.v 1)) (N (.v 2)) (N (.v 3))))
 rw[e,ew,Lz.Xd]
 by_cases h2:N (.v 1) < (Lz.bU (N (.v 2)) (N (.v 3)))
 .simp only[if_pos h2]
 .simp only[if_neg h2]
theorem a2O:ab aa 349 WR:=aL a2I [(aJN,aJO),((ao aoQ),aJP),((ao aoR),aJQ),((ao aoS),(ao aoM)),((ao aoL),(ao aoN))] _ _ (al (λ_ h=>a2J h)<|al (λ_ h=>a2K h)<|al (λ_ h=>a2L h)<|al (λ_ h=>a2M h)<|al (λ_ h=>a2N h)<|aN) kr
theorem azo:aY aa (349,av WR):=cf a2O
abbrev tv:X:=.o2 3 (.v 2) bA
abbrev aaw:X:=lA 1 tv
abbrev aoO:X:=.o3 1 aaw (.v 1) (bQ 1 (IP tv))
def Lj:Sp:=pB (jv [vt,BW] tw) [bS] oG (gw (pz aaw aj)) [(0,zO aoO (BM tv) (zE tv))]
abbrev Sc:X:=cy 1 oH
abbrev oF:X:=.f 92 Sc
abbrev nL:X:=.f 93 Sc
abbrev rT:X:=.f 18 oH
abbrev mQ:X:=.f 20 oH
abbrev Sd:Nat×Bl:=(0,zO nL rT mQ)
def WS:Sp:={Lj with v:=gw oF,l':=[Sd]}
theorem a2P:ab aa 350 Lj:=aG (t:=[(354,av WT)]) (lt:=[]) (m:=8) ⟨azq,trivial⟩ trivial (.tf aaw .lf .lf) kr
abbrev aJR:X:=ao (pz aaw aj)
theorem a2Q {E:Env} (hF:ah Lj.fa.fx):D aJR=D (ao oF):=by
 have b:=hF.b 2 rfl
 have b1:=hF.b 1 rfl
 have e:N tv=N (.v 2) / 2:=gQ om
 have hl:0<=N (.v 2) - N (.v 1) - 1:=hF.g mh
 refine aD ?_
 rw[wg,e]
 show (if N (.v 1) < N (.v 2) / 2 then (0:Int) else 1)=Lz.o7 (N (.v 1)) (N (.v 2))
 unfold Lz.o7
 rfl
theorem a2R {E:Env} (hF:ah Lj.fa.fx):D (ao aoO)=D (ao nL):=by
 have b:=hF.b 2 rfl
 have b1:=hF.b 1 rfl
 have e:N tv=N (.v 2) / 2:=gQ om
 have hl:0<=N (.v 2) - N (.v 1) - 1:=hF.g mh
 refine aD ?_
 rw[wg,e]
 show (if N (.v 1) < N (.v 2) / 2 then N (.v 1) else N (.v 1)+N tv*-1)=Lz.o6 (N (.v 1)) (N (.v 2))
 rw[e]
 unfold Lz.o6
 by_cases h2:N (.v 1) < N (.v 2) / 2
 .simp only[if_pos h2]
  exact (Lz.a6 om om).symm
 .simp only[if_neg h2]
  rw[Lz.a6 om om]
  omega
abbrev aJS:X:=ao (BM tv)
theorem a2S {E:Env} (hF:ah Lj.fa.fx):D aJS=D (ao rT):=by
 have b:=hF.b 2 rfl
 have b1:=hF.b 1 rfl
 have e:N tv=N (.v 2) / 2:=gQ om
 have hl:0<=N (.v 2) - N (.v 1) - 1:=hF.g mh
 refine aD ?_
 show Lz.wide (N tv)=Lz.gD (N (.v 2))
 rw[e,Lz.Vt b.1 b.2]
abbrev aJT:X:=ao (zE tv)
theorem a2T {E:Env} (hF:ah Lj.fa.fx):D aJT=D (ao mQ):=by
 have b:=hF.b 2 rfl
 have b1:=hF.b 1 rfl
 have e:N tv=N (.v 2) / 2:=gQ om
 have hl:0<=N (.v 2) - N (.v 1) - 1:=hF.g mh
 refine aD ?_
 show Lz.fy (N tv)=Lz.fy (N (.v 2) / 2)
 rw[e]
theorem a2U:ab aa 350 WS:=aL a2P [(aJR,(ao oF)),((ao aoO),(ao nL)),(aJS,(ao rT)),(aJT,(ao mQ))] _ _ (al (λ_ h=>a2Q h)<|al (λ_ h=>a2R h)<|al (λ_ h=>a2S h)<|al (λ_ h=>a2T h)<|aN) kr
theorem azp:aY aa (350,av WS):=cf a2U
end
end Go.Proofs.Y
namespace Go.Proofs.Y
open Go Go.Z
section
variable [kv]
abbrev xG:X:=fZ 20 (.v 21)
abbrev kL(a:X):X:=cN 1 2 (bj a)
abbrev aJU:X:=kL xG
abbrev BU:X:=.f 90 aJU
def aiH:X:=BU
abbrev rS(a:X):X:=.o2 12 a aj
def aBj:X:=rS aiH
abbrev zJ:Nat×Int×Int:=(20,31,2017)
abbrev zK:Nat×Int×Int:=(21,0,1)
abbrev zL:Nat×Int×Int:=(22,31,2017)
abbrev zM:Nat×Int×Int:=(23,31,2017)
abbrev zN:Nat×Int×Int:=(24,31,2017)
abbrev I5:Nat×Int×Int:=(25,0,257)
abbrev EO:Nat×Int×Int:=(26,0,4096)
abbrev BV:Nat×Int×Int:=(27,0,255)
abbrev aaz:C:=.ptr 1 0 ae
abbrev ji:V:=.c aaz
abbrev BY:List V:=[ji,bS]
abbrev zQ(a:X):ai:=.a [.i64] bA a
abbrev kN:ai:=zQ (.v 20)
abbrev fQ(a:Nat):ai:=aF (.v a)
abbrev kO:ai:=fQ 21
abbrev lG(a:Nat):ai:=.c (.ptr a 0 ae)
abbrev fu:ai:=lG 2
abbrev bg:ai:=lG 4
abbrev iV:ai:=lG 6
abbrev aE:ai:=aF aj
abbrev nO:ai:=fQ 25
abbrev rU:ai:=fQ 26
abbrev rW(a:X):ai:=.c (.int .u8 a)
abbrev j9:ai:=rW (.v 27)
abbrev jj(a:List ai):Nat×Bl:=(1,⟨389,a,false,0⟩)
abbrev aJ4:Nat×Bl:=jj [kN,kO,fu,bg,iV,ag,aE,nO,rU,j9]
abbrev aaA:Bl:=rP (.v 22)
abbrev ga:Nat×Bl:=(3,aaA)
abbrev eF:Nat×Bl:=(4,kJ 5 cV .a)
abbrev aaB:Bl:=rP (.v 23)
abbrev gb:Nat×Bl:=(5,aaB)
abbrev eG:Nat×Bl:=(6,kJ 7 aU .a)
abbrev aaC:Bl:=vu (.v 24)
abbrev gg:Nat×Bl:=(7,aaC)
abbrev MO:ai:=rW ae
abbrev aay:P1:=.c (.bool false)
abbrev vz(a:List ai)(b:P1):V:=tz (.agg a) b
abbrev I9:V:=vz [ag,ag,MO] aay
abbrev Se:X:=.f 91 aJU
abbrev aoU:X:=di xG aiH
abbrev ET:X:=eN 20 (nE 21)
def pN0:Sp:=⟨jv [vt,BW,zJ,zK,zL,zM,zN,I5,EO,BV] tw,BY,8,[oG,aJ4,dU,ga,eF,gb,eG,gg],I9,8,[(0,zO Se (.f 14 (cy 2 aoU)) (.f 17 (cy 2 aoU))),jj [zQ (IZ 20 21 aoU ET),aF aiH,fu,bg,iV,aF (.o3 1 aBj bA aj),aE,ag,ag,MO],dU,ga,eF,gb,eG,gg]⟩
theorem a4x:ab aa 330 pN0:=aG (t:=[(349,av WR)]) (lt:=[]) (m:=12) ⟨azo,trivial⟩ trivial (.tf aBj .lf .lf) kr
theorem a04:aY aa (330,av pN0):=cf a4x
abbrev aJZ:X:=di cV (.v 28)
abbrev EU:X:=.f 31 (cy 22 aJZ)
def aBk:X:=EU
abbrev aJ0:X:=kL aBk
def aiJ:X:=.f 90 aJ0
abbrev Sf:VB:=[vt,BW,zJ,zK,zL,zM,zN,I5,EO,BV,(28,1,255)]
abbrev Ja:X:=IQ 28
abbrev aoV:X:=bz (.i 127) 28
abbrev aJ1:Fa:=fj Sf [tw,Ja,aoV]
abbrev Sg:ai:=fQ 28
abbrev aoW:Nat×Bl:=jj [kN,kO,fu,bg,iV,aE,Sg,ag,ag,j9]
abbrev j8(a b:X):X:=rR 2 a b
abbrev aJ2:X:=j8 aBk aiJ
abbrev vA(a b c:X):Bl:=zO (.f 91 a) (.f 14 b) (.f 17 c)
abbrev aoX:X:=mP 28 bA
abbrev xI(a:X):X:=.o2 0 aoX a
abbrev MP(a:X):ai:=aF (xI a)
abbrev EV(a:Nat)(b:X):Bl:=rP (.f 32 (bL a cV (eZ 28 b)))
def aiI:Sp:=⟨aJ1,BY,8,[oG,aoW,dU,ga,eF,gb,eG,gg],I9,8,[(0,vA aJ0 aJ2 aJ2),jj [kN,kO,fu,bg,iV,aE,MP aiJ,ag,ag,j9],dU,(3,EV 22 aiJ),eF,gb,eG,gg]⟩
def H4:OT:=[(349,av WR),(338,av WK),(339,av W8)]
theorem Ka:dB (aY aa) H4:=⟨azo,azm,azv,trivial⟩
theorem a4y:ab aa 330 aiI:=aG (t:=H4) (lt:=[]) (m:=12) Ka trivial .lf kr
theorem a05:aY aa (330,av aiI):=cf a4y
def aBl:X:=EU
abbrev aJ3:X:=kL aBl
def aiL:X:=.f 90 aJ3
abbrev Sh:X:=.i (-256)
abbrev mR(a b c:X):X:=.o2 0 a (.o2 0 b c)
abbrev zP(a b:X):X:=mR aoX a b
def aBm:X:=zP aiL Sh
abbrev ef:X:=.i 128
abbrev dV:X:=.i 255
abbrev MN:X:=bz dV 28
abbrev aoT:List X:=[tw,cJ 28 ef,MN]
abbrev vw:P1:=.c (.bool true)
abbrev mj(a:List ai):V:=vz a vw
abbrev aJX:X:=j8 aBl aiL
def aiK:Sp:=⟨fj Sf aoT,BY,8,[oG,aoW,dU,ga,eF,gb,eG,gg],mj [ag,ag,rW aBm],8,[(0,vA aJ3 aJX aJX),jj [kN,kO,fu,bg,iV,ag,aE,ag,ag,rW aBm],dU,(3,EV 22 aiL),eF,gb,eG,gg]⟩
theorem a4z:ab aa 330 aiK:=aG (t:=H4) (lt:=[]) (m:=12) Ka trivial .lf kr
theorem a06:aY aa (330,av aiK):=cf a4z
abbrev ES:X:=.f 31 (cy 23 aJZ)
def aBn:X:=ES
abbrev aJY:X:=kL aBn
def aiN:X:=.f 90 aJY
abbrev cW:ai:=aF bA
abbrev ao5:Nat×Bl:=jj [kN,kO,fu,bg,iV,cW,Sg,nO,rU,j9]
abbrev aJ8:X:=j8 aBn aiN
def aiM:Sp:=⟨aJ1,BY,8,[oG,ao5,dU,ga,eF,gb,eG,gg],I9,8,[(0,vA aJY aJ8 aJ8),jj [kN,kO,fu,bg,iV,cW,MP aiN,nO,rU,j9],dU,ga,eF,(5,EV 23 aiN),eG,gg]⟩
theorem a4A:ab aa 330 aiM:=aG (t:=H4) (lt:=[]) (m:=12) Ka trivial .lf kr
theorem a07:aY aa (330,av aiM):=cf a4A
def aBo:X:=ES
abbrev aJ9:X:=kL aBo
def aiP:X:=.f 90 aJ9
abbrev aKa:X:=j8 aBo aiP
abbrev cq:X:=.i 3
abbrev a9:ai:=aF cq
abbrev Sj:X:=.i (-254)
def aiO:Sp:=⟨fj Sf aoT,BY,8,[oG,ao5,dU,ga,eF,gb,eG,gg],I9,8,[(0,vA aJ9 aKa aKa),jj [kN,kO,fu,bg,iV,a9,aE,aF (zP aiP Sj),rU,j9],dU,ga,eF,(5,EV 23 aiP),eG,gg]⟩
theorem a4B:ab aa 330 aiO:=aG (t:=H4) (lt:=[]) (m:=12) Ka trivial .lf kr
theorem a08:aY aa (330,av aiO):=cf a4B
abbrev E0:X:=.f 31 (rR 24 aU (.v 28))
def aBp:X:=E0
abbrev aKb:X:=kL aBp
def aiR:X:=.f 90 aKb
abbrev aKc:Fa:=fj Sf [tw,Ja,bz nG 28]
abbrev ao6:Nat×Bl:=jj [kN,kO,fu,bg,iV,a9,Sg,nO,rU,j9]
abbrev aKd:X:=j8 aBp aiR
def aiQ:Sp:=⟨aKc,BY,8,[oG,ao6,dU,ga,eF,gb,eG,gg],I9,8,[(0,vA aKb aKd aKd),jj [kN,kO,fu,bg,iV,a9,MP aiR,nO,rU,j9],dU,ga,eF,gb,eG,(7,vu (.f 32 (bL 24 aU (eZ 28 aiR))))]⟩
theorem a4C:ab aa 330 aiQ:=aG (t:=H4) (lt:=[]) (m:=12) Ka trivial .lf kr
theorem a09:aY aa (330,av aiQ):=cf a4C
def aBq:X:=E0
abbrev aKe:X:=kL aBq
def aiT:X:=.f 90 aKe
abbrev BZ:X:=.i 63
abbrev MS:X:=bz BZ 28
abbrev aKf:Fa:=fj Sf [tw,cJ 28 bW,MS]
abbrev aKg:X:=j8 aBq aiT
abbrev Sk:X:=qw (.v 28) ef (.i (-4096))
def aiS:Sp:=⟨aKf,BY,8,[oG,ao6,dU,ga,eF,gb,eG,gg],I9,8,[(0,vA aKe aKg aKg),jj [kN,kO,fu,bg,iV,kM,aE,nO,aF (qw aiT aU Sk),j9],dU,ga,eF,gb,eG,(7,vu (.f 32 (bL 24 aU (eZ 28 aiT))))]⟩
theorem a4D:ab aa 330 aiS:=aG (t:=H4) (lt:=[]) (m:=12) Ka trivial .lf kr
theorem a1a:aY aa (330,av aiS):=cf a4D
abbrev ao7:Nat×Bl:=jj [kN,kO,fu,bg,iV,kM,Sg,nO,rU,j9]
abbrev aaE:X:=xI oF
abbrev aKh:Nat×Bl:=jj [kN,kO,fu,bg,iV,kM,aF aaE,nO,rU,j9]
def aiU:Sp:=⟨aKc,BY,8,[oG,ao7,dU,ga,eF,gb,eG,gg],I9,8,[Sd,aKh,dU,ga,eF,gb,eG,gg]⟩
theorem a4E:ab aa 330 aiU:=aG (t:=[(350,av WS)]) (lt:=[]) (m:=12) ⟨azp,trivial⟩ trivial .lf kr
theorem a1b:aY aa (330,av aiU):=cf a4E
abbrev B0:X:=bQ 26 (mR oF aoX (.i (-63)))
def a4G:X:=B0
abbrev aKi:ai:=aF a4G
def aiV:Sp:=⟨aKf,BY,8,[oG,ao7,dU,ga,eF,gb,eG,gg],mj [nO,aKi,j9],8,[Sd,jj [kN,kO,fu,bg,iV,ag,aE,nO,aKi,j9],dU,ga,eF,gb,eG,gg]⟩
theorem a4F:ab aa 330 aiV:=aG (t:=[(350,av WS)]) (lt:=[]) (m:=12) ⟨azp,trivial⟩ trivial .lf kr
theorem a1c:aY aa (330,av aiV):=cf a4F
end
end Go.Proofs.Y
namespace Go.Proofs.Y
open Go Go.Z
section
variable [kv]
abbrev dW:X:=.i 4096
abbrev B1(a:X)(b:ai):Bl:=⟨391,[.a [.u8] dW a,b],false,0⟩
abbrev aJ6:Bl:=B1 ae ag
def aj6:Sp:=⟨oE,[],0,[],bS,1,[(0,aJ6)]⟩
theorem a61:ab aa 291 aj6:=aG (t:=[]) (lt:=[]) (m:=8) trivial trivial .lf kr
theorem a1E:aY aa (291,av aj6):=cf a61
abbrev Jc:Nat×Int×Int:=(40,0,255)
abbrev EX:Nat×Int×Int:=(41,0,4095)
abbrev xJ(a:X):V:=.c (.int .u8 a)
abbrev qA:ai:=fQ 41
abbrev aaD:Bl:=B1 (.v 40) qA
abbrev rX:X:=nE 41
abbrev Jd:X:=eN 40 rX
abbrev EY:ai:=aF rX
def W9:Sp:=pB (cI [Jc,EX,(42,0,255)]) [bS,xJ (.v 42)] (0,aaD) iD [(0,B1 (tq 40 41 (.v 42) Jd) EY)]
theorem a62:ab aa 328 W9:=aG (t:=[]) (lt:=[]) (m:=8) trivial trivial .lf kr
theorem azw:aY aa (328,av W9):=cf a62
abbrev xK(a:C)(b:P1):V:=tz (.c a) b
def aj5:Sp:=pB (fj [Jc,EX,(43,0,4096)] [ir 41 43,IQ 43]) [bS,lB 43] (0,aaD) (xK (.int .u8 (fZ 40 (vq (.v 43) (.v 41)))) vw) [(0,aaD)]
theorem a60:ab aa 327 aj5:=aG (t:=[]) (lt:=[]) (m:=8) trivial trivial .lf kr
theorem a1D:aY aa (327,av aj5):=cf a60
abbrev Je:Nat×Int×Int:=(50,0,4095)
abbrev Jf:Nat×Int×Int:=(53,0,255)
abbrev mS:V:=tt 9
abbrev jL:ai:=.c aop
abbrev mT:ai:=.c aaz
abbrev vC:ai:=lG 8
abbrev a8:ai:=fQ 50
abbrev Si:ai:=rW (.v 53)
abbrev aJ7:ai:=fQ 54
abbrev Jg:ai:=fQ 55
abbrev vD(a:Nat)(b:List ai):Nat×Bl:=(a,⟨361,b,false,0⟩)
abbrev EZ:Nat×Bl:=(8,aaD)
abbrev ao3:X:=tq 40 41 (.v 53) Jd
abbrev Jh:X:=BS 54
def PZ:Sp:=⟨jv [Jc,EX,Je,Jf,(54,0,257)] (IQ 54),[mS],10,[vD 9 [jL,mT,vC,a8,qA,ag,ag,Si,aJ7,Jg],EZ],xJ (.v 53),10,[(8,B1 ao3 EY),vD 9 [jL,mT,vC,a8,EY,ag,ag,Si,aF Jh,Jg]]⟩
theorem a40:ab aa 295 PZ:=aG (t:=[(328,av W9)]) (lt:=[]) (m:=8) ⟨azw,trivial⟩ trivial .lf kr
theorem a1g:aY aa (295,av PZ):=cf a40
abbrev MR:X:=fZ 40 (vq (.v 52) (.v 41))
def aBF:X:=MR
abbrev ao4:X:=ir 41 52
abbrev aoY:X:=cJ 51 bA
abbrev aoZ:X:=IQ 52
abbrev ao0:ai:=fQ 51
abbrev ao1:ai:=fQ 52
abbrev Jb:Nat×Bl:=vD 9 [jL,mT,vC,a8,qA,ao0,ao1,Si,aJ7,Jg]
def PY:Sp:=⟨fj [Jc,EX,Je,Jf,(54,0,257),(51,0,257),(52,0,4096)] [ao4,aoY,aoZ,IQ 54],[mS],10,[Jb,EZ],xJ aBF,10,[(8,B1 (tq 40 41 aBF Jd) EY),vD 9 [jL,mT,vC,a8,EY,ao0,ao1,Si,aF Jh,Jg]]⟩
theorem a4Z:ab aa 295 PY:=aG (t:=[(327,av aj5),(328,av W9)]) (lt:=[]) (m:=8) ⟨a1D,azw,trivial⟩ trivial .lf kr
theorem a1f:aY aa (295,av PY):=cf a4Z
def ajM:X:=BU
abbrev vB:Nat×Bl:=vD 9 [jL,mT,vC,a8,qA,ao0,ao1,Si,ag,Jg]
abbrev ao2:X:=di xG ajM
abbrev MQ:V:=.c (.bool true)
abbrev EW(a:Fa)(b:List V)(c d:List (Nat×Bl)):Sp:=⟨a,b,10,c,MQ,10,d⟩
def Qd:Sp:=EW (jv [vt,BW,zJ,zK,zL,zM,zN,I5,EO,BV,EX,Je] tw) [mS] [vB,oG,aJ4,dU,ga,eF,gb,eG,gg] [(0,zO Se (.f 14 (cy 2 ao2)) (.f 17 (cy 2 ao2))),jj [zQ (IZ 20 21 ao2 ET),aF ajM,fu,bg,iV,aF (.o3 1 (rS ajM) bA aj),aE,ag,ag,MO],dU,ga,eF,gb,eG,gg,vB]
theorem a6o:ab aa 297 Qd:=aG (t:=[(330,av pN0)]) (lt:=[]) (m:=12) ⟨a04,trivial⟩ trivial .lf kr
theorem a1s:aY aa (297,av Qd):=cf a6o
def aCx:X:=EU
abbrev aJ5:X:=kL aCx
def ajN:X:=.f 90 aJ5
abbrev MZ:VB:=[vt,BW,zJ,zK,zL,zM,zN,I5,EO,BV,EX,Je,(28,1,255)]
abbrev fR:X:=ir 50 41
abbrev kh:X:=fJ fR
abbrev aKo:List (Nat×Bl):=[vB,oG,aoW,dU,ga,eF,gb,eG,gg]
abbrev aKp:X:=j8 aCx ajN
def Qe:Sp:=EW (fj MZ [tw,kh,Ja,aoV]) [mS] aKo [(0,vA aJ5 aKp aKp),jj [kN,kO,fu,bg,iV,aE,MP ajN,ag,ag,j9],dU,(3,EV 22 ajN),eF,gb,eG,gg,vB]
theorem a6p:ab aa 297 Qe:=aG (t:=[(330,av aiI)]) (lt:=[]) (m:=12) ⟨a05,trivial⟩ trivial .lf kr
theorem a1t:aY aa (297,av Qe):=cf a6p
def aCy:X:=EU
abbrev aKq:X:=kL aCy
def ajO:X:=.f 90 aKq
def aCz:X:=zP ajO Sh
abbrev aKr:X:=j8 aCy ajO
def Qf:Sp:=EW (fj MZ [tw,kh,cJ 28 ef,MN]) [mS] aKo [(0,vA aKq aKr aKr),jj [kN,kO,fu,bg,iV,ag,aE,ag,ag,rW aCz],dU,(3,EV 22 ajO),eF,gb,eG,gg,vD 9 [jL,mT,vC,a8,qA,ag,ag,rW aCz,aE,Jg]]
theorem a6q:ab aa 297 Qf:=aG (t:=[(330,av aiK)]) (lt:=[]) (m:=12) ⟨a06,trivial⟩ trivial .lf kr
theorem a1u:aY aa (297,av Qf):=cf a6q
def aCA:X:=ES
abbrev aKs:X:=kL aCA
def ajP:X:=.f 90 aKs
abbrev aKt:List (Nat×Bl):=[vB,oG,ao5,dU,ga,eF,gb,eG,gg]
abbrev aKu:X:=j8 aCA ajP
def Qg:Sp:=EW (fj MZ [tw,Ja,aoV]) [mS] aKt [(0,vA aKs aKu aKu),jj [kN,kO,fu,bg,iV,cW,MP ajP,nO,rU,j9],dU,ga,eF,(5,EV 23 ajP),eG,gg,vB]
theorem a6r:ab aa 297 Qg:=aG (t:=[(330,av aiM)]) (lt:=[]) (m:=12) ⟨a07,trivial⟩ trivial .lf kr
theorem a1v:aY aa (297,av Qg):=cf a6r
def aCB:X:=ES
abbrev aKv:X:=kL aCB
def ajQ:X:=.f 90 aKv
abbrev aKw:X:=j8 aCB ajQ
def Qh:Sp:=EW (fj MZ aoT) [mS] aKt [(0,vA aKv aKw aKw),jj [kN,kO,fu,bg,iV,a9,aE,aF (zP ajQ Sj),rU,j9],dU,ga,eF,(5,EV 23 ajQ),eG,gg,vB]
theorem a6s:ab aa 297 Qh:=aG (t:=[(330,av aiO)]) (lt:=[]) (m:=12) ⟨a08,trivial⟩ trivial .lf kr
theorem a1w:aY aa (297,av Qh):=cf a6s
def aCC:X:=E0
abbrev aKx:X:=kL aCC
def ajR:X:=.f 90 aKx
abbrev zS:X:=cJ 25 bA
abbrev aKy:Fa:=fj MZ [tw,Ja,bz nG 28,zS]
abbrev aKz:List (Nat×Bl):=[vB,oG,ao6,dU,ga,eF,gb,eG,gg]
abbrev aKA:X:=j8 aCC ajR
def Qi:Sp:=EW aKy [mS] aKz [(0,vA aKx aKA aKA),jj [kN,kO,fu,bg,iV,a9,MP ajR,nO,rU,j9],dU,ga,eF,gb,eG,(7,vu (.f 32 (bL 24 aU (eZ 28 ajR)))),vB]
theorem a6t:ab aa 297 Qi:=aG (t:=[(330,av aiQ)]) (lt:=[]) (m:=12) ⟨a09,trivial⟩ trivial .lf kr
theorem a1x:aY aa (297,av Qi):=cf a6t
def aCD:X:=E0
abbrev aKB:X:=kL aCD
def ajS:X:=.f 90 aKB
abbrev aKC:Fa:=fj MZ [tw,cJ 28 bW,MS,zS]
abbrev aKD:X:=j8 aCD ajS
def Qj:Sp:=EW aKC [mS] aKz [(0,vA aKB aKD aKD),jj [kN,kO,fu,bg,iV,kM,aE,nO,aF (qw ajS aU Sk),j9],dU,ga,eF,gb,eG,(7,vu (.f 32 (bL 24 aU (eZ 28 ajS)))),vB]
theorem a6u:ab aa 297 Qj:=aG (t:=[(330,av aiS)]) (lt:=[]) (m:=12) ⟨a1a,trivial⟩ trivial .lf kr
theorem a1y:aY aa (297,av Qj):=cf a6u
abbrev aKE:List (Nat×Bl):=[vB,oG,ao7,dU,ga,eF,gb,eG,gg]
def Qk:Sp:=EW aKy [mS] aKE [Sd,aKh,dU,ga,eF,gb,eG,gg,vB]
theorem a6v:ab aa 297 Qk:=aG (t:=[(330,av aiU)]) (lt:=[]) (m:=12) ⟨a1b,trivial⟩ trivial .lf kr
theorem a1z:aY aa (297,av Qk):=cf a6v
def aCE:X:=B0
def aCF:X:=EH 41 aCE
abbrev Sr:X:=xC (.v 27)
abbrev Ss:X:=bQ 50 (mP 41 nH)
abbrev aaK:X:=.o1 8 (MB Ss 25)
abbrev aKF:ai:=aF aCE
def Ql:Sp:=⟨aKC,[mS],10,aKE,.c (.bx (xD Sr (xD aCF aaK))),10,[Sd,jj [kN,kO,fu,bg,iV,ag,aE,nO,aKF,j9],dU,ga,eF,gb,eG,gg,vD 9 [jL,mT,vC,a8,qA,nO,aKF,j9,nO,Jg]]⟩
theorem a6w:ab aa 297 Ql:=aG (t:=[(330,av aiV)]) (lt:=[]) (m:=12) ⟨a1c,trivial⟩ trivial (.tf Sr (.tf aCF .lf .lf) .lf) kr
theorem a1A:aY aa (297,av Ql):=cf a6w
end
end Go.Proofs.Y
namespace Go.Z
open Go Go.Sym Go.RowKit
open Go.Ev (T K Ex DH DF a7)
section
variable [bI]
theorem eV {r:Fa->Bool} {fa:Fa} {c:X} {a b:Tr} (h1:cx r (fa.on c true) a=true) (h2:cx r (fa.on c false) b=true):cx r fa (.tf c a b)=true:=by
 show (cx r (fa.on c true) a && cx r (fa.on c false) b)=true
 rw[h1,h2]; rfl
def azz (F:Fx) (lp lp2:Lp) (fr:Fr) (h:Hp):Bool:=XX F lp lp2 fr h && jq F (bP (eM (A0 lp2 fr h).1) lp2.μ) lp.μ
def VV (I:Info) (call:FuncId->List V->Hp->Option (V×Hp)) (nt:Nat) (pl:Nat->List K) (lps:Nat->Option iv) (x:Code) (lp lp2:Lp):Bool:=match code I call nt pl lps x (bO lp.s) (aK lp.n lp.l) with
 | some (.norm,s1,h1)=>QD I.F lp s1 h1 || azz I.F lp lp2 s1 h1
 | some (e,s1,h1)=>KG e lp.ex && DM I.F lp s1 h1
 | none=>false
section
variable [Env] {F:Fx} {bs:Nm} {w:World} {I:Info} {P:Program} {nt:Nat} {a:Act}
theorem aUo {x:Code} {lp lp2:Lp} (hI:dm P I) {call:FuncId->List V->Hp->Option (V×Hp)} (hC:ua P call) (hm:P.follows .mixedOrders=true) {pl:Nat->List K} {lps:Nat->Option iv} (hL:∀p∈loops x,∀g,lps p.1=some g->qM P nt g p.2) (hc:ky I nt pl x=true) (hb:VV I call nt pl lps x lp lp2=true) (h2:∀M,qN P nt x lp2 M) {M:Nat} (hM:qN P nt x lp M) (hlt:N lp.μ < ((M+1:Nat):Int)) (hS:SR bs (bO lp.s) a nt) (hR:HR w bs (aK lp.n lp.l)):Code.rounds P x (iu nt bs w (aK lp.n lp.l) lp.ex (bO lp.s') (aK lp.n' lp.l')) (M+1) a w:=by
 have hF:=hI.F
 cases hcd:code I call nt pl lps x (bO lp.s) (aK lp.n lp.l) with
 | none=>unfold VV at hb; rw[hcd] at hb; cases hb
 | some r=>
  obtain⟨e,s1,h1⟩:=r
  have cL:Pk I call nt pl lps x lp=true->Code.rounds P x (iu nt bs w (aK lp.n lp.l) lp.ex (bO lp.s') (aK lp.n' lp.l')) (M+1) a w:=λh=>ayl hI hC hm hL hc h hM hlt hS hR
  unfold VV at hb
  rw[hcd] at hb
  unfold Pk at cL
  rw[hcd] at cL
  cases e with
  | norm=>
   rw[dt] at hb
   rcases hb with hb | hb
   .exact cL hb
   .rw[rounds_succ]
    refine wp_mono (na hI hC hm (lp:=lps) (pl:=pl) x hL hc (bO lp.s) (aK lp.n lp.l) _ s1 h1 hcd bs a w hS hR) ?_
    rintro ex a1 w1 ⟨rfl,bs1,hS1,hR1,hM1⟩
    refine G5 ?_
    unfold azz XX at hb
    simp only[ar] at hb
    obtain⟨⟨b1,b2,b4⟩,b3⟩:=hb
    have b2:=OJ b2
    obtain⟨i1,i2,i3,i4⟩:=La hF b1 hS1 hR1
    have d1:=lZ hF b3
    rw[fm] at d1
    have:=h2 M _ i1 om _ a1 w1 i2 i3
    refine QA ?_ M a1 w1 this
    intro ex a2 w2 hg
    obtain⟨g1,bs2,g2,g3,g4⟩:=i4 ex a2 w2 hg
    obtain⟨bs3,o1,o2,o3⟩:=H5 hF b4 hR g2 g3 (hM1.trans g4)
    exact⟨by rw[g1,b2],bs3,o1,o2,o3⟩
  | ret=>exact cL hb
  | exit i=>exact cL hb
end
end
end Go.Z
namespace Go.Proofs.Y
open Go Go.Z
section
variable [bI]
def WD (t:OT) (lt:LT) (m:Nat) (f:FuncId) (k:Nat) (fn:Func) (lp lp2:Lp) (fa:Fa):Bool:=
 Go.Z.ky (bR fa.fx) fn.ntmps ((bR fa.fx).pl f) (aI k (loops (aC fn))) && VV (bR fa.fx) (uv (bR fa.fx) (λf=>wF f fa.fx t) (λf k=>pc f k fa.fx lt) m) fn.ntmps ((bR fa.fx).pl f) (λk=>pc f k fa.fx lt) (aI k (loops (aC fn))) lp lp2
theorem a1T {t:OT} {lt:LT} (ht:dB (aY aa) t) (hl:dB (cA aa) lt) {m:Nat} {f:FuncId} {k:Nat} {fn:Func} {lp lp2:Lp} (h2:∀M,qN aa fn.ntmps (aI k (loops (aC fn))) lp2 M) {fa:Fa} (hz:(bR fa.fx).fn f=some fn) (hb:fn.body=some (aC fn)) (h:WD t lt m f k fn lp lp2 fa=true):cr aa fn.ntmps (aI k (loops (aC fn))) lp fa:=by
 intro M hM E hF hlt bs a w hS hR
 simp only[WD,ar] at h
 have hO:=@H3 _ _ E (bR fa.fx) hF t ht
 have hFn:=@Bq _ E fa.fx
 have hL:=@HJ _ _ E (bR fa.fx) hF hFn lt hl
 refine @aUo _ E bs w (bR fa.fx) aa fn.ntmps a _ lp lp2 (@vg _ E _ hF) _ (@De _ E _ _ (@vg _ E _ hF) hFn _ _ hO hL m) hFn.mixed _ _ ?_ h.1 h.2 h2 M hM hlt hS hR
 intro q hq g hg
 refine hL f fn _ hz hb q ?_ g hg
 rcases K3 (k:=k) (loops (aC fn)) with e | e
 .rw[e] at hq; cases hq
 .exact uL e q hq
theorem orO {t:OT} {lt:LT} (ht:dB (aY aa) t) (hl:dB (cA aa) lt) {m:Nat} {f:FuncId} {k:Nat} {fn:Func} {lp:Lp} (lp2:Lp) (h2:∀M,qN aa fn.ntmps (aI k (loops (aC fn))) lp2 M) (hz:∀F,(bR F).fn f=some fn) (hb:fn.body=some (aC fn)) (tr:Tr) (ho:Ob lp.fa (λE=>@ah _ E lp.fa.fx) tr) (h:cx (WD t lt m f k fn lp lp2) lp.fa tr=true):cr aa fn.ntmps (aI k (loops (aC fn))) lp lp.fa:=λM hM E hF=>
 Og (R:=λE=>@N _ E lp.μ < ((M+1:Nat):Int)->∀bs a w,@SR _ E bs (bO lp.s) a fn.ntmps->@HR _ E w bs (aK lp.n lp.l)->Code.rounds aa (aI k (loops (aC fn))) (@iu _ E fn.ntmps bs w (aK lp.n lp.l) lp.ex (bO lp.s') (aK lp.n' lp.l')) (M+1) a w) (λ_ h E hF=>a1T ht hl h2 (hz _) hb h M hM E hF) ho h E hF hF
end
end Go.Proofs.Y
