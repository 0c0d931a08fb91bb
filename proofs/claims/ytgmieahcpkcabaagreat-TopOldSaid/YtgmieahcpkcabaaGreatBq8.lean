import Derived.Test.YtgmieahcpkcabaaGreatBq7
set_option maxRecDepth 100000
set_option linter.unusedSimpArgs false
set_option linter.unusedVariables false
set_option linter.constructorNameAsVariable false
set_option linter.unusedSectionVars false
noncomputable section
namespace Go.Proofs.Y
open Go Go.Z
section
variable [kv]
abbrev aKG:X:=eN 60 (.v 61)
abbrev aaG:X:=eZ 62 aKG
abbrev MT:X:=cy 55 aaG
abbrev mm(a b c d e f g h:Nat)(i:X):X:=iE a b c d (iE e f g h i)
abbrev apa:X:=mm 20 21 22 23 24 25 26 27 (mm 28 29 40 41 50 51 52 53 (cy 54 MT))
abbrev aKk:X:=cN 5 6 apa
abbrev xL(a b c d:Nat)(e:X):X:=.f 100 (iE a b c d e)
abbrev aKl:X:=xL 1 2 3 4 aKk
def aSg:X:=aKl
abbrev zR:Nat×Int×Int:=(61,0,1048576)
abbrev aKm:VB:=[vt,BW,(3,0,4),(4,0,8192),(5,0,128),(6,0,255),zJ,zK,zL,zM,zN,I5,EO,BV,(28,1,255),(29,0,4),Jc,EX,Je,(51,0,257),(52,0,4096),Jf,(54,0,257),(55,1,4),(60,0,255),zR,(62,0,8192),(63,0,1048576)]
abbrev MU:X:=bz (ir 63 61) 62
abbrev So:X:=ir 62 4
abbrev MV:X:=cN 50 55 .n
abbrev apb:X:=mm 28 29 25 26 51 52 41 54 MV
abbrev apc:X:=.f 102 (cN 1 3 apb)
abbrev tA(a:Nat)(b c:X)(d:gj):V:=.c (.sl a 0 b c d)
abbrev MW:V:=tA 10 (.v 61) (.v 62) .a
abbrev Sq:V:=gw ef
abbrev lH(a:Nat)(b:X):V:=.c (.sl a 0 ae b .g)
abbrev B2:ai:=fQ 3
abbrev MX:Nat×Bl:=(0,MM dQ ed B2)
abbrev MY:Nat×Bl:=jj [kN,kO,fu,bg,iV,fQ 29,Sg,nO,rU,j9]
abbrev aaH:Nat×Bl:=oD 10 63 (.v 60)
abbrev eh:X:=bj aSg
abbrev aaI:X:=.f 204 eh
abbrev aKn:ai:=aF (.f 211 eh)
abbrev aaJ:X:=.o2 2 So (.i 8589934592)
abbrev ao8:X:=.o2 0 aaJ (.v 2)
abbrev aaF:X:=.i 17179869184
abbrev vE:X:=.i 4294967296
abbrev ao9:X:=.o2 1 aaF (.o2 2 (.v 3) vE)
abbrev E1:X:=bz g7 55
abbrev aKj:X:=mR ao8 (.o2 0 ao9 fR) E1
def dx:Lp:=⟨nK aKm [MU,So,fR] apc,[(0,mS),(1,MW),(2,Sq),(6,vp),(7,lH 11 (.v 5))],12,[Jb,MX,MY,dU,ga,eF,gb,eG,gg,EZ,aaH,oD 11 5 (.v 6)],.exit 0,[(0,mS),(6,gw (.f 203 eh)),(7,lH 12 aaI)],13,[vD 9 [jL,mT,vC,a8,aKn,aF (.f 212 eh),aF (.f 213 eh),rW (.f 214 eh),aF (.f 215 eh),aF (.f 216 eh)],(0,zO (.f 200 eh) (.f 201 eh) (.f 202 eh)),jj [zQ (.f 220 eh),aF (.f 205 eh),fu,bg,iV,aF (.f 210 eh),aF (.f 209 eh),aF (.f 206 eh),aF (.f 207 eh),rW (.f 208 eh)],dU,(3,rP (.f 221 eh)),eF,(5,rP (.f 222 eh)),eG,(7,vu (.f 223 eh)),(8,B1 (.f 224 eh) aKn),aaH,cj 12 aaI (.f 225 eh)],aKj⟩
def aVN:X:=aKl
abbrev Sn:X:=aVN
abbrev kg:X:=bj Sn
def afU:X:=ao (.f 203 kg)
def afV:X:=ao (.f 204 kg)
def afX:X:=ao (.f 211 kg)
def af0:X:=ao (.f 212 kg)
def af3:X:=ao (.f 213 kg)
def af6:X:=ao (.f 214 kg)
def af9:X:=ao (.f 215 kg)
def agb:X:=ao (.f 216 kg)
def aWi:X:=ao (.f 200 kg)
def aVO:X:=ao (.f 201 kg)
def aVP:X:=ao (.f 202 kg)
def aVQ:X:=bk (.f 220 kg) bA
def aVR:X:=ao (.f 205 kg)
def aVS:X:=ao (.f 210 kg)
def aVT:X:=ao (.f 209 kg)
def aVU:X:=ao (.f 206 kg)
def aVV:X:=ao (.f 207 kg)
def aVW:X:=ao (.f 208 kg)
def aVX:X:=bk (.f 221 kg) cV
def aVY:X:=bk (.f 222 kg) cV
abbrev kP(a:X):X:=bk a aU
def aVZ:X:=kP (.f 223 kg)
abbrev pC(a:X):X:=bk a dW
def aV0:X:=pC (.f 224 kg)
def aV1:X:=iU (.f 225 kg) 5
abbrev Jk:X:=.o2 6 (mP 1 cV) (fZ 60 (kI 61 4))
def aV2:X:=Jk
def aV3:X:=ao8
def aw7:X:=ao9
abbrev aaS:X:=aV3
def aw8:X:=mR aaS (.o2 0 aw7 (cJ 50 rX)) E1
def aw9:X:=MR
def afW:X:=.o2 0 aw7 fR
def aV4:X:=mR aaS afW E1
def axa:X:=mR aaS afW (.o2 1 g7 cq)
abbrev aKR:X:=eZ 50 bM
abbrev aKS:X:=.f 102 (mm 1 3 28 29 25 26 51 52 (cN 41 54 aKR))
def aV5:X:=aKS
abbrev aaT:X:=.o2 1 g7 bM
def axb:X:=mR aaS afW aaT
abbrev a_Z:X:=aV4
abbrev Su(a b:X):X:=fJ (.o2 1 a b)
abbrev E4(a:X):X:=Su a_Z a
def aV6:X:=E4 axb
abbrev aKT:X:=mm 20 21 22 23 24 25 26 27 (mm 28 29 40 41 50 51 52 53 (bL 54 bM aaG))
def aV7:X:=xL 1 2 3 4 (cN 5 6 aKT)
def axc:X:=Se
def afY:X:=BU
abbrev apn:X:=di xG afY
def afZ:X:=.f 17 (cy 2 apn)
def axd:X:=.o3 1 (rS afY) bA aj
def axe:X:=.f 14 (cy 2 apn)
abbrev E5(a b:X):X:=mR (.o2 0 aaJ a) (.o2 0 (.o2 1 aaF (.o2 2 b vE)) fR) E1
def axf:X:=E5 axe afZ
def axg:X:=EU
abbrev aKU:X:=kL axg
def aV8:X:=.f 91 aKU
def V1:X:=.f 90 aKU
abbrev aKV:X:=j8 axg V1
def aV9:X:=.f 17 aKV
def axh:X:=xI V1
def af1:X:=.f 14 aKV
abbrev Sv:X:=aV9
def af2:X:=E5 af1 Sv
def axi:X:=E4 af2
def axj:X:=.f 32 (bL 22 cV (eZ 28 V1))
def axk:X:=zP V1 Sh
def axl:X:=ES
abbrev aKW:X:=kL axl
def aWa:X:=.f 91 aKW
def V2:X:=.f 90 aKW
abbrev aKX:X:=j8 axl V2
def aWb:X:=.f 17 aKX
def axm:X:=xI V2
def af4:X:=.f 14 aKX
abbrev Sw:X:=aWb
def af5:X:=E5 af4 Sw
def axn:X:=E4 af5
def axo:X:=.f 32 (bL 23 cV (eZ 28 V2))
def axp:X:=zP V2 Sj
def axq:X:=E0
abbrev aKY:X:=kL axq
def aWc:X:=.f 91 aKY
def V3:X:=.f 90 aKY
abbrev aKZ:X:=j8 axq V3
def aWd:X:=.f 17 aKZ
def axr:X:=xI V3
def af7:X:=.f 14 aKZ
abbrev Sx:X:=aWd
def af8:X:=E5 af7 Sx
def axs:X:=E4 af8
def axt:X:=.f 32 (bL 24 aU (eZ 28 V3))
def aWe:X:=qw V3 aU Sk
def axu:X:=aaE
def axv:X:=.o2 0 aaJ rT
abbrev aK0:X:=.o2 0 (.o2 1 aaF (.o2 2 mQ vE)) fR
def axw:X:=aK0
def aga:X:=mR axv axw E1
def axx:X:=E4 aga
def aWf:X:=B0
abbrev xM:X:=aWf
abbrev rY(a:X):X:=.o2 1 a ae
def aWg:X:=rY xM
abbrev B3(a:X):X:=.o2 1 dW a
def aWh:X:=B3 xM
def axy:X:=mR axv axw aaT
abbrev sF (E:Env) (c w ax used ol out cp bh rb rl rd tl td tb node part dL made plain zl zd zb left st n fw:X):Lz.ak:=⟨N c,N w,N ax,N used,N ol,D out,D cp,N bh,D rb,D rl,D rd,N tl,N td,N tb,N node,N part,D dL,N made,N plain,N zl,N zd,N zb,N left,N st,N n,D fw⟩
abbrev s0 (E:Env):Lz.ak:=sF E (.v 1) (.v 2) (.v 3) (.v 4) (.v 5) (.v 6) (.v 20) (.v 21) (.v 22) (.v 23) (.v 24) (.v 25) (.v 26) (.v 27) (.v 28) (.v 29) (.v 40) (.v 41) (.v 50) (.v 51) (.v 52) (.v 53) (.v 54) (.v 55) (.v 62) aKG
theorem oo {s t:Lz.ak} (c:s.c=t.c:=by rfl) (w:s.w=t.w:=by rfl) (ax:s.ax=t.ax:=by rfl) (used:s.used=t.used:=by rfl) (ol:s.ol=t.ol:=by rfl) (out:s.out=t.out:=by rfl) (cp:s.cp=t.cp:=by rfl) (bh:s.bh=t.bh:=by rfl) (rb:s.rb=t.rb:=by rfl) (rl:s.rl=t.rl:=by rfl) (rd:s.rd=t.rd:=by rfl) (tl:s.tl=t.tl:=by rfl) (td:s.td=t.td:=by rfl) (tb:s.tb=t.tb:=by rfl) (node:s.node=t.node:=by rfl) (part:s.part=t.part:=by rfl) (dL:s.dL=t.dL:=by rfl) (made:s.made=t.made:=by rfl) (plain:s.plain=t.plain:=by rfl) (zl:s.zl=t.zl:=by rfl) (zd:s.zd=t.zd:=by rfl) (zb:s.zb=t.zb:=by rfl) (left:s.left=t.left:=by rfl) (st:s.st=t.st:=by rfl) (n:s.n=t.n:=by rfl) (fw:s.fw=t.fw:=by rfl):s=t:=by
 cases s; cases t
 simp only at c w ax used ol out cp bh rb rl rd tl td tb node part dL made plain zl zd zb left st n fw
 subst c w ax used ol out cp bh rb rl rd tl td tb node part dL made plain zl zd zb left st n fw
 rfl
section
variable {E:Env} (hF:@ah _ E dx.fa.fx)
include hF
theorem bf:(0<=N (.v 1)/\N (.v 1)<=4294967295)/\(0<=N (.v 2)/\N (.v 2)<=4294967295)/\(0<=N (.v 3)/\N (.v 3)<=4)/\(0<=N (.v 4)/\N (.v 4)<=8192)/\(0<=N (.v 5)/\N (.v 5)<=128)/\(0<=N (.v 21)/\N (.v 21)<=1)/\(0<=N (.v 25)/\N (.v 25)<=257)/\(0<=N (.v 26)/\N (.v 26)<=4096)/\(0<=N (.v 27)/\N (.v 27)<=255)/\(0<=N (.v 28)/\N (.v 28)<=255)/\(0<=N (.v 29)/\N (.v 29)<=4)/\(0<=N (.v 41)/\N (.v 41)<=4095)/\(0<=N (.v 50)/\N (.v 50)<=4095)/\(0<=N (.v 51)/\N (.v 51)<=257)/\(0<=N (.v 52)/\N (.v 52)<=4096)/\(0<=N (.v 53)/\N (.v 53)<=255)/\(0<=N (.v 54)/\N (.v 54)<=257)/\(0<=N (.v 55)/\N (.v 55)<=4)/\(0<=N (.v 62)/\N (.v 62)<=8192):=
 ⟨⟨by have:=(hF.b 1 rfl).1; omega,(hF.b 1 rfl).2⟩,⟨by have:=(hF.b 2 rfl).1; omega,(hF.b 2 rfl).2⟩,⟨by have:=(hF.b 3 rfl).1; omega,(hF.b 3 rfl).2⟩,⟨by have:=(hF.b 4 rfl).1; omega,(hF.b 4 rfl).2⟩,⟨by have:=(hF.b 5 rfl).1; omega,(hF.b 5 rfl).2⟩,⟨by have:=(hF.b 21 rfl).1; omega,(hF.b 21 rfl).2⟩,⟨by have:=(hF.b 25 rfl).1; omega,(hF.b 25 rfl).2⟩,⟨by have:=(hF.b 26 rfl).1; omega,(hF.b 26 rfl).2⟩,⟨by have:=(hF.b 27 rfl).1; omega,(hF.b 27 rfl).2⟩,⟨by have:=(hF.b 28 rfl).1; omega,(hF.b 28 rfl).2⟩,⟨by have:=(hF.b 29 rfl).1; omega,(hF.b 29 rfl).2⟩,⟨by have:=(hF.b 41 rfl).1; omega,(hF.b 41 rfl).2⟩,⟨by have:=(hF.b 50 rfl).1; omega,(hF.b 50 rfl).2⟩,⟨by have:=(hF.b 51 rfl).1; omega,(hF.b 51 rfl).2⟩,⟨by have:=(hF.b 52 rfl).1; omega,(hF.b 52 rfl).2⟩,⟨by have:=(hF.b 53 rfl).1; omega,(hF.b 53 rfl).2⟩,⟨by have:=(hF.b 54 rfl).1; omega,(hF.b 54 rfl).2⟩,⟨by have:=(hF.b 55 rfl).1; omega,(hF.b 55 rfl).2⟩,⟨by have:=(hF.b 62 rfl).1; omega,(hF.b 62 rfl).2⟩⟩
theorem gf:0<=N (.v 62) - N (.v 4)/\0<=N (.v 50) - N (.v 41):=⟨hF.g (x:=.o2 1 (.v 62) (.v 4)) (mt mh),hF.g (x:=.o2 1 (.v 50) (.v 41)) (mt (mt mh))⟩
theorem XJ:(s0 E).Bd:=⟨hF.b 1 rfl,hF.b 2 rfl,hF.b 3 rfl,⟨(hF.b 4 rfl).1,Int.sub_nonneg.1 (gf hF).1⟩,(hF.b 62 rfl).2,hF.b 5 rfl,hF.b 28 rfl,hF.b 29 rfl,hF.b 25 rfl,hF.b 26 rfl,⟨(hF.b 41 rfl).1,Int.sub_nonneg.1 (gf hF).2⟩,(hF.b 50 rfl).2,(hF.b 51 rfl).1,(hF.b 52 rfl).1,(hF.b 54 rfl).1,hF.b 55 rfl,λq=>hF.vb 60 0 255 rfl (q+(N (.v 61)).toNat)⟩
theorem akE:(s0 E).ok:=jI (of_decide_eq_true (hF.t (b:=true) mh))
theorem kf (h4:¬N (.v 55)=4):(0 < N (.v 3)->N (.v 1) < 256 ^ (4 - N (.v 3)).toNat)/\(N (.v 29)=0->N (.v 28)=1)/\(N (.v 29)=1->N (.v 25)=0/\N (.v 26)=0)/\(3<=N (.v 29)->N (.v 28)<=63/\2<=N (.v 25))/\(N (.v 29)=4->N (.v 26)<=4032)/\(0 < N (.v 54)->N (.v 41)+N (.v 54)<=N (.v 50)/\(N (.v 51)=0/\N (.v 52)=0\/2<=N (.v 51)/\1<=N (.v 52)/\N (.v 52)<=N (.v 41))):=Lz.PC (akE hF) h4
structure n6 (E:Env) (t:Lz.ak):Prop where
 ok:t.ok
 mu:0<=(s0 E).mu - t.mu - 1
 pos:0<=t.mu
 fin:t.fin=(s0 E).fin
theorem pa {t:Lz.ak} (h:(s0 E).next=(true,t)):n6 E t:=by
 have:=Lz.a0v (XJ hF) (akE hF) h
 exact⟨this.1,by omega,this.2.2,(Lz.auj h).symm⟩
theorem atP:Lz.GD (s0 E).c ((s0 E).fw (s0 E).used.toNat)=N Jk:=by
 have h1:=hF.b 4 rfl
 have h2:=hF.b 61 rfl
 show Lz.GD (N (.v 1)) (D (.v 60) ((N (.v 4)).toNat+(N (.v 61)).toNat))=Lz.GD (N (.v 1)) (D (.v 60) (N (.v 61)+N (.v 4)).toNat)
 congr 2
 omega
omit hF in
theorem aDI {x:X} (hc:(s0 E).cell=N x):Lz.C7 (s0 E).out (s0 E).ol (s0 E).cell=D (.o3 0 (.v 6) (.v 5) (.o3 0 x aj ae)):=by
 rw[hc]
 funext q
 unfold Lz.C7
 rw[cE,cE]
 show (if (q:Int) < N (.v 5) then D (.v 6) q else _)=_
 by_cases h:(q:Int) < N (.v 5)
 .rw[if_pos h,if_pos h]
 .rw[if_neg h,if_neg h]
  show (if ((q - (N (.v 5)).toNat:Nat):Int) < 1 then _ else _)=if ((q - (N (.v 5)).toNat:Nat):Int) < 1 then _ else _
  by_cases h2:((q - (N (.v 5)).toNat:Nat):Int) < 1
  .rw[if_pos h2,if_pos h2,show q - (N (.v 5)).toNat=0 by omega]; rfl
  .rw[if_neg h2,if_neg h2]; rfl
theorem aDJ {x:X} (hc:(s0 E).cell=N x):Lz.dh (s0 E).dL (s0 E).made (s0 E).cell=D (.o3 0 (.v 40) (.v 41) (.o3 0 x aj Jd)):=by
 rw[hc,@su _ E _ _ _ (hF.b 41 rfl).1]
 rfl
theorem aTx (x:X):Lz.dh (s0 E).cp (s0 E).bh (N x)=D (.o3 0 (.v 20) (.v 21) (.o3 0 x aj ET)):=by
 rw[@su _ E _ _ _ (hF.b 21 rfl).1]
 rfl
omit hF in
theorem aTz (x:X):(if N x=1 then (2:Int) else 1)=N (.o3 1 (.o2 12 x aj) bA aj):=(@ui _ E x 1 bA aj).symm
theorem avq (h4:¬N (.v 55)=4) (h:0 < N (.v 54)) (h2:N (.v 51)<=0):N (.v 51)=0/\N (.v 52)=0:=by
 rcases ((kf hF h4).2.2.2.2.2 h).2 with h | h
 .exact h
 .omega
omit hF
abbrev ae4:X:=.o2 0 (.v 26) (.o2 0 (.f 92 (.c (.v 1) (.c (.v 2) .n))) (.o2 0 (.o2 2 (.v 28) (.i 2)) (.i (-63))))
abbrev yQ:X:=.o3 1 (.o2 12 (.v 27) (.i 0)) (.o3 1 (.o1 8 (.o2 11 (.v 41) ae4)) (.o1 8 (.o2 11 (.o2 0 (.v 50) (.o2 2 (.v 41) (.i (-1)))) (.v 25))) (.i 0)) (.i 0)
theorem ayq:decide (N yQ≠0)=decide (s0 E).wG:=by
 have e1:(s0 E).wG=(N (.v 27)=0/\¬N (.v 41) < N ae4/\¬N Ss < N (.v 25)):=rfl
 rw[decide_eq_decide,e1,ui,yo,wg,N5,jx]
 by_cases h1:N (.v 27)=0
 .rw[if_pos h1]
  by_cases h2:N (.v 41) < N ae4
  .rw[if_pos h2]; exact⟨λk=>absurd rfl k,λk=>absurd h2 k.2.1⟩
  .rw[if_neg h2]
   by_cases h3:N Ss < N (.v 25)
   .rw[decide_eq_true h3]; exact⟨λk=>absurd dc k,λk=>absurd h3 k.2.2⟩
   .rw[decide_eq_false h3]; exact⟨λ_=>⟨h1,h2,h3⟩,λ_=>by decide⟩
 .rw[if_neg h1]; exact⟨λk=>absurd rfl k,λk=>absurd k.1 h1⟩
theorem aZT (h:decide (N yQ≠0)=true):(s0 E).wG:=by rw[ayq] at h; exact of_decide_eq_true h
theorem aZS (h:decide (N yQ≠0)=false):¬(s0 E).wG:=by rw[ayq] at h; exact of_decide_eq_false h
include hF
structure Stop (E:Env) (x:X):Prop where
 c:@N _ E (.v 1)=@N _ E (.f 200 eh)
 w:@N _ E (.v 2)=@N _ E (.f 201 eh)
 ax:@N _ E (.v 3)=@N _ E (.f 202 eh)
 used:@N _ E (.v 4)=@N _ E (.f 203 eh)
 ol:@N _ E (.v 5)=@N _ E aaI
 bh:@N _ E (.v 21)=@N _ E (.f 205 eh)
 tl:@N _ E (.v 25)=@N _ E (.f 206 eh)
 td:@N _ E (.v 26)=@N _ E (.f 207 eh)
 tb:@N _ E (.v 27)=@N _ E (.f 208 eh)
 node:@N _ E (.v 28)=@N _ E (.f 209 eh)
 part:@N _ E (.v 29)=@N _ E (.f 210 eh)
 made:@N _ E (.v 41)=@N _ E (.f 211 eh)
 zl:@N _ E (.v 51)=@N _ E (.f 212 eh)
 zd:@N _ E (.v 52)=@N _ E (.f 213 eh)
 zb:@N _ E (.v 53)=@N _ E (.f 214 eh)
 left:@N _ E (.v 54)=@N _ E (.f 215 eh)
 st:@N _ E x=@N _ E (.f 216 eh)
 cp:@D _ E (.v 20)=@D _ E (.f 220 eh)
 rb:@D _ E (.v 22)=@D _ E (.f 221 eh)
 rl:@D _ E (.v 23)=@D _ E (.f 222 eh)
 rd:@D _ E (.v 24)=@D _ E (.f 223 eh)
 dL:@D _ E (.v 40)=@D _ E (.f 224 eh)
 out:@D _ E (.v 6)=@D _ E (.f 225 eh)
theorem stop (x:X) (hx:1<=N x/\N x<=4) (h:(s0 E).next=(false,{s0 E with st:=N x})):Stop E x:=by
 have e:(s0 E).fin={s0 E with st:=N x}:=Lz.auk h
 have n:∀(lo hi:Int) (i:Nat),i < 32->lo<=({s0 E with st:=N x}:Lz.ak).num i->({s0 E with st:=N x}:Lz.ak).num i<=hi->({s0 E with st:=N x}:Lz.ak).num i=Lz.gN lo hi i (Lz.Dp (s0 E)):=λlo hi i h1 h2 h3=>by unfold Lz.Dp; rw[e]; exact (Lz.lg h1 h2 h3).symm
 have r:∀(lo hi:Int) (j:Nat),j < 6->(∀q,lo<=({s0 E with st:=N x}:Lz.ak).row j q/\({s0 E with st:=N x}:Lz.ak).row j q<=hi)->({s0 E with st:=N x}:Lz.ak).row j=Lz.gR lo hi j (Lz.Dp (s0 E)):=λlo hi j h1 h2=>by unfold Lz.Dp; rw[e]; exact (Lz.Dq h1 h2).symm
 exact⟨n _ _ 0 dc (hF.b 1 rfl).1 (hF.b 1 rfl).2,n _ _ 1 dc (hF.b 2 rfl).1 (hF.b 2 rfl).2,n _ _ 2 dc (hF.b 3 rfl).1 (hF.b 3 rfl).2,n _ _ 3 dc (hF.b 4 rfl).1 (hF.b 4 rfl).2,n _ _ 4 dc (hF.b 5 rfl).1 (hF.b 5 rfl).2,n _ _ 5 dc (hF.b 21 rfl).1 (hF.b 21 rfl).2,n _ _ 6 dc (hF.b 25 rfl).1 (hF.b 25 rfl).2,n _ _ 7 dc (hF.b 26 rfl).1 (hF.b 26 rfl).2,n _ _ 8 dc (hF.b 27 rfl).1 (hF.b 27 rfl).2,n _ _ 9 dc (hF.b 28 rfl).1 (hF.b 28 rfl).2,n _ _ 10 dc (hF.b 29 rfl).1 (hF.b 29 rfl).2,n _ _ 11 dc (hF.b 41 rfl).1 (hF.b 41 rfl).2,n _ _ 12 dc (hF.b 51 rfl).1 (hF.b 51 rfl).2,n _ _ 13 dc (hF.b 52 rfl).1 (hF.b 52 rfl).2,n _ _ 14 dc (hF.b 53 rfl).1 (hF.b 53 rfl).2,n _ _ 15 dc (hF.b 54 rfl).1 (hF.b 54 rfl).2,n _ _ 16 dc hx.1 hx.2,r _ _ 0 dc (hF.vb 20 _ _ rfl),r _ _ 1 dc (hF.vb 22 _ _ rfl),r _ _ 2 dc (hF.vb 23 _ _ rfl),r _ _ 3 dc (hF.vb 24 _ _ rfl),r _ _ 4 dc (hF.vb 40 _ _ rfl),r _ _ 5 dc (hF.vb 6 _ _ rfl)⟩
omit hF
abbrev M1:X:=BS 3
theorem G0 {H:Prop} (k:H->ah dx.fa.fx) (h:(((H/\¬N (.v 55)=3)/\¬N (.v 55)=4)/\0 < N (.v 3))/\¬N (.v 4)=N (.v 62)):n6 E {s0 E with c:=N Jk,ax:=N M1,used:=N EG}:=by
 obtain⟨⟨⟨⟨hF,c1⟩,c2⟩,c3⟩,c4⟩:=h
 have hF:=k hF
 exact pa hF ((Lz.ay1 c1 c2 c3 c4).trans (congrArg (Prod.mk true) ((oo (c:=atP hF)))))
abbrev M2:X:=nE 5
abbrev aKI:X:=tq 40 41 MR Jd
theorem OR {H:Prop} (k:H->ah dx.fa.fx) (h:((((((H/\¬N (.v 55)=3)/\¬N (.v 55)=4)/\N (.v 3)<=0)/\N (.v 1) < N (.v 2))/\0 < N (.v 54))/\N (.v 5) < 128)/\0 < N (.v 51)):n6 E {s0 E with ol:=N M2,out:=D (tq 6 5 MR ae),dL:=D aKI,made:=N rX,left:=N Jh}:=by
 obtain⟨⟨⟨⟨⟨⟨⟨hF,c1⟩,c2⟩,c3⟩,c4⟩,c5⟩,c6⟩,c7⟩:=h
 have hF:=k hF
 exact pa hF ((Lz.agY c1 c2 c3 c4 c5 c6).trans (congrArg (Prod.mk true) ((oo (out:=aDI (if_pos c7)) (dL:=aDJ hF (if_pos c7))))))
abbrev aKJ:X:=lD (.v 53)
abbrev aKK:X:=.o3 0 (.v 6) (.v 5) aKJ
theorem OS {H:Prop} (k:H->ah dx.fa.fx) (h:((((((H/\¬N (.v 55)=3)/\¬N (.v 55)=4)/\N (.v 3)<=0)/\N (.v 1) < N (.v 2))/\0 < N (.v 54))/\N (.v 5) < 128)/\N (.v 51)<=0):n6 E {s0 E with ol:=N M2,out:=D aKK,dL:=D ao3,made:=N rX,zl:=N ae,zd:=N ae,left:=N Jh}:=by
 obtain⟨⟨⟨⟨⟨⟨⟨hF,c1⟩,c2⟩,c3⟩,c4⟩,c5⟩,c6⟩,c7⟩:=h
 have hF:=k hF
 exact pa hF ((Lz.agY c1 c2 c3 c4 c5 c6).trans (congrArg (Prod.mk true) ((oo (out:=aDI (if_neg (T8.2 c7))) (dL:=aDJ hF (if_neg (T8.2 c7))) (zl:=(avq hF c2 c5 c7).1) (zd:=(avq hF c2 c5 c7).2)))))
theorem AF {H:Prop} (k:H->ah dx.fa.fx) (h:((((((H/\¬N (.v 55)=3)/\¬N (.v 55)=4)/\N (.v 3)<=0)/\N (.v 1) < N (.v 2))/\N (.v 54)<=0)/\N (.v 41)=N (.v 50))/\N (.v 1)=0):n6 E {s0 E with st:=N cq}:=by
 obtain⟨⟨⟨⟨⟨⟨⟨hF,c1⟩,c2⟩,c3⟩,c4⟩,c5⟩,c6⟩,c7⟩:=h
 have hF:=k hF
 exact pa hF ((Lz.agX c1 c2 c3 c4 c5 c6).trans (congrArg (Prod.mk true) ((oo (st:=if_pos c7)))))
theorem AG {H:Prop} (k:H->ah dx.fa.fx) (h:((((((H/\¬N (.v 55)=3)/\¬N (.v 55)=4)/\N (.v 3)<=0)/\N (.v 1) < N (.v 2))/\N (.v 54)<=0)/\N (.v 41)=N (.v 50))/\¬N (.v 1)=0):n6 E {s0 E with st:=N bM}:=by
 obtain⟨⟨⟨⟨⟨⟨⟨hF,c1⟩,c2⟩,c3⟩,c4⟩,c5⟩,c6⟩,c7⟩:=h
 have hF:=k hF
 exact pa hF ((Lz.agX c1 c2 c3 c4 c5 c6).trans (congrArg (Prod.mk true) ((oo (st:=if_neg c7)))))
abbrev aKL:X:=j8 xG BU
abbrev aKM:X:=.f 11 (di xG BU)
theorem AH {H:Prop} (k:H->ah dx.fa.fx) (h:((((((H/\¬N (.v 55)=3)/\¬N (.v 55)=4)/\N (.v 3)<=0)/\N (.v 1) < N (.v 2))/\N (.v 54)<=0)/\¬N (.v 41)=N (.v 50))/\N (.v 29)=0):n6 E {s0 E with c:=N Se,w:=N (.f 14 aKL),ax:=N (.f 17 aKL),cp:=D (tq 20 21 aKM ET),bh:=N BU,tl:=N ae,td:=N ae,tb:=N ae,node:=N aj,part:=N (.o3 1 (rS BU) bA aj),left:=N ae}:=by
 obtain⟨⟨⟨⟨⟨⟨⟨hF,c1⟩,c2⟩,c3⟩,c4⟩,c5⟩,c6⟩,c7⟩:=h
 have hF:=k hF
 exact pa hF ((Lz.wO c1 c2 c3 c4 c5 c6).trans (congrArg (Prod.mk true) ((Lz.akW c7).trans (oo (cp:=aTx hF aKM) (part:=aTz BU)))))
abbrev apf:X:=kL EU
abbrev aaM:X:=.f 90 apf
abbrev aaN:X:=j8 EU aaM
abbrev aKN:X:=.f 32 (bL 22 cV (eZ 28 aaM))
theorem AD {H:Prop} (k:H->ah dx.fa.fx) (h:((((((((H/\¬N (.v 55)=3)/\¬N (.v 55)=4)/\N (.v 3)<=0)/\N (.v 1) < N (.v 2))/\N (.v 54)<=0)/\¬N (.v 41)=N (.v 50))/\¬N (.v 29)=0)/\N (.v 29)=1)/\N (.v 28) < 128):n6 E {s0 E with c:=N (.f 91 apf),w:=N (.f 14 aaN),ax:=N (.f 17 aaN),rb:=D aKN,tl:=N ae,td:=N ae,node:=N (xI aaM),part:=N aj,left:=N ae}:=by
 obtain⟨⟨⟨⟨⟨⟨⟨⟨⟨hF,c1⟩,c2⟩,c3⟩,c4⟩,c5⟩,c6⟩,c7⟩,c8⟩,c9⟩:=h
 have hF:=k hF
 exact pa hF ((Lz.wO c1 c2 c3 c4 c5 c6).trans (congrArg (Prod.mk true) ((Lz.aEI c7 c8 c9).trans (oo (tl:=((kf hF c2).2.2.1 c8).1) (td:=((kf hF c2).2.2.1 c8).2)))))
abbrev aKO:X:=zP aaM Sh
theorem AE {H:Prop} (k:H->ah dx.fa.fx) (h:((((((((H/\¬N (.v 55)=3)/\¬N (.v 55)=4)/\N (.v 3)<=0)/\N (.v 1) < N (.v 2))/\N (.v 54)<=0)/\¬N (.v 41)=N (.v 50))/\¬N (.v 29)=0)/\N (.v 29)=1)/\128<=N (.v 28)):n6 E {s0 E with c:=N (.f 91 apf),w:=N (.f 14 aaN),ax:=N (.f 17 aaN),rb:=D aKN,tl:=N ae,td:=N ae,tb:=N aKO,node:=N aj,part:=N ae,zl:=N ae,zd:=N ae,zb:=N aKO,left:=N aj}:=by
 obtain⟨⟨⟨⟨⟨⟨⟨⟨⟨hF,c1⟩,c2⟩,c3⟩,c4⟩,c5⟩,c6⟩,c7⟩,c8⟩,c9⟩:=h
 have hF:=k hF
 exact pa hF ((Lz.wO c1 c2 c3 c4 c5 c6).trans (congrArg (Prod.mk true) ((Lz.aEJ c7 c8 c9).trans (oo))))
abbrev apg:X:=kL ES
abbrev aaO:X:=.f 90 apg
abbrev aaP:X:=j8 ES aaO
abbrev aKP:X:=.f 32 (bL 23 cV (eZ 28 aaO))
theorem AI {H:Prop} (k:H->ah dx.fa.fx) (h:(((((((((H/\¬N (.v 55)=3)/\¬N (.v 55)=4)/\N (.v 3)<=0)/\N (.v 1) < N (.v 2))/\N (.v 54)<=0)/\¬N (.v 41)=N (.v 50))/\¬N (.v 29)=0)/\¬N (.v 29)=1)/\N (.v 29)=2)/\N (.v 28) < 128):n6 E {s0 E with c:=N (.f 91 apg),w:=N (.f 14 aaP),ax:=N (.f 17 aaP),rl:=D aKP,node:=N (xI aaO),part:=N bA,left:=N ae}:=by
 obtain⟨⟨⟨⟨⟨⟨⟨⟨⟨⟨hF,c1⟩,c2⟩,c3⟩,c4⟩,c5⟩,c6⟩,c7⟩,c8⟩,c9⟩,c10⟩:=h
 have hF:=k hF
 exact pa hF ((Lz.wO c1 c2 c3 c4 c5 c6).trans (congrArg (Prod.mk true) ((Lz.aEK c7 c8 c9 c10).trans (oo))))
theorem AJ {H:Prop} (k:H->ah dx.fa.fx) (h:(((((((((H/\¬N (.v 55)=3)/\¬N (.v 55)=4)/\N (.v 3)<=0)/\N (.v 1) < N (.v 2))/\N (.v 54)<=0)/\¬N (.v 41)=N (.v 50))/\¬N (.v 29)=0)/\¬N (.v 29)=1)/\N (.v 29)=2)/\128<=N (.v 28)):n6 E {s0 E with c:=N (.f 91 apg),w:=N (.f 14 aaP),ax:=N (.f 17 aaP),rl:=D aKP,tl:=N (zP aaO Sj),node:=N aj,part:=N cq,left:=N ae}:=by
 obtain⟨⟨⟨⟨⟨⟨⟨⟨⟨⟨hF,c1⟩,c2⟩,c3⟩,c4⟩,c5⟩,c6⟩,c7⟩,c8⟩,c9⟩,c10⟩:=h
 have hF:=k hF
 exact pa hF ((Lz.wO c1 c2 c3 c4 c5 c6).trans (congrArg (Prod.mk true) ((Lz.aEL c7 c8 c9 c10).trans (oo))))
abbrev aph:X:=kL E0
abbrev E3:X:=.f 90 aph
abbrev aaQ:X:=j8 E0 E3
abbrev aKQ:X:=.f 32 (bL 24 aU (eZ 28 E3))
theorem AO {H:Prop} (k:H->ah dx.fa.fx) (h:((((((((((H/\¬N (.v 55)=3)/\¬N (.v 55)=4)/\N (.v 3)<=0)/\N (.v 1) < N (.v 2))/\N (.v 54)<=0)/\¬N (.v 41)=N (.v 50))/\¬N (.v 29)=0)/\¬N (.v 29)=1)/\¬N (.v 29)=2)/\N (.v 29)=3)/\N (.v 28) < 32):n6 E {s0 E with c:=N (.f 91 aph),w:=N (.f 14 aaQ),ax:=N (.f 17 aaQ),rd:=D aKQ,node:=N (xI E3),part:=N cq,left:=N ae}:=by
 obtain⟨⟨⟨⟨⟨⟨⟨⟨⟨⟨⟨hF,c1⟩,c2⟩,c3⟩,c4⟩,c5⟩,c6⟩,c7⟩,c8⟩,c9⟩,c10⟩,c11⟩:=h
 have hF:=k hF
 exact pa hF ((Lz.wO c1 c2 c3 c4 c5 c6).trans (congrArg (Prod.mk true) ((Lz.aEO c7 c8 c9 c10 c11).trans (oo))))
theorem AP {H:Prop} (k:H->ah dx.fa.fx) (h:((((((((((H/\¬N (.v 55)=3)/\¬N (.v 55)=4)/\N (.v 3)<=0)/\N (.v 1) < N (.v 2))/\N (.v 54)<=0)/\¬N (.v 41)=N (.v 50))/\¬N (.v 29)=0)/\¬N (.v 29)=1)/\¬N (.v 29)=2)/\N (.v 29)=3)/\32<=N (.v 28)):n6 E {s0 E with c:=N (.f 91 aph),w:=N (.f 14 aaQ),ax:=N (.f 17 aaQ),rd:=D aKQ,td:=N (qw E3 aU Sk),node:=N aj,part:=N bM,left:=N ae}:=by
 obtain⟨⟨⟨⟨⟨⟨⟨⟨⟨⟨⟨hF,c1⟩,c2⟩,c3⟩,c4⟩,c5⟩,c6⟩,c7⟩,c8⟩,c9⟩,c10⟩,c11⟩:=h
 have hF:=k hF
 exact pa hF ((Lz.wO c1 c2 c3 c4 c5 c6).trans (congrArg (Prod.mk true) ((Lz.aEP c7 c8 c9 c10 c11).trans (oo))))
theorem AL {H:Prop} (k:H->ah dx.fa.fx) (h:((((((((((H/\¬N (.v 55)=3)/\¬N (.v 55)=4)/\N (.v 3)<=0)/\N (.v 1) < N (.v 2))/\N (.v 54)<=0)/\¬N (.v 41)=N (.v 50))/\¬N (.v 29)=0)/\¬N (.v 29)=1)/\¬N (.v 29)=2)/\¬N (.v 29)=3)/\N (.v 28) < 32):n6 E {s0 E with c:=N nL,w:=N rT,ax:=N mQ,node:=N aaE,part:=N bM,left:=N ae}:=by
 obtain⟨⟨⟨⟨⟨⟨⟨⟨⟨⟨⟨hF,c1⟩,c2⟩,c3⟩,c4⟩,c5⟩,c6⟩,c7⟩,c8⟩,c9⟩,c10⟩,c11⟩:=h
 have hF:=k hF
 exact pa hF ((Lz.wO c1 c2 c3 c4 c5 c6).trans (congrArg (Prod.mk true) ((Lz.aEM c7 c8 c9 c10 c11).trans (oo))))
abbrev aaR:X:=xD Sr (xD (EH 41 B0) aaK)
theorem AN {H:Prop} (k:H->ah dx.fa.fx) (h:(((((((((((H/\¬N (.v 55)=3)/\¬N (.v 55)=4)/\N (.v 3)<=0)/\N (.v 1) < N (.v 2))/\N (.v 54)<=0)/\¬N (.v 41)=N (.v 50))/\¬N (.v 29)=0)/\¬N (.v 29)=1)/\¬N (.v 29)=2)/\¬N (.v 29)=3)/\32<=N (.v 28))/\decide (N aaR≠0)=false):n6 E {s0 E with c:=N nL,w:=N rT,ax:=N mQ,td:=N B0,node:=N aj,part:=N ae,zl:=N (.v 25),zd:=N B0,zb:=N (.v 27),left:=N (.v 25),st:=N bM}:=by
 obtain⟨⟨⟨⟨⟨⟨⟨⟨⟨⟨⟨⟨hF,c1⟩,c2⟩,c3⟩,c4⟩,c5⟩,c6⟩,c7⟩,c8⟩,c9⟩,c10⟩,c11⟩,c12⟩:=h
 have hF:=k hF
 exact pa hF ((Lz.wO c1 c2 c3 c4 c5 c6).trans (congrArg (Prod.mk true) ((Lz.a9P c7 c8 c9 c10 c11 (λk=>aZS c12 k)).trans (oo))))
theorem AM {H:Prop} (k:H->ah dx.fa.fx) (h:(((((((((((H/\¬N (.v 55)=3)/\¬N (.v 55)=4)/\N (.v 3)<=0)/\N (.v 1) < N (.v 2))/\N (.v 54)<=0)/\¬N (.v 41)=N (.v 50))/\¬N (.v 29)=0)/\¬N (.v 29)=1)/\¬N (.v 29)=2)/\¬N (.v 29)=3)/\32<=N (.v 28))/\decide (N aaR≠0)=true):n6 E {s0 E with c:=N nL,w:=N rT,ax:=N mQ,td:=N B0,node:=N aj,part:=N ae,zl:=N (.v 25),zd:=N B0,zb:=N (.v 27),left:=N (.v 25)}:=by
 obtain⟨⟨⟨⟨⟨⟨⟨⟨⟨⟨⟨⟨hF,c1⟩,c2⟩,c3⟩,c4⟩,c5⟩,c6⟩,c7⟩,c8⟩,c9⟩,c10⟩,c11⟩,c12⟩:=h
 have hF:=k hF
 exact pa hF ((Lz.wO c1 c2 c3 c4 c5 c6).trans (congrArg (Prod.mk true) ((Lz.aEN c7 c8 c9 c10 c11 (aZT c12)).trans (oo))))
theorem AK {H:Prop} (k:H->ah dx.fa.fx) (h:(((H/\¬N (.v 55)=3)/\¬N (.v 55)=4)/\N (.v 3)<=0)/\N (.v 2)<=N (.v 1)):n6 E {s0 E with st:=N bM}:=by
 obtain⟨⟨⟨⟨hF,c1⟩,c2⟩,c3⟩,c4⟩:=h
 have hF:=k hF
 exact pa hF ((Lz.a0t c1 c2 c3 c4).trans (congrArg (Prod.mk true) ((oo))))
theorem Kf {H:Prop} (k:H->ah dx.fa.fx) (h:(((H/\¬N (.v 55)=3)/\¬N (.v 55)=4)/\0 < N (.v 3))/\¬N (.v 4)=N (.v 62)):0<=((N (.v 62) - N (.v 4)) - 1)/\0<=(N Jk - 0)/\0<=(4294967295 - N Jk):=by
 obtain⟨⟨⟨⟨hF,c1⟩,c2⟩,c3⟩,c4⟩:=h
 have hF:=k hF
 have b:=bf hF
 have kk:=kf hF c2
 have g:=gf hF
 have e:=Lz.atQ (XJ hF) (akE hF) c2 c3 c4
 have e1:=e.2.2.2
 have e2:(s0 E).i5.c=N Jk:=atP hF
 rw[e2] at e1
 omega
theorem C0 {H:Prop} (k:H->ah dx.fa.fx) (h:((((((H/\¬N (.v 55)=3)/\¬N (.v 55)=4)/\N (.v 3)<=0)/\N (.v 1) < N (.v 2))/\0 < N (.v 54))/\N (.v 5) < 128)/\0 < N (.v 51)):0<=((N (.v 50) - N (.v 41)) - N (.v 54))/\0<=(N (.v 51) - 2)/\0<=(N (.v 52) - 1)/\0<=(N (.v 41) - N (.v 52)):=by
 obtain⟨⟨⟨⟨⟨⟨⟨hF,c1⟩,c2⟩,c3⟩,c4⟩,c5⟩,c6⟩,c7⟩:=h
 have hF:=k hF
 have b:=bf hF
 have kk:=kf hF c2
 have g:=gf hF
 omega
theorem Kh {H:Prop} (k:H->ah dx.fa.fx) (h:((((((H/\¬N (.v 55)=3)/\¬N (.v 55)=4)/\N (.v 3)<=0)/\N (.v 1) < N (.v 2))/\0 < N (.v 54))/\N (.v 5) < 128)/\N (.v 51)<=0):0<=((N (.v 50) - N (.v 41)) - N (.v 54))/\0<=(N (.v 52) - 0)/\0<=(0 - N (.v 52)):=by
 obtain⟨⟨⟨⟨⟨⟨⟨hF,c1⟩,c2⟩,c3⟩,c4⟩,c5⟩,c6⟩,c7⟩:=h
 have hF:=k hF
 have b:=bf hF
 have kk:=kf hF c2
 have g:=gf hF
 omega
theorem Ki {H:Prop} (k:H->ah dx.fa.fx) (h:((((((H/\¬N (.v 55)=3)/\¬N (.v 55)=4)/\N (.v 3)<=0)/\N (.v 1) < N (.v 2))/\N (.v 54)<=0)/\¬N (.v 41)=N (.v 50))/\N (.v 29)=0):0<=((N (.v 50) - N (.v 41)) - 1)/\0<=(N (.v 28) - 1)/\0<=(1 - N (.v 28)):=by
 obtain⟨⟨⟨⟨⟨⟨⟨hF,c1⟩,c2⟩,c3⟩,c4⟩,c5⟩,c6⟩,c7⟩:=h
 have hF:=k hF
 have b:=bf hF
 have kk:=kf hF c2
 have g:=gf hF
 omega
theorem Kj {H:Prop} (k:H->ah dx.fa.fx) (h:((((((((H/\¬N (.v 55)=3)/\¬N (.v 55)=4)/\N (.v 3)<=0)/\N (.v 1) < N (.v 2))/\N (.v 54)<=0)/\¬N (.v 41)=N (.v 50))/\¬N (.v 29)=0)/\N (.v 29)=1)/\N (.v 28) < 128):0<=((N (.v 50) - N (.v 41)) - 1)/\0<=(0 - N (.v 25))/\0<=(0 - N (.v 26)):=by
 obtain⟨⟨⟨⟨⟨⟨⟨⟨⟨hF,c1⟩,c2⟩,c3⟩,c4⟩,c5⟩,c6⟩,c7⟩,c8⟩,c9⟩:=h
 have hF:=k hF
 have b:=bf hF
 have kk:=kf hF c2
 have g:=gf hF
 omega
theorem C4 {H:Prop} (k:H->ah dx.fa.fx) (h:((((((((H/\¬N (.v 55)=3)/\¬N (.v 55)=4)/\N (.v 3)<=0)/\N (.v 1) < N (.v 2))/\N (.v 54)<=0)/\¬N (.v 41)=N (.v 50))/\¬N (.v 29)=0)/\N (.v 29)=1)/\128<=N (.v 28)):0<=((N (.v 50) - N (.v 41)) - 1)/\0<=(0 - N (.v 25))/\0<=(0 - N (.v 26))/\0<=(255 - N (.v 28)):=by
 obtain⟨⟨⟨⟨⟨⟨⟨⟨⟨hF,c1⟩,c2⟩,c3⟩,c4⟩,c5⟩,c6⟩,c7⟩,c8⟩,c9⟩:=h
 have hF:=k hF
 have b:=bf hF
 have kk:=kf hF c2
 have g:=gf hF
 omega
theorem a_6 {H:Prop} (k:H->ah dx.fa.fx) (h:(((((((((H/\¬N (.v 55)=3)/\¬N (.v 55)=4)/\N (.v 3)<=0)/\N (.v 1) < N (.v 2))/\N (.v 54)<=0)/\¬N (.v 41)=N (.v 50))/\¬N (.v 29)=0)/\¬N (.v 29)=1)/\N (.v 29)=2)/\N (.v 28) < 128):0<=((N (.v 50) - N (.v 41)) - 1):=by
 obtain⟨⟨⟨⟨⟨⟨⟨⟨⟨⟨hF,c1⟩,c2⟩,c3⟩,c4⟩,c5⟩,c6⟩,c7⟩,c8⟩,c9⟩,c10⟩:=h
 have hF:=k hF
 have b:=bf hF
 have kk:=kf hF c2
 have g:=gf hF
 omega
theorem Ux {H:Prop} (k:H->ah dx.fa.fx) (h:(((((((((H/\¬N (.v 55)=3)/\¬N (.v 55)=4)/\N (.v 3)<=0)/\N (.v 1) < N (.v 2))/\N (.v 54)<=0)/\¬N (.v 41)=N (.v 50))/\¬N (.v 29)=0)/\¬N (.v 29)=1)/\N (.v 29)=2)/\128<=N (.v 28)):0<=((N (.v 50) - N (.v 41)) - 1)/\0<=(255 - N (.v 28)):=by
 obtain⟨⟨⟨⟨⟨⟨⟨⟨⟨⟨hF,c1⟩,c2⟩,c3⟩,c4⟩,c5⟩,c6⟩,c7⟩,c8⟩,c9⟩,c10⟩:=h
 have hF:=k hF
 have b:=bf hF
 have kk:=kf hF c2
 have g:=gf hF
 omega
theorem Uy {H:Prop} (k:H->ah dx.fa.fx) (h:((((((((((H/\¬N (.v 55)=3)/\¬N (.v 55)=4)/\N (.v 3)<=0)/\N (.v 1) < N (.v 2))/\N (.v 54)<=0)/\¬N (.v 41)=N (.v 50))/\¬N (.v 29)=0)/\¬N (.v 29)=1)/\¬N (.v 29)=2)/\N (.v 29)=3)/\N (.v 28) < 32):0<=((N (.v 50) - N (.v 41)) - 1)/\0<=(N (.v 25) - 2):=by
 obtain⟨⟨⟨⟨⟨⟨⟨⟨⟨⟨⟨hF,c1⟩,c2⟩,c3⟩,c4⟩,c5⟩,c6⟩,c7⟩,c8⟩,c9⟩,c10⟩,c11⟩:=h
 have hF:=k hF
 have b:=bf hF
 have kk:=kf hF c2
 have g:=gf hF
 omega
theorem yx {H:Prop} (k:H->ah dx.fa.fx) (h:((((((((((H/\¬N (.v 55)=3)/\¬N (.v 55)=4)/\N (.v 3)<=0)/\N (.v 1) < N (.v 2))/\N (.v 54)<=0)/\¬N (.v 41)=N (.v 50))/\¬N (.v 29)=0)/\¬N (.v 29)=1)/\¬N (.v 29)=2)/\N (.v 29)=3)/\32<=N (.v 28)):0<=((N (.v 50) - N (.v 41)) - 1)/\0<=(N (.v 25) - 2)/\0<=(63 - N (.v 28))/\0<=(((N E3*64)+((N (.v 28)*128)+(-4096))) - 0)/\0<=(4096 - ((N E3*64)+((N (.v 28)*128)+(-4096)))):=by
 obtain⟨⟨⟨⟨⟨⟨⟨⟨⟨⟨⟨hF,c1⟩,c2⟩,c3⟩,c4⟩,c5⟩,c6⟩,c7⟩,c8⟩,c9⟩,c10⟩,c11⟩:=h
 have hF:=k hF
 have b:=bf hF
 have kk:=kf hF c2
 have g:=gf hF
 have d0:0<=N E3/\N E3<=1:=Lz.aeF _ _ _
 omega
theorem Kg {H:Prop} (k:H->ah dx.fa.fx) (h:((((((((((H/\¬N (.v 55)=3)/\¬N (.v 55)=4)/\N (.v 3)<=0)/\N (.v 1) < N (.v 2))/\N (.v 54)<=0)/\¬N (.v 41)=N (.v 50))/\¬N (.v 29)=0)/\¬N (.v 29)=1)/\¬N (.v 29)=2)/\¬N (.v 29)=3)/\N (.v 28) < 32):0<=((N (.v 50) - N (.v 41)) - 1)/\0<=(N (.v 25) - 2)/\0<=(N (.v 29) - 4):=by
 obtain⟨⟨⟨⟨⟨⟨⟨⟨⟨⟨⟨hF,c1⟩,c2⟩,c3⟩,c4⟩,c5⟩,c6⟩,c7⟩,c8⟩,c9⟩,c10⟩,c11⟩:=h
 have hF:=k hF
 have b:=bf hF
 have kk:=kf hF c2
 have g:=gf hF
 omega
theorem C1 {H:Prop} (k:H->ah dx.fa.fx) (h:((((((((((H/\¬N (.v 55)=3)/\¬N (.v 55)=4)/\N (.v 3)<=0)/\N (.v 1) < N (.v 2))/\N (.v 54)<=0)/\¬N (.v 41)=N (.v 50))/\¬N (.v 29)=0)/\¬N (.v 29)=1)/\¬N (.v 29)=2)/\¬N (.v 29)=3)/\32<=N (.v 28)):0<=((N (.v 50) - N (.v 41)) - 1)/\0<=(N (.v 25) - 2)/\0<=(N (.v 29) - 4)/\0<=(63 - N (.v 28)):=by
 obtain⟨⟨⟨⟨⟨⟨⟨⟨⟨⟨⟨hF,c1⟩,c2⟩,c3⟩,c4⟩,c5⟩,c6⟩,c7⟩,c8⟩,c9⟩,c10⟩,c11⟩:=h
 have hF:=k hF
 have b:=bf hF
 have kk:=kf hF c2
 have g:=gf hF
 omega
theorem C2 {H:Prop} (k:H->ah dx.fa.fx) (h:(((((((((((H/\¬N (.v 55)=3)/\¬N (.v 55)=4)/\N (.v 3)<=0)/\N (.v 1) < N (.v 2))/\N (.v 54)<=0)/\¬N (.v 41)=N (.v 50))/\¬N (.v 29)=0)/\¬N (.v 29)=1)/\¬N (.v 29)=2)/\¬N (.v 29)=3)/\32<=N (.v 28))/\decide (N aaR≠0)=false):0<=((N (.v 26)+(N oF+((N (.v 28)*2)+(-63)))) - 0)/\0<=(4096 - (N (.v 26)+(N oF+((N (.v 28)*2)+(-63)))))/\0<=((N (.v 26)+(N oF+((N (.v 28)*2)+(-63)))) - 0)/\0<=(4096 - (N (.v 26)+(N oF+((N (.v 28)*2)+(-63))))):=by
 obtain⟨⟨⟨⟨⟨⟨⟨⟨⟨⟨⟨⟨hF,c1⟩,c2⟩,c3⟩,c4⟩,c5⟩,c6⟩,c7⟩,c8⟩,c9⟩,c10⟩,c11⟩,c12⟩:=h
 have hF:=k hF
 have b:=bf hF
 have kk:=kf hF c2
 have g:=gf hF
 have d0:0<=N oF/\N oF<=1:=Lz.UU _ _
 omega
theorem C3 {H:Prop} (k:H->ah dx.fa.fx) (h:(((((((((((H/\¬N (.v 55)=3)/\¬N (.v 55)=4)/\N (.v 3)<=0)/\N (.v 1) < N (.v 2))/\N (.v 54)<=0)/\¬N (.v 41)=N (.v 50))/\¬N (.v 29)=0)/\¬N (.v 29)=1)/\¬N (.v 29)=2)/\¬N (.v 29)=3)/\32<=N (.v 28))/\decide (N aaR≠0)=true):0<=((N (.v 26)+(N oF+((N (.v 28)*2)+(-63)))) - 0)/\0<=(4096 - (N (.v 26)+(N oF+((N (.v 28)*2)+(-63)))))/\0<=((N (.v 26)+(N oF+((N (.v 28)*2)+(-63)))) - 0)/\0<=(4096 - (N (.v 26)+(N oF+((N (.v 28)*2)+(-63))))):=by
 obtain⟨⟨⟨⟨⟨⟨⟨⟨⟨⟨⟨⟨hF,c1⟩,c2⟩,c3⟩,c4⟩,c5⟩,c6⟩,c7⟩,c8⟩,c9⟩,c10⟩,c11⟩,c12⟩:=h
 have hF:=k hF
 have b:=bf hF
 have kk:=kf hF c2
 have g:=gf hF
 have d0:0<=N oF/\N oF<=1:=Lz.UU _ _
 omega
end
theorem bK {E:Env} {x y:X} (h:N x=N y):D (.o2 0 x ae)=D (.o2 0 y ae):=aD h
theorem ix {E:Env} {x y:X} (n:X) (h:D x=D y):D (.o3 0 x n ae)=D (.o3 0 y n ae):=aq (λq _=>by rw[h]) _
theorem x1 {E:Env} {H:Prop} (k:H->ah dx.fa.fx) (h:H/\N (.v 55)=3):Stop E (.v 55):=stop (k h.1) _ ((k h.1).b 55 rfl) (Lz.ay0 h.2)
theorem x2 {E:Env} {H:Prop} (k:H->ah dx.fa.fx) (h:(H/\¬N (.v 55)=3)/\N (.v 55)=4):Stop E (.v 55):=stop (k h.1.1) _ ((k h.1.1).b 55 rfl) (Lz.a0s h.1.2 h.2)
theorem x4 {E:Env} {H:Prop} (k:H->ah dx.fa.fx) (h:(((H/\¬N (.v 55)=3)/\¬N (.v 55)=4)/\0 < N (.v 3))/\N (.v 4)=N (.v 62)):Stop E aj:=stop (k h.1.1.1.1) aj ⟨show (1:Int)<=1 by decide,show (1:Int)<=4 by decide⟩ (Lz.a0u h.1.1.1.2 h.1.1.2 h.1.2 h.2)
theorem x6 {E:Env} {H:Prop} (k:H->ah dx.fa.fx) (h:(((((H/\¬N (.v 55)=3)/\¬N (.v 55)=4)/\N (.v 3)<=0)/\N (.v 1) < N (.v 2))/\0 < N (.v 54))/\128<=N (.v 5)):Stop E bA:=stop (k h.1.1.1.1.1.1) bA ⟨show (1:Int)<=2 by decide,show (2:Int)<=4 by decide⟩ (Lz.ay2 h.1.1.1.1.1.2 h.1.1.1.1.2 h.1.1.1.2 h.1.1.2 h.1.2 h.2)
def lX:Fa->Bool:=XU [(295,bG (av PZ) (av PY)),(297,bG (av Qd) (bG (av Qe) (bG (av Qf) (bG (av Qg) (bG (av Qh) (bG (av Qi) (bG (av Qj) (bG (av Qk) (av Ql)))))))))] [] 8 244 3 Tryz.f244 dx
def awP:Fa:=dx.fa
abbrev Ji:X:=fP 4
abbrev api:X:=fP 5
abbrev Jj:X:=fP 41
abbrev apj:X:=fP 51
abbrev apk:X:=fP 52
abbrev apl:X:=fP 53
abbrev apm:X:=fP 54
abbrev St:X:=fP 1
abbrev M0:X:=fP 2
abbrev apd:X:=fP 3
abbrev zU(a:Nat)(b:X):X:=bk (.v a) b
abbrev tB(a b:X):Tr:=.same a b .lf
abbrev mU(a b c d:X)(e:Tr):Tr:=.same a b (.same c d e)
abbrev ape:Tr:=mU St aWi M0 aVO (mU apd aVP (zU 20 bA) aVQ (mU (fP 21) aVR (fP 29) aVS (mU (fP 28) aVT (fP 25) aVU (mU (fP 26) aVV (fP 27) aVW (mU (zU 22 cV) aVX (zU 23 cV) aVY (mU (kP (.v 24)) aVZ (pC (.v 40)) aV0 (tB (iU (.v 6) 5) aV1)))))))
abbrev aKH:Tr:=mU Ji afU api afV (mU Jj afX apj af0 (mU apk af3 apl af6 (mU apm af9 (fP 55) agb ape)))
def axz:Tr:=aKH
abbrev E2(a:Nat)(b:X):X:=.o2 12 (.v a) b
abbrev aaL:X:=E2 55 cq
theorem aVt:cx lX (awP.on aaL true) axz=true:=kr
def awV:Fa:=(awP.on (.o2 12 (.v 55) (.i 3)) false)
def axK:Tr:=aKH
abbrev aa6:X:=E2 55 bM
theorem aVE:cx lX (awV.on aa6 true) axK=true:=kr
def aw3:Fa:=(awV.on (.o2 12 (.v 55) (.i 4)) false)
def aw4:Fa:=(aw3.on (.o2 11 (.i 0) (.v 3)) true)
abbrev zV:X:=ao aj
def axQ:Tr:=mU Ji afU api afV (mU Jj afX apj af0 (mU apk af3 apl af6 (mU apm af9 zV agb ape)))
abbrev M5:X:=E2 4 (.v 62)
theorem aVK:cx lX (aw4.on M5 true) axQ=true:=kr
abbrev aa7:X:=aV2
abbrev aLb:X:=mR (qw (cJ 62 EG) (.i 8589934592) (.v 2)) (.o2 0 (.o2 1 aaF (.o2 2 M1 vE)) fR) E1
abbrev iF(a b c d e:X):X:=dG a b (dG c d e)
abbrev g8(a b:X)(c:Tr):Tr:=.ge a (.ge b c)
abbrev pG(a b c:X)(d:Tr):Tr:=g8 a b (.ge c d)
abbrev Sy(a:X)(b:Tr):Tr:=.is (.f 102 a) true b
def axR:Tr:=.ge (fJ So) (Sy (dG aa7 M1 apb) (pG (rY aa7) (.o2 1 qx aa7) aLb (tB (.f 100 (iF aa7 (.v 2) M1 EG aKk)) Sn)))
theorem aVL:cx lX (aw4.on M5 false) axR=true:=kr
def aw5:Fa:=(aw3.on (.o2 11 (.i 0) (.v 3)) false)
def aw6:Fa:=(aw5.on (.o2 11 (.v 1) (.v 2)) true)
def awQ:Fa:=(aw6.on (.o2 11 (.i 0) (.v 54)) true)
def awR:Fa:=(awQ.on (.o2 11 (.v 5) (.i 128)) true)
abbrev aa8:X:=bz fR 54
abbrev aLc:X:=.f 102 (mm 1 3 28 29 25 26 51 52 (dG rX Jh MV))
abbrev aLd:X:=bL 53 Jh MT
abbrev apq:X:=kK rX 50 (cN 51 52 aLd)
abbrev tD(a b:Nat)(c d:X):X:=cN a b (.c c d)
def axA:Tr:=g8 aa8 aoY (g8 aoZ ao4 (.is aLc true (.ge aw8 (tB (xL 1 2 3 4 (dG M2 (tq 6 5 aw9 ae) (mm 20 21 22 23 24 25 26 27 (tD 28 29 (tq 40 41 aw9 Jd) apq)))) Sn))))
abbrev M6:X:=qu (.v 51)
theorem aVu:cx lX (awR.on M6 true) axA=true:=kr
abbrev aLe:X:=.f 102 (iE 1 3 28 29 (cN 25 26 (iF ae ae rX Jh MV)))
abbrev aLf:X:=mm 20 21 22 23 24 25 26 27 (cN 28 29 (dG ao3 rX (bL 50 ae (.c ae aLd))))
def axB:Tr:=pG aa8 (cJ 52 ae) (bz ae 52) (.is aLe true (.ge aw8 (tB (xL 1 2 3 4 (dG M2 aKK aLf)) Sn)))
theorem aVv:cx lX (awR.on M6 false) axB=true:=kr
def axC:Tr:=mU Ji afU api afV (mU Jj afX apj af0 (mU apk af3 apl af6 (mU apm af9 (ao bA) agb ape)))
theorem aVw:cx lX (awQ.on (lA 5 ef) false) axC=true:=kr
def awS:Fa:=(aw6.on (.o2 11 (.i 0) (.v 54)) false)
def awT:Fa:=(awS.on (.o2 12 (.v 41) (.v 50)) true)
abbrev M7:X:=bj cq
abbrev aLg:X:=.f 102 (mm 1 3 28 29 25 26 51 52 (zF 41 54 50 M7))
abbrev aLh:X:=mm 20 21 22 23 24 25 26 27 (mm 28 29 40 41 50 51 52 53 (bL 54 cq aaG))
abbrev vJ(a b c:X):Tr:=g8 a b (tB c Sn)
def axD:Tr:=.is aLg true (vJ (E4 axa) axa (xL 1 2 3 4 (cN 5 6 aLh)))
theorem aVx:cx lX (awT.on IU true) axD=true:=kr
abbrev aLi:Tr:=.is aV5 true (vJ aV6 axb aV7)
def axE:Tr:=aLi
theorem aVy:cx lX (awT.on IU false) axE=true:=kr
def awU:Fa:=(awS.on (.o2 12 (.v 41) (.v 50)) false)
abbrev rZ(a b c:Nat)(d e:X):X:=cN a b (bL c d e)
abbrev aa9:X:=rZ 51 52 41 ae MV
abbrev pH(a:X):X:=dG ae ae a
abbrev aba:X:=pH aa9
abbrev vG:X:=iE 40 41 50 51 (tD 52 53 ae MT)
abbrev mo(a b c:X)(d:Nat)(e:X):X:=.f 100 (iF a b c (.v d) e)
abbrev nQ(a b c d e:X)(f:Tr):Tr:=Sy (iF a b c d e) f
def axF:Tr:=pG kh Ja (bz aj 28) (nQ axc afZ aj axd aba (vJ (E4 axf) axf (mo axc axe afZ 4 (cN 5 6 (dG (IZ 20 21 apn ET) afY (rZ 22 23 24 ae (iF ae ae aj axd vG)))))))
abbrev aaW:X:=xC (.v 29)
theorem aVz:cx lX (awU.on aaW true) axF=true:=kr
def awW:Fa:=(awU.on (.o2 12 (.v 29) (.i 0)) false)
def awX:Fa:=(awW.on (.o2 12 (.v 29) (.i 1)) true)
abbrev aaX:X:=bz ae 25
abbrev aaY:X:=bz ae 26
abbrev aaZ:X:=aV8
abbrev pD(a:X)(b:Nat)(c d e:X):X:=iF a (.v b) c d e
def axG:Tr:=pG kh aaX aaY (nQ aaZ Sv axh aj aba (vJ axi af2 (mo aaZ af1 Sv 4 (iE 5 6 20 21 (kK axj 23 (bL 24 ae (pD ae 27 axh aj vG)))))))
abbrev vH:X:=lA 28 ef
theorem aVA:cx lX (awX.on vH true) axG=true:=kr
abbrev tC(a b c d:X):X:=iF a b ae c d
abbrev aK5:X:=tC aj ae ae (pH (bL 41 aj MV))
abbrev qB(a b c d:X):X:=dG a b (.c c d)
def axH:Tr:=g8 kh aaX (g8 aaY MN (Sy (dG aaZ Sv aK5) (vJ axi af2 (mo aaZ af1 Sv 4 (iE 5 6 20 21 (kK axj 23 (bL 24 ae (iF ae axk aj ae (rZ 40 41 50 ae (qB ae axk aj MT))))))))))
theorem aVB:cx lX (awX.on vH false) axH=true:=kr
def awY:Fa:=(awW.on (.o2 12 (.v 29) (.i 1)) false)
def awZ:Fa:=(awY.on (.o2 12 (.v 29) (.i 2)) true)
abbrev aa0:X:=aWa
abbrev apo:X:=cy 26 aa9
abbrev M4:X:=cy 25 apo
def axI:Tr:=.ge kh (nQ aa0 Sw axm bA M4 (vJ axn af5 (mo aa0 af4 Sw 4 (iE 5 6 20 21 (bL 22 axo (iE 24 25 26 27 (dG axm bA vG)))))))
theorem aVC:cx lX (awZ.on vH true) axI=true:=kr
abbrev aK6:X:=cN 26 27 (dG aj cq vG)
def axJ:Tr:=g8 kh MN (nQ aa0 Sw aj cq (.c axp apo) (vJ axn af5 (mo aa0 af4 Sw 4 (iE 5 6 20 21 (bL 22 axo (bL 24 axp aK6))))))
theorem aVD:cx lX (awZ.on vH false) axJ=true:=kr
def aw0:Fa:=(awY.on (.o2 12 (.v 29) (.i 2)) false)
def aw1:Fa:=(aw0.on (.o2 12 (.v 29) (.i 3)) true)
abbrev aa1:X:=aWc
def axL:Tr:=g8 kh zS (nQ aa1 Sx axr cq M4 (vJ axs af8 (mo aa1 af7 Sx 4 (iE 5 6 20 21 (cN 22 23 (kK axt 25 (cN 26 27 (dG axr cq vG))))))))
abbrev vI:X:=lA 28 bW
theorem aVF:cx lX (aw1.on vI true) axL=true:=kr
abbrev aa2:X:=aWe
abbrev aK7:X:=bL 27 aj (.c bM vG)
def axM:Tr:=pG kh zS MS (nQ aa1 Sx aj bM (bL 25 aa2 aa9) (g8 (rY aa2) (B3 aa2) (vJ axs af8 (mo aa1 af7 Sx 4 (iE 5 6 20 21 (cN 22 23 (qB axt (.v 25) aa2 aK7)))))))
theorem aVG:cx lX (aw1.on vI false) axM=true:=kr
def aw2:Fa:=(aw0.on (.o2 12 (.v 29) (.i 3)) false)
abbrev aa3:X:=cJ 29 bM
def axN:Tr:=pG kh zS aa3 (nQ nL mQ axu bM M4 (vJ axx aga (mo nL rT mQ 4 (mm 5 6 20 21 22 23 24 25 (cN 26 27 (dG axu bM vG))))))
theorem aVH:cx lX (aw2.on vI true) axN=true:=kr
abbrev aK8:X:=cN 41 25 aKR
abbrev aa4:X:=aWg
abbrev aa5:X:=aWh
abbrev aK9:X:=tD 27 25 bM aaG
abbrev aLa:X:=cN 41 25 MV
abbrev aK1:X:=cN 27 25 MT
def axO:Tr:=g8 kh zS (g8 aa3 MS (.tf (.o1 8 (xD Sr (xD (EH 41 xM) aaK))) (nQ nL mQ aj ae (bL 25 xM (bL 25 xM aK8)) (g8 aa4 aa5 (g8 aa4 aa5 (vJ (E4 axy) axy (mo nL rT mQ 4 (mm 5 6 20 21 22 23 24 25 (pD xM 27 aj ae (iE 40 41 50 25 (.c xM aK9))))))))) (nQ nL mQ aj ae (bL 25 xM (bL 25 xM aLa)) (g8 aa4 aa5 (g8 aa4 aa5 (vJ axx aga (mo nL rT mQ 4 (mm 5 6 20 21 22 23 24 25 (pD xM 27 aj ae (iE 40 41 50 25 (.c xM aK1)))))))))))
theorem aVI:cx lX (aw2.on vI false) axO=true:=kr
def axP:Tr:=aLi
abbrev aaU:X:=xE 1 2
theorem aVJ:cx lX (aw5.on aaU false) axP=true:=kr
abbrev aK2:X:=E2 41 (.v 50)
def agc:Tr:=.tf aaL axz (.tf aa6 axK (.tf (qu (.v 3)) (.tf M5 axQ axR) (.tf aaU (.tf (qu (.v 54)) (.tf (lA 5 ef) (.tf M6 axA axB) axC) (.tf aK2 (.tf IU axD axE) (.tf aaW axF (.tf (rS (.v 29)) (.tf vH axG axH) (.tf (E2 29 bA) (.tf vH axI axJ) (.tf (E2 29 cq) (.tf vI axL axM) (.tf vI axN axO))))))) axP)))
theorem aVs:Ob dx.fa (λE=>ah dx.fa.fx) agc:=⟨⟨λE h=>bK (x1 id h).used,⟨λE h=>bK (x1 id h).ol,⟨λE h=>bK (x1 id h).made,⟨λE h=>bK (x1 id h).zl,⟨λE h=>bK (x1 id h).zd,⟨λE h=>bK (x1 id h).zb,⟨λE h=>bK (x1 id h).left,⟨λE h=>bK (x1 id h).st,⟨λE h=>bK (x1 id h).c,⟨λE h=>bK (x1 id h).w,⟨λE h=>bK (x1 id h).ax,⟨λE h=>ix _ (x1 id h).cp,⟨λE h=>bK (x1 id h).bh,⟨λE h=>bK (x1 id h).part,⟨λE h=>bK (x1 id h).node,⟨λE h=>bK (x1 id h).tl,⟨λE h=>bK (x1 id h).td,⟨λE h=>bK (x1 id h).tb,⟨λE h=>ix _ (x1 id h).rb,⟨λE h=>ix _ (x1 id h).rl,⟨λE h=>ix _ (x1 id h).rd,⟨λE h=>ix _ (x1 id h).dL,⟨λE h=>ix _ (x1 id h).out,trivial⟩⟩⟩⟩⟩⟩⟩⟩⟩⟩⟩⟩⟩⟩⟩⟩⟩⟩⟩⟩⟩⟩⟩,⟨⟨λE h=>bK (x2 id h).used,⟨λE h=>bK (x2 id h).ol,⟨λE h=>bK (x2 id h).made,⟨λE h=>bK (x2 id h).zl,⟨λE h=>bK (x2 id h).zd,⟨λE h=>bK (x2 id h).zb,⟨λE h=>bK (x2 id h).left,⟨λE h=>bK (x2 id h).st,⟨λE h=>bK (x2 id h).c,⟨λE h=>bK (x2 id h).w,⟨λE h=>bK (x2 id h).ax,⟨λE h=>ix _ (x2 id h).cp,⟨λE h=>bK (x2 id h).bh,⟨λE h=>bK (x2 id h).part,⟨λE h=>bK (x2 id h).node,⟨λE h=>bK (x2 id h).tl,⟨λE h=>bK (x2 id h).td,⟨λE h=>bK (x2 id h).tb,⟨λE h=>ix _ (x2 id h).rb,⟨λE h=>ix _ (x2 id h).rl,⟨λE h=>ix _ (x2 id h).rd,⟨λE h=>ix _ (x2 id h).dL,⟨λE h=>ix _ (x2 id h).out,trivial⟩⟩⟩⟩⟩⟩⟩⟩⟩⟩⟩⟩⟩⟩⟩⟩⟩⟩⟩⟩⟩⟩⟩,⟨⟨⟨λE h=>bK (x4 id h).used,⟨λE h=>bK (x4 id h).ol,⟨λE h=>bK (x4 id h).made,⟨λE h=>bK (x4 id h).zl,⟨λE h=>bK (x4 id h).zd,⟨λE h=>bK (x4 id h).zb,⟨λE h=>bK (x4 id h).left,⟨λE h=>bK (x4 id h).st,⟨λE h=>bK (x4 id h).c,⟨λE h=>bK (x4 id h).w,⟨λE h=>bK (x4 id h).ax,⟨λE h=>ix _ (x4 id h).cp,⟨λE h=>bK (x4 id h).bh,⟨λE h=>bK (x4 id h).part,⟨λE h=>bK (x4 id h).node,⟨λE h=>bK (x4 id h).tl,⟨λE h=>bK (x4 id h).td,⟨λE h=>bK (x4 id h).tb,⟨λE h=>ix _ (x4 id h).rb,⟨λE h=>ix _ (x4 id h).rl,⟨λE h=>ix _ (x4 id h).rd,⟨λE h=>ix _ (x4 id h).dL,⟨λE h=>ix _ (x4 id h).out,trivial⟩⟩⟩⟩⟩⟩⟩⟩⟩⟩⟩⟩⟩⟩⟩⟩⟩⟩⟩⟩⟩⟩⟩,⟨λE h=>(Kf id h).1,⟨λE h=>dS (G0 id h).ok,⟨λE h=>(Kf id h).2.1,⟨λE h=>(Kf id h).2.2,⟨λE h=>(G0 id h).pos,⟨λE h=>congrArg Lz.ak.all (G0 id h).fin,trivial⟩⟩⟩⟩⟩⟩⟩,⟨⟨⟨⟨⟨λE h=>(C0 id h).1,⟨λE h=>(C0 id h).2.1,⟨λE h=>(C0 id h).2.2.1,⟨λE h=>(C0 id h).2.2.2,⟨λE h=>dS (OR id h).ok,⟨λE h=>(OR id h).pos,⟨λE h=>congrArg Lz.ak.all (OR id h).fin,trivial⟩⟩⟩⟩⟩⟩⟩,⟨λE h=>(Kh id h).1,⟨λE h=>(Kh id h).2.1,⟨λE h=>(Kh id h).2.2,⟨λE h=>dS (OS id h).ok,⟨λE h=>(OS id h).pos,⟨λE h=>congrArg Lz.ak.all (OS id h).fin,trivial⟩⟩⟩⟩⟩⟩⟩,⟨λE h=>bK (x6 id h).used,⟨λE h=>bK (x6 id h).ol,⟨λE h=>bK (x6 id h).made,⟨λE h=>bK (x6 id h).zl,⟨λE h=>bK (x6 id h).zd,⟨λE h=>bK (x6 id h).zb,⟨λE h=>bK (x6 id h).left,⟨λE h=>bK (x6 id h).st,⟨λE h=>bK (x6 id h).c,⟨λE h=>bK (x6 id h).w,⟨λE h=>bK (x6 id h).ax,⟨λE h=>ix _ (x6 id h).cp,⟨λE h=>bK (x6 id h).bh,⟨λE h=>bK (x6 id h).part,⟨λE h=>bK (x6 id h).node,⟨λE h=>bK (x6 id h).tl,⟨λE h=>bK (x6 id h).td,⟨λE h=>bK (x6 id h).tb,⟨λE h=>ix _ (x6 id h).rb,⟨λE h=>ix _ (x6 id h).rl,⟨λE h=>ix _ (x6 id h).rd,⟨λE h=>ix _ (x6 id h).dL,⟨λE h=>ix _ (x6 id h).out,trivial⟩⟩⟩⟩⟩⟩⟩⟩⟩⟩⟩⟩⟩⟩⟩⟩⟩⟩⟩⟩⟩⟩⟩⟩,⟨⟨⟨λE h=>dS (AF id h).ok,⟨λE h=>(AF id h).mu,⟨λE h=>(AF id h).pos,⟨λE h=>congrArg Lz.ak.all (AF id h).fin,trivial⟩⟩⟩⟩,⟨λE h=>dS (AG id h).ok,⟨λE h=>(AG id h).mu,⟨λE h=>(AG id h).pos,⟨λE h=>congrArg Lz.ak.all (AG id h).fin,trivial⟩⟩⟩⟩⟩,⟨⟨λE h=>(Ki id h).1,⟨λE h=>(Ki id h).2.1,⟨λE h=>(Ki id h).2.2,⟨λE h=>dS (AH id h).ok,⟨λE h=>(AH id h).mu,⟨λE h=>(AH id h).pos,⟨λE h=>congrArg Lz.ak.all (AH id h).fin,trivial⟩⟩⟩⟩⟩⟩⟩,⟨⟨⟨λE h=>(Kj id h).1,⟨λE h=>(Kj id h).2.1,⟨λE h=>(Kj id h).2.2,⟨λE h=>dS (AD id h).ok,⟨λE h=>(AD id h).mu,⟨λE h=>(AD id h).pos,⟨λE h=>congrArg Lz.ak.all (AD id h).fin,trivial⟩⟩⟩⟩⟩⟩⟩,⟨λE h=>(C4 id h).1,⟨λE h=>(C4 id h).2.1,⟨λE h=>(C4 id h).2.2.1,⟨λE h=>(C4 id h).2.2.2,⟨λE h=>dS (AE id h).ok,⟨λE h=>(AE id h).mu,⟨λE h=>(AE id h).pos,⟨λE h=>congrArg Lz.ak.all (AE id h).fin,trivial⟩⟩⟩⟩⟩⟩⟩⟩⟩,⟨⟨⟨λE h=>(a_6 id h),⟨λE h=>dS (AI id h).ok,⟨λE h=>(AI id h).mu,⟨λE h=>(AI id h).pos,⟨λE h=>congrArg Lz.ak.all (AI id h).fin,trivial⟩⟩⟩⟩⟩,⟨λE h=>(Ux id h).1,⟨λE h=>(Ux id h).2,⟨λE h=>dS (AJ id h).ok,⟨λE h=>(AJ id h).mu,⟨λE h=>(AJ id h).pos,⟨λE h=>congrArg Lz.ak.all (AJ id h).fin,trivial⟩⟩⟩⟩⟩⟩⟩,⟨⟨⟨λE h=>(Uy id h).1,⟨λE h=>(Uy id h).2,⟨λE h=>dS (AO id h).ok,⟨λE h=>(AO id h).mu,⟨λE h=>(AO id h).pos,⟨λE h=>congrArg Lz.ak.all (AO id h).fin,trivial⟩⟩⟩⟩⟩⟩,⟨λE h=>(yx id h).1,⟨λE h=>(yx id h).2.1,⟨λE h=>(yx id h).2.2.1,⟨λE h=>dS (AP id h).ok,⟨λE h=>(yx id h).2.2.2.1,⟨λE h=>(yx id h).2.2.2.2,⟨λE h=>(AP id h).mu,⟨λE h=>(AP id h).pos,⟨λE h=>congrArg Lz.ak.all (AP id h).fin,trivial⟩⟩⟩⟩⟩⟩⟩⟩⟩⟩,⟨⟨λE h=>(Kg id h).1,⟨λE h=>(Kg id h).2.1,⟨λE h=>(Kg id h).2.2,⟨λE h=>dS (AL id h).ok,⟨λE h=>(AL id h).mu,⟨λE h=>(AL id h).pos,⟨λE h=>congrArg Lz.ak.all (AL id h).fin,trivial⟩⟩⟩⟩⟩⟩⟩,⟨λE h=>(C1 id h).1,⟨λE h=>(C1 id h).2.1,⟨λE h=>(C1 id h).2.2.1,⟨λE h=>(C1 id h).2.2.2,⟨⟨λE h=>dS (AN id h).ok,⟨λE h=>(C2 id h).1,⟨λE h=>(C2 id h).2.1,⟨λE h=>(C2 id h).2.2.1,⟨λE h=>(C2 id h).2.2.2,⟨λE h=>(AN id h).mu,⟨λE h=>(AN id h).pos,⟨λE h=>congrArg Lz.ak.all (AN id h).fin,trivial⟩⟩⟩⟩⟩⟩⟩⟩,⟨λE h=>dS (AM id h).ok,⟨λE h=>(C3 id h).1,⟨λE h=>(C3 id h).2.1,⟨λE h=>(C3 id h).2.2.1,⟨λE h=>(C3 id h).2.2.2,⟨λE h=>(AM id h).mu,⟨λE h=>(AM id h).pos,⟨λE h=>congrArg Lz.ak.all (AM id h).fin,trivial⟩⟩⟩⟩⟩⟩⟩⟩⟩⟩⟩⟩⟩⟩⟩⟩⟩⟩⟩⟩,⟨λE h=>dS (AK id h).ok,⟨λE h=>(AK id h).mu,⟨λE h=>(AK id h).pos,⟨λE h=>congrArg Lz.ak.all (AK id h).fin,trivial⟩⟩⟩⟩⟩⟩⟩⟩
theorem aVM:cx lX dx.fa agc=true:=(eV aVt (eV aVE (eV (eV aVK aVL) (eV (eV (eV (eV aVu aVv) aVw) (eV (eV aVx aVy) (eV aVz (eV (eV aVA aVB) (eV (eV aVC aVD) (eV (eV aVF aVG) (eV aVH aVI))))))) aVJ))))
def ahi:OT:=[(295,bG (av PZ) (av PY)),(297,bG (av Qd) (bG (av Qe) (bG (av Qf) (bG (av Qg) (bG (av Qh) (bG (av Qi) (bG (av Qj) (bG (av Qk) (av Ql)))))))))]
theorem asl:dB (aY aa) ahi:=⟨(cS (a1g) (a1f)),(cS (a1s) (cS (a1t) (cS (a1u) (cS (a1v) (cS (a1w) (cS (a1x) (cS (a1y) (cS (a1z) (a1A))))))))),trivial⟩
theorem aWj:cr aa Tryz.f244.ntmps (aI 3 (loops (aC Tryz.f244))) dx dx.fa:=eX (t:=ahi) (lt:=[]) (m:=8) (f:=244) (k:=3) asl trivial (λ_=>rfl) rfl agc aVs aVM
theorem aVr (E:Env) (hF:ah dx.fa.fx):0<=N dx.μ:=(Lz.ayJ (XJ hF))
theorem aVq:∀M,qN aa Tryz.f244.ntmps (aI 3 (loops (aC Tryz.f244))) dx M:=aWj.lpm aVr
end
end Go.Proofs.Y
