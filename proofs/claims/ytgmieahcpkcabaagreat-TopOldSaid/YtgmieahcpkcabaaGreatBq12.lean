import Derived.Test.YtgmieahcpkcabaaGreatBq11
import Derived.Test.YtgmieahcpkcabaaGreatBq5
set_option maxRecDepth 100000
set_option linter.unusedSimpArgs false
set_option linter.unusedVariables false
set_option linter.constructorNameAsVariable false
set_option linter.unusedSectionVars false
noncomputable section
namespace Go.Proofs.Y
open Go Go.Z
section
open Hz
abbrev zZ:Nat×Int×Int:=(101,-9223372036854775808,9223372036854775807)
abbrev z1:Nat×Int×Int:=(102,-9223372036854775808,9223372036854775807)
abbrev z2:Nat×Int×Int:=(103,-9223372036854775808,9223372036854775807)
abbrev xW:Nat×Int×Int:=(105,-9223372036854775808,9223372036854775807)
abbrev xX:Nat×Int×Int:=(106,-9223372036854775808,9223372036854775807)
abbrev xY:Nat×Int×Int:=(107,0,18446744073709551615)
abbrev xZ:Nat×Int×Int:=(108,0,18446744073709551615)
abbrev x5:Nat×Int×Int:=(109,-9223372036854775808,9223372036854775807)
abbrev tI:Nat×Int×Int:=(110,0,255)
abbrev qI:Nat×Int×Int:=(111,0,255)
abbrev x7:Nat×Int×Int:=(115,0,255)
abbrev tH:Nat×Int×Int:=(116,0,255)
abbrev zY:Nat×Int×Int:=(117,0,255)
abbrev xS:Nat×Int×Int:=(112,-9223372036854775808,9223372036854775807)
abbrev xT:Nat×Int×Int:=(113,-9223372036854775808,9223372036854775807)
abbrev xU:Nat×Int×Int:=(114,-9223372036854775808,9223372036854775807)
abbrev xV:Nat×Int×Int:=(50,-9223372036854775808,9223372036854775807)
abbrev ab1:X:=bz (bz ff 4) 5
abbrev aMs:Fa:=fj [Fl,Fm,tG,lL,r6,vN,Fi,zZ,z1,z2,xW,xX,xY,xZ,x5,tI,qI,x7,tH,zY,xS,xT,xU,xV] [ab1,kq,apL]
abbrev S9:V:=.c (.sl 1 5 (.v 4) (.v 5) .a)
abbrev aMt:gk:=[tm,(8,S9),(9,vO),(10,Fj)]
abbrev ab2:ai:=qE (.v 3)
abbrev Fv:Nat×Bl:=cP [fu,fK,nR,gh,qD,ab2,oQ,oR,oS,oT,oN,lI,oP,lJ,ko,lK,a8,mV,fc,kS,bg,xN]
def Hw:Lp:=⟨aMs,aMt,6,[r7,Fv],.exit 0,[],6,[abV,Fv],kq⟩
theorem aXA:cr aa Tryz.f109.ntmps (aI 1 (loops (aC Tryz.f109))) Hw Hw.fa:=eX (t:=PI) (lt:=[]) (m:=8) (f:=109) (k:=1) Us trivial (λ_=>rfl) rfl (.tf Fu (.tf abW (.same abX vR (.same abY vS .lf)) (.same abZ vR (.same ab0 vS .lf))) (.same S5 vR (.same S6 vS .lf))) ⟨⟨⟨λE hF=>(aq (λq _=>by rw[fB,fB,pn (hF.1.1.b 2 rfl).1 (hF.1.1.b 4 rfl).1 (hF.1.1.b 6 rfl).1 hF.1.2 _ (DW (hF.1.1.b 2 rfl).1 hF.2)]) _),⟨λE hF=>(aq (λq _=>by rw[fC,fC,pn (hF.1.1.b 2 rfl).1 (hF.1.1.b 4 rfl).1 (hF.1.1.b 6 rfl).1 hF.1.2 _ (DW (hF.1.1.b 2 rfl).1 hF.2)]) _),trivial⟩⟩,⟨λE hF=>(aq (λq _=>by rw[fB,fB,pn (hF.1.1.b 2 rfl).1 (hF.1.1.b 4 rfl).1 (hF.1.1.b 6 rfl).1 hF.1.2 _ (DV (hF.1.1.b 2 rfl).1 hF.2)]) _),⟨λE hF=>(aq (λq _=>by rw[fC,fC,pn (hF.1.1.b 2 rfl).1 (hF.1.1.b 4 rfl).1 (hF.1.1.b 6 rfl).1 hF.1.2 _ (DV (hF.1.1.b 2 rfl).1 hF.2)]) _),trivial⟩⟩⟩,⟨λE hF=>(aq (λq _=>by rw[fB,wZ (by have h:N (.v 5)<=N (.v 6):=hF.2; show N (.v 5) - N (.v 6)<=0; omega)]; exact (congrFun (Hz.sK (hF.1.vb 10 _ _ rfl)) q).symm) _),⟨λE hF=>(aq (λq _=>by rw[fC,wZ (by have h:N (.v 5)<=N (.v 6):=hF.2; show N (.v 5) - N (.v 6)<=0; omega)]; exact (congrFun (Hz.lR (hF.1.vb 11 _ _ rfl)) q).symm) _),trivial⟩⟩⟩ kr
theorem aXy (E:Env) (hF:ah Hw.fa.fx):0<=N Hw.μ:=by
 have h:=hF.g (x:=.o2 1 (.v 5) (.v 6)) (mt mh)
 exact h
theorem aXz:ct aa Tryz.f109.ntmps (aI 1 (loops (aC Tryz.f109))) Hw:=aXA.all aXy
theorem aT3:cA aa ((109,1),aW Hw):=dZ Tryz.func109 kr aXz
abbrev aMu:Fa:=fj [Fl,Fm,tG,lL,r6,vN,zZ,z1,z2,xW,xX,xY,xZ,x5,tI,qI,x7,tH,zY,xS,xT,xU,xV] [ab1,No]
def aB8:Sp:=⟨aMu,[bS,S9],6,[r7,Fv],iD,6,[abK,Fv]⟩
def ajh:Sp:={aB8 with v:=iD,l':=[abM,Fv]}
theorem a5D:ab aa 109 aB8:=aG (t:=[]) (lt:=[((109,1),aW Hw)]) (m:=8) trivial ⟨aT3,trivial⟩ .lf kr
theorem a5E:ab aa 109 ajh:=aL a5D [(abN,abO),(abP,abQ)] _ _ (al (λE hF=>(aq (λq _=>by rw[fB,fB,pe,D8]) _))<|al (λE hF=>(aq (λq _=>by rw[fC,fC,pe,D8]) _))<|aN) kr
theorem a1i:aY aa (109,av ajh):=cf a5E
abbrev aMv:Fa:=fj [Cd,tG,lL,r6,vN,zZ,z1,z2,xW,xX,xY,xZ,x5,tI,qI,x7,tH,zY,xS,xT,xU,xV] [ab1,No]
def aCZ:Sp:=⟨aMv,[bS,S9],6,[Ce,Fv],iD,6,[ab4,Fv]⟩
def Qm:Sp:={aCZ with v:=iD,l':=[ab5,Fv]}
theorem a67:ab aa 64 aCZ:=aG (t:=[(108,av A8),(109,av ajh)]) (lt:=[]) (m:=8) ⟨H2,a1i,trivial⟩ trivial .lf kr
theorem Xa:ab aa 64 Qm:=aL a67 [(ab6,ab7),(ab8,ab9)] _ _ (al (λE hF=>(aq (λq _=>by rw[fB,Ef (hF.vb 1 _ _ rfl) (hF.b 2 rfl).1 (hF.b 5 rfl).1,<- yI]) _))<|al (λE hF=>(aq (λq _=>by rw[fC,Ef (hF.vb 1 _ _ rfl) (hF.b 2 rfl).1 (hF.b 5 rfl).1,<- yJ]) _))<|aN) kr
abbrev Fw:Nat×Int×Int:=(104,0,255)
abbrev ap1:X:=bz (bz bM 4) 5
abbrev ap2:V:=.c (.sl 1 1450 (.v 4) (.v 5) .a)
abbrev Fy:Nat×Bl:=cP [fu,fK,nR,gh,qD,vM,oQ,oR,oS,oT,oN,lI,oP,lJ,ko,.a [.u8] bM (.v 3),a8,mV,fc,kS,bg,xN]
def Hy:Lp:=⟨fj [Fl,Fm,tG,lL,r6,vN,Fi,zZ,z1,z2,Fw,xW,xX,xY,xZ,x5,tI,qI,x7,tH,xS,xT,xU,xV] [ap1,kq,apL],[tm,(8,ap2),(9,vO),(10,Fj)],6,[r7,Fy],.exit 0,[],6,[abV,Fy],kq⟩
theorem aXG:cr aa Tryz.f109.ntmps (aI 1 (loops (aC Tryz.f109))) Hy Hy.fa:=eX (t:=PI) (lt:=[]) (m:=8) (f:=109) (k:=1) Us trivial (λ_=>rfl) rfl (.tf Fu (.tf abW (.same abX vR (.same abY vS .lf)) (.same abZ vR (.same ab0 vS .lf))) (.same S5 vR (.same S6 vS .lf))) ⟨⟨⟨λE hF=>(aq (λq _=>by rw[fB,fB,pn (hF.1.1.b 2 rfl).1 (hF.1.1.b 4 rfl).1 (hF.1.1.b 6 rfl).1 hF.1.2 _ (DW (hF.1.1.b 2 rfl).1 hF.2)]) _),⟨λE hF=>(aq (λq _=>by rw[fC,fC,pn (hF.1.1.b 2 rfl).1 (hF.1.1.b 4 rfl).1 (hF.1.1.b 6 rfl).1 hF.1.2 _ (DW (hF.1.1.b 2 rfl).1 hF.2)]) _),trivial⟩⟩,⟨λE hF=>(aq (λq _=>by rw[fB,fB,pn (hF.1.1.b 2 rfl).1 (hF.1.1.b 4 rfl).1 (hF.1.1.b 6 rfl).1 hF.1.2 _ (DV (hF.1.1.b 2 rfl).1 hF.2)]) _),⟨λE hF=>(aq (λq _=>by rw[fC,fC,pn (hF.1.1.b 2 rfl).1 (hF.1.1.b 4 rfl).1 (hF.1.1.b 6 rfl).1 hF.1.2 _ (DV (hF.1.1.b 2 rfl).1 hF.2)]) _),trivial⟩⟩⟩,⟨λE hF=>(aq (λq _=>by rw[fB,wZ (by have h:N (.v 5)<=N (.v 6):=hF.2; show N (.v 5) - N (.v 6)<=0; omega)]; exact (congrFun (Hz.sK (hF.1.vb 10 _ _ rfl)) q).symm) _),⟨λE hF=>(aq (λq _=>by rw[fC,wZ (by have h:N (.v 5)<=N (.v 6):=hF.2; show N (.v 5) - N (.v 6)<=0; omega)]; exact (congrFun (Hz.lR (hF.1.vb 11 _ _ rfl)) q).symm) _),trivial⟩⟩⟩ kr
theorem aXE (E:Env) (hF:ah Hy.fa.fx):0<=N Hy.μ:=by
 have h:=hF.g (x:=.o2 1 (.v 5) (.v 6)) (mt mh)
 exact h
theorem aXF:ct aa Tryz.f109.ntmps (aI 1 (loops (aC Tryz.f109))) Hy:=aXG.all aXE
theorem aT5:cA aa ((109,1),aW Hy):=dZ Tryz.func109 kr aXF
def aCa:Sp:=⟨fj [Fl,Fm,tG,lL,r6,vN,zZ,z1,z2,Fw,xW,xX,xY,xZ,x5,tI,qI,x7,tH,xS,xT,xU,xV] [ap1,No],[bS,ap2],6,[r7,Fy],iD,6,[abK,Fy]⟩
def ajj:Sp:={aCa with v:=iD,l':=[abM,Fy]}
theorem a5H:ab aa 109 aCa:=aG (t:=[]) (lt:=[((109,1),aW Hy)]) (m:=8) trivial ⟨aT5,trivial⟩ .lf kr
theorem a5I:ab aa 109 ajj:=aL a5H [(abN,abO),(abP,abQ)] _ _ (al (λE hF=>(aq (λq _=>by rw[fB,fB,pe,D8]) _))<|al (λE hF=>(aq (λq _=>by rw[fC,fC,pe,D8]) _))<|aN) kr
theorem a1k:aY aa (109,av ajj):=cf a5I
def aC2:Sp:=⟨fj [Cd,tG,lL,r6,vN,zZ,z1,z2,Fw,xW,xX,xY,xZ,x5,tI,qI,x7,tH,xS,xT,xU,xV] [ap1,No],[bS,ap2],6,[Ce,Fy],iD,6,[ab4,Fy]⟩
def aj9:Sp:={aC2 with v:=iD,l':=[ab5,Fy]}
theorem a7a:ab aa 64 aC2:=aG (t:=[(108,av A8),(109,av ajj)]) (lt:=[]) (m:=8) ⟨H2,a1k,trivial⟩ trivial .lf kr
theorem aC3:ab aa 64 aj9:=aL a7a [(ab6,ab7),(ab8,ab9)] _ _ (al (λE hF=>(aq (λq _=>by rw[fB,Ef (hF.vb 1 _ _ rfl) (hF.b 2 rfl).1 (hF.b 5 rfl).1,<- yI]) _))<|al (λE hF=>(aq (λq _=>by rw[fC,Ef (hF.vb 1 _ _ rfl) (hF.b 2 rfl).1 (hF.b 5 rfl).1,<- yJ]) _))<|aN) kr
abbrev cK:ai:=.c .db
abbrev Fz:Nat×Bl:=cP [fu,fK,nR,gh,qD,ab2,oQ,oR,oS,oT,oN,lI,oP,lJ,ko,lK,a8,mV,fc,kS,cK,cK]
def Hx:Lp:=⟨aMs,aMt,4,[r7,Fz],.exit 0,[],4,[abV,Fz],kq⟩
theorem aXD:cr aa Tryz.f109.ntmps (aI 1 (loops (aC Tryz.f109))) Hx Hx.fa:=eX (t:=PI) (lt:=[]) (m:=8) (f:=109) (k:=1) Us trivial (λ_=>rfl) rfl (.tf Fu (.tf abW (.same abX vR (.same abY vS .lf)) (.same abZ vR (.same ab0 vS .lf))) (.same S5 vR (.same S6 vS .lf))) ⟨⟨⟨λE hF=>(aq (λq _=>by rw[fB,fB,pn (hF.1.1.b 2 rfl).1 (hF.1.1.b 4 rfl).1 (hF.1.1.b 6 rfl).1 hF.1.2 _ (DW (hF.1.1.b 2 rfl).1 hF.2)]) _),⟨λE hF=>(aq (λq _=>by rw[fC,fC,pn (hF.1.1.b 2 rfl).1 (hF.1.1.b 4 rfl).1 (hF.1.1.b 6 rfl).1 hF.1.2 _ (DW (hF.1.1.b 2 rfl).1 hF.2)]) _),trivial⟩⟩,⟨λE hF=>(aq (λq _=>by rw[fB,fB,pn (hF.1.1.b 2 rfl).1 (hF.1.1.b 4 rfl).1 (hF.1.1.b 6 rfl).1 hF.1.2 _ (DV (hF.1.1.b 2 rfl).1 hF.2)]) _),⟨λE hF=>(aq (λq _=>by rw[fC,fC,pn (hF.1.1.b 2 rfl).1 (hF.1.1.b 4 rfl).1 (hF.1.1.b 6 rfl).1 hF.1.2 _ (DV (hF.1.1.b 2 rfl).1 hF.2)]) _),trivial⟩⟩⟩,⟨λE hF=>(aq (λq _=>by rw[fB,wZ (by have h:N (.v 5)<=N (.v 6):=hF.2; show N (.v 5) - N (.v 6)<=0; omega)]; exact (congrFun (Hz.sK (hF.1.vb 10 _ _ rfl)) q).symm) _),⟨λE hF=>(aq (λq _=>by rw[fC,wZ (by have h:N (.v 5)<=N (.v 6):=hF.2; show N (.v 5) - N (.v 6)<=0; omega)]; exact (congrFun (Hz.lR (hF.1.vb 11 _ _ rfl)) q).symm) _),trivial⟩⟩⟩ kr
theorem aXB (E:Env) (hF:ah Hx.fa.fx):0<=N Hx.μ:=by
 have h:=hF.g (x:=.o2 1 (.v 5) (.v 6)) (mt mh)
 exact h
theorem aXC:ct aa Tryz.f109.ntmps (aI 1 (loops (aC Tryz.f109))) Hx:=aXD.all aXB
theorem aT4:cA aa ((109,1),aW Hx):=dZ Tryz.func109 kr aXC
def aB9:Sp:=⟨aMu,[bS,S9],4,[r7,Fz],iD,4,[abK,Fz]⟩
def aji:Sp:={aB9 with v:=iD,l':=[abM,Fz]}
theorem a5F:ab aa 109 aB9:=aG (t:=[]) (lt:=[((109,1),aW Hx)]) (m:=8) trivial ⟨aT4,trivial⟩ .lf kr
theorem a5G:ab aa 109 aji:=aL a5F [(abN,abO),(abP,abQ)] _ _ (al (λE hF=>(aq (λq _=>by rw[fB,fB,pe,D8]) _))<|al (λE hF=>(aq (λq _=>by rw[fC,fC,pe,D8]) _))<|aN) kr
theorem a1j:aY aa (109,av aji):=cf a5G
def aC1:Sp:=⟨aMv,[bS,S9],4,[Ce,Fz],iD,4,[ab4,Fz]⟩
def aC0:Sp:={aC1 with v:=iD,l':=[ab5,Fz]}
theorem a68:ab aa 64 aC1:=aG (t:=[(108,av A8),(109,av aji)]) (lt:=[]) (m:=8) ⟨H2,a1j,trivial⟩ trivial .lf kr
theorem a69:ab aa 64 aC0:=aL a68 [(ab6,ab7),(ab8,ab9)] _ _ (al (λE hF=>(aq (λq _=>by rw[fB,Ef (hF.vb 1 _ _ rfl) (hF.b 2 rfl).1 (hF.b 5 rfl).1,<- yI]) _))<|al (λE hF=>(aq (λq _=>by rw[fC,Ef (hF.vb 1 _ _ rfl) (hF.b 2 rfl).1 (hF.b 5 rfl).1,<- yJ]) _))<|aN) kr
theorem aeL (E:Env) (r n z:X):D (.f 1015 (.c (.o3 0 r n z) (.c n .n)))=D (.f 1015 (.c r (.c n .n))):=by
 have e:fM (D (.o3 0 r n z)) (N n)=fM (D r) (N n):=afm λq hq=>by rw[cE,if_pos hq]
 show bV (xe (gH (fM (D (.o3 0 r n z)) (N n)).s) (D n) (dI (fM (D (.o3 0 r n z)) (N n)).w))=bV (xe (gH (fM (D r) (N n)).s) (D n) (dI (fM (D r) (N n)).w))
 rw[e]
abbrev aMw:X:=pD S1 2 S2 (Nj (lD ef)) xH
abbrev aMx:X:=iF (.f 1005 aMw) kQ (.f 1006 aMw) ae (bj abH)
abbrev FA:X:=bj aH
abbrev aMy:X:=iF (.f 1005 aMx) abI (.f 1006 aMx) (Nj (.f 1014 (bj (nI 2 (.i 61))))) FA
abbrev aMz:X:=.f 1013 (bj (.f 1005 (iF (.f 1005 aMy) (.o2 0 abI aH) (.f 1006 aMy) (Nj (.f 1014 (bj (mP 2 aH)))) FA)))
abbrev Nq(a b:X):V:=.agg (qH a b)
def aCw:Sp:=pB (jv ap3 (bz (.i 1152921504606846000) 2)) [bS] Ce (Nq aU aMz) [Ce]
abbrev kt(a b:X):X:=.f 1015 (.c a b)
abbrev aMq:X:=kt (iU (.v 1) 2) oH
def rp:Sp:={aCw with v:=Nq aU aMq,l':=[Ce]}
theorem a6n:ab aa 52 aCw:=aG (t:=[(108,av A8),(109,av Lm),(110,av PQ),(111,av W3)]) (lt:=[((52,4),aW Ht)]) (m:=8) ⟨H2,WA,ahd,azs,trivial⟩ ⟨aT0,trivial⟩ .lf kr
theorem sY:ab aa 52 rp:=aL a6n [((kP aMz),(kP aMq))] _ _ (al (λE hF=>(aq (λq _=>congrFun (Eq.trans kr (aeL E (.v 1) (.v 2) ae).symm) q) _))<|aN) kr
end
end Go.Proofs.Y
namespace Go.Z
open Go Go.Sym Go.RowKit
open Go.Ev (T K Ex DH DF a7)
section
variable [bI]
def pr (F:Fx):X->X->X
 | .i n,_=>.i n
 | .o1 f a,_=>.o1 f a
 | .o2 f b p,o=>bif Nat.blt f 15 then .o2 f b p else bif ay F (.i 0) p && ay F (.i 0) o then pr F b (b9 o p) else w9 F (.o2 f b p) o
 | .o3 0 a m b,o=>bif ay F m o && ay F (.i 0) m then pr F b (dF o m) else bif ay F (.i 0) o && ay F o m then jC F (pr F a o) (dF m o) b else w9 F (.o3 0 a m b) o
 | x,o=>w9 F x o
def uG (x y:X):X:=bif mM x then x else y
def VT (F:Fx) (f:Nat) (a b:X):Option Int:=match b with
 | .i (.ofNat n)=>match a with
  | .i m=>bif Nat.blt f 14 then some (O2 f (λ_=>m) (λ_=>(n:Int)) 0) else none
  | a=>bif Nat.beq f 4 && (Nat.blt 0 n && ay F (.i 0) a) then (match phase n a with | some p=>some (.ofNat p) | none=>none) else none
 | _=>none
def nX (F:Fx):X->X
 | .o1 f a=>.o1 f (nX F a)
 | .o2 f a b=>
  let a:=nX F a
  let b:=nX F b
  bif Nat.beq f 14 then (bif ay F (.i 0) b then gt F a b else .o2 f a b) else
  bif Nat.blt f 15 then (match VT F f a b with
   | some n=>.i n
   | none=>let r:=gU (.o2 f a b); bif sP r then r else .o2 f a b) else uG (pr F a b) (.o2 f a b)
 | .o3 0 a n b=>let a:=nX F a; let n:=nX F n; let b:=nX F b; uG (jC F a n b) (.o3 0 a n b)
 | .o3 1 c a b=>let c:=nX F c; let a:=nX F a; let b:=nX F b
  match ta F c with
  | some true=>uG a (.o3 1 c a b)
  | some false=>uG b (.o3 1 c a b)
  | none=>.o3 1 c a b
 | .o3 f a b c=>.o3 f (nX F a) (nX F b) (nX F c)
 | .c a b=>.c (nX F a) (nX F b)
 | .f k l=>.f k (nX F l)
 | x=>x
def nN (F:Fx) (x:X):X:=gU (nX F x)
def agP (F:Fx):gj->gj
 | .k x=>.k (nN F x)
 | c=>c
def nC (F:Fx):C->C
 | .int k x=>.int k (nN F x)
 | .bx x=>match ta F (nX F x) with
  | some b=>.bool b
  | none=>.bx (nX F x)
 | .ptr i o e=>.ptr i o (nN F e)
 | .sl i o e n c=>.sl i o (nN F e) (nN F n) (agP F c)
 | c=>c
def nSg (F:Fx):ai->ai
 | .c c=>.c (nC F c)
 | .a ks n x=>.a ks (nN F n) (nl F (nX F x) (nN F n))
def Wp (F:Fx) (l:List ai):List ai:=l.map (nSg F)
def nP (F:Fx):P1->P1
 | .c c=>.c (nC F c)
 | .agg l=>.agg (Wp F l)
def nV (F:Fx):V->V
 | .c c=>.c (nC F c)
 | .agg l=>.agg (Wp F l)
 | .dK l=>.dK (l.map (nP F))
def nBl (F:Fx) (b:Bl):Bl:=⟨b.t,Wp F b.ss,b.ro,b.ks⟩
def HV (F:Fx):List Nat->Hp->Hp
 | [],h=>h
 | id::r,h=>HV F r (match h.get id with
  | some b=>bif Nat.blt id 4096 then h.put id (some (nBl F b)) else h
  | none=>h)
def Yq (F:Fx) (σ:Nat->X) (p:Nat×Int×Int):Bool:=Q3 F σ p || (match bd F.vb (nX F (je σ p.1)) with
 | some (a,b)=>decide (p.2.1<=a) && decide (b<=p.2.2)
 | none=>false)
def X6 (F:Fx) (σ:Nat->X) (p:X×Bool):Bool:=QS F σ p || (match ta F (nX F (bP σ p.1)) with
 | some b=>b==p.2
 | none=>false)
def ae3 (F:Fx) (σ:Nat->X) (p:Fa):Bool:=p.vb.all (Yq F σ) && (p.fs.all (λx=>KN F (bP σ x) || KN F (nX F (bP σ x))) && (p.tr.all (X6 F σ) && p.eq.all λq=>gp F (bP σ q.1) (bP σ q.2)))
def aO (sp:Sp) (F:Fx):pY:=λys h=>
 let m:=Ld sp ys h
 let σ:=eM m.1
 bif Pw sp.xs && (Ee F ys (sp.xs.map (s8 σ (aV m.2))) && (DT F σ m.2 sp.n sp.n' h sp.l sp.l' && ae3 F σ sp.fa)) then
  some (nV F (s8 σ (iS (aV m.2) sp.n h.nx) sp.v),HV F (sp.l'.map λx=>iS (aV m.2) sp.n h.nx x.1) (hOut σ (aV m.2) sp.n sp.n' sp.l sp.l' h)) else none
variable [Env] {F:Fx} {bs bs':Nm} {w w':World} {h h':Hp}
theorem au9 {x:X} (h:sP x=true):D x=λ_=>N x:=funext λi=>wE h i
theorem Vo {x y:X} (h:D x=D y):D (uG x y)=D y:=by
 unfold uG
 cases hc:mM x with
 | true=>exact h
 | false=>rfl
theorem Vn {x y:X} (h:mM y=true):mM (uG x y)=true:=by
 unfold uG
 cases hc:mM x with
 | true=>exact hc
 | false=>exact h
theorem shR (x o:X):D (.o2 15 x o)=λi=>D x (i+(N o).toNat):=rfl
theorem a9m (hF:ah F):∀{a o:X},0<=N o->∀i:Nat,D (pr F a o) i=D a (i+(N o).toNat):=by
 intro a
 induction a with
 | i n=>intro o _ i; rfl
 | o1 f a _=>
  intro o _ i
  show O1 f _ _=O1 f _ _
  unfold O1; split <;>rfl
 | o2 f b p ihb _=>
  intro o ho i
  unfold pr
  cases hf:Nat.blt f 15 with
  | true=>exact (CV (wh hf) _ _ _).trans (CV (wh hf) _ _ _).symm
  | false=>
   have hf':¬f < 15:=λh=>by rw[show Nat.blt f 15=true from J4 h] at hf; cases hf
   cases hc:ay F (.i 0) p && ay F (.i 0) o with
   | true=>
    rw[ar] at hc
    have h1:0<=N p:=aT hF hc.1
    show D (pr F b (b9 o p)) i=O2 f (D b) (D p) (i+(N o).toNat)
    rw[ihb (by rw[eU]; omega),Gq hf',eU]
    congr 1
    show i+(N o+N p).toNat=i+(N o).toNat+(N p).toNat
    omega
   | false=>exact u6 hF i
 | o3 f a m b iha _ ihb=>
  intro o ho i
  match f with
  | 0=>
   rw[pr]
   cases hc:ay F m o && ay F (.i 0) m with
   | true=>
    rw[ar] at hc
    have h1:=aT hF hc.1
    have h2:0<=N m:=aT hF hc.2
    show D (pr F b (dF o m)) i=if ((i+(N o).toNat:Nat):Int) < N m then _ else D b (i+(N o).toNat - (N m).toNat)
    rw[if_neg om,ihb (by rw[jH]; omega),jH]
    congr 1
    omega
   | false=>
    cases hd:ay F (.i 0) o && ay F o m with
    | true=>
     rw[ar] at hd
     have h2:=aT hF hd.2
     show D (jC F (pr F a o) (dF m o) b) i=if ((i+(N o).toNat:Nat):Int) < N m then D a (i+(N o).toNat) else D b (i+(N o).toNat - (N m).toNat)
     rw[yB hF]
     unfold p6
     rw[jH]
     by_cases q:(i:Int) < N m - N o
     .rw[if_pos q,if_pos om]; exact iha ho i
     .rw[if_neg q,if_neg om]
      congr 1
      omega
    | false=>exact u6 hF i
  | f+1=>exact u6 hF i
 | _=>intro o _ i; exact u6 hF i
theorem a9l (hF:ah F) (a o:X):D (pr F a o)=D (.o2 15 a o):=by
 by_cases h0:0<=N o
 .funext i; exact a9m hF h0 i
 .have key:∀a:X,∀o:X,¬0<=N o->D (pr F a o)=D (.o2 15 a o):=by
   intro a o h0
   have e0:D (.o2 15 a o)=D a:=funext λi=>by rw[shR]; show D a (i+(N o).toNat)=_; congr 1; omega
   have sh:∀y:X,D (w9 F y o)=D y:=λy=>funext λi=>by rw[u6 hF]; congr 1; omega
   have no:ay F (.i 0) o=false:=by
    cases h:ay F (.i 0) o with
    | false=>rfl
    | true=>exact absurd (aT hF h) h0
   rw[e0]
   cases a with
   | i n=>rfl
   | o1 f a=>rfl
   | o2 f b p=>
    show D (bif Nat.blt f 15 then X.o2 f b p else bif ay F (.i 0) p && ay F (.i 0) o then pr F b (b9 o p) else w9 F (.o2 f b p) o)=_
    cases hf:Nat.blt f 15 with
    | true=>rfl
    | false=>
     rw[no,Bool.and_false]
     exact sh _
   | o3 f a m b=>
    match f with
    | 0=>
     show D (bif ay F m o && ay F (.i 0) m then pr F b (dF o m) else bif ay F (.i 0) o && ay F o m then jC F (pr F a o) (dF m o) b else w9 F (.o3 0 a m b) o)=_
     cases hc:ay F m o && ay F (.i 0) m with
     | true=>
      rw[ar] at hc
      have h1:=aT hF hc.1
      have h2:0<=N m:=aT hF hc.2
      omega
     | false=>
      rw[no,arV]
      exact sh _
    | f+1=>exact sh _
   | _=>exact sh _
  exact key a o h0
theorem aTJ (hF:ah F) {f:Nat} {a b:X} {n:Int} (h:VT F f a b=some n):D (.i n)=D (.o2 f a b):=by
 unfold VT at h
 split at h
 .rename_i k
  split at h
  .rename_i m
   obtain⟨h1,h⟩:=cm h
   cases h
   funext i
   have:f < 15:=Nat.lt_succ_of_lt (iw h1)
   show O2 f (λ_=>m) (λ_=>(k:Int)) 0=O2 f (λ_=>m) (λ_=>Int.ofNat k) i
   exact (CV this _ _ i).symm
  .obtain⟨h1,g⟩:=cm h
   simp only[ar] at h1
   obtain⟨h2,h3,h4⟩:=h1
   have e4:=iJ h2
   subst e4
   have h0:0<=N a:=aT hF h4
   split at g
   .rename_i p hp
    cases g
    have h5:=Qo hp h0
    funext i
    show Int.ofNat p=(N a).tmod (Int.ofNat k)
    rw[JY h0,<- h5]
    show (((N a).toNat % k:Nat):Int)=N a % (k:Int)
    rw[Ga]
    congr 1
    omega
   .cases g
 .cases h
theorem a0e (hF:ah F):∀x:X,DD (nX F x)=DD x:=by
 intro x
 induction x with
 | o1 f a ih=>simp only[nX,DD,ih]
 | c a b iha ihb=>simp only[nX,DD,iha,ihb]
 | f k l ih=>simp only[nX,DD,ih]
 | o2 f a b iha ihb=>
  have ea:D (nX F a)=D a:=congrArg Prod.fst iha
  have eb:D (nX F b)=D b:=congrArg Prod.fst ihb
  have e0:D (.o2 f (nX F a) (nX F b))=D (.o2 f a b):=by show O2 f (D (nX F a)) (D (nX F b))=O2 f (D a) (D b); rw[ea,eb]
  have d0:DD (.o2 f (nX F a) (nX F b))=DD (.o2 f a b):=qW rfl rfl e0
  unfold nX
  dsimp only
  generalize nX F a=a' at*
  generalize nX F b=b' at*
  cases h14:Nat.beq f 14 with
  | true=>
   cases hb:ay F (.i 0) b' with
   | false=>exact d0
   | true=>
    have e14:=iJ h14
    subst e14
    refine qW (afr (Vs F _ _)) rfl ?_
    show D (gt F a' b')=_
    rw[<- e0,au9 (Vs F a' b'),OX hF (aT hF hb)]
    rfl
  | false=>
   cases hf:Nat.blt f 15 with
   | true=>
    show DD (match VT F f a' b' with
     | some n=>X.i n
     | none=>bif sP (gU (.o2 f a' b')) then gU (.o2 f a' b') else .o2 f a' b')=_
    split
    .rename_i n hn
     refine qW rfl rfl ?_
     rw[<- e0]
     exact aTJ hF hn
    .cases hk:sP (gU (.o2 f a' b')) with
     | false=>exact d0
     | true=>
      refine qW (afr hk) rfl ?_
      show D (gU (.o2 f a' b'))=_
      rw[au9 hk,uT,<- e0]
      funext i
      exact (CV (wh hf) _ _ _).symm
   | false=>
    have hf':¬f < 15:=λh=>by rw[show Nat.blt f 15=true from J4 h] at hf; cases hf
    have e15:D (.o2 f a' b')=D (.o2 15 a' b'):=funext λi=>by
     show O2 f _ _ i=O2 15 _ _ i
     rw[Gq hf',Gq dc]
    refine qW (Vn rfl) rfl ?_
    show D (uG (pr F a' b') (.o2 f a' b'))=_
    rw[Vo (by rw[a9l hF,e15]),e0]
 | o3 f a n b iha ihn ihb=>
  have ea:D (nX F a)=D a:=congrArg Prod.fst iha
  have en:D (nX F n)=D n:=congrArg Prod.fst ihn
  have eb:D (nX F b)=D b:=congrArg Prod.fst ihb
  have e0:D (.o3 f (nX F a) (nX F n) (nX F b))=D (.o3 f a n b):=by show O3 f (D (nX F a)) (D (nX F n)) (D (nX F b))=O3 f (D a) (D n) (D b); rw[ea,en,eb]
  have d0:DD (.o3 f (nX F a) (nX F n) (nX F b))=DD (.o3 f a n b):=qW rfl rfl e0
  match f with
  | 0=>
   show DD (uG (jC F (nX F a) (nX F n) (nX F b)) (.o3 0 (nX F a) (nX F n) (nX F b)))=_
   refine qW (Vn rfl) rfl ?_
   rw[Vo (by rw[yB hF]; rfl),e0]
  | 1=>
   show DD (match ta F (nX F a) with
    | some true=>uG (nX F n) (.o3 1 (nX F a) (nX F n) (nX F b))
    | some false=>uG (nX F b) (.o3 1 (nX F a) (nX F n) (nX F b))
    | none=>.o3 1 (nX F a) (nX F n) (nX F b))=_
   split
   .rename_i ht
    refine qW (Vn rfl) rfl ?_
    have h1:=of_decide_eq_true (Ec hF ht)
    rw[Vo,e0]
    show D (nX F n)=λi=>if N (nX F a)=0 then D (nX F b) i else D (nX F n) i
    funext i
    exact (if_neg h1).symm
   .rename_i ht
    refine qW (Vn rfl) rfl ?_
    have h1:=of_decide_eq_false (Ec hF ht)
    rw[Vo,e0]
    show D (nX F b)=λi=>if N (nX F a)=0 then D (nX F b) i else D (nX F n) i
    funext i
    exact (if_pos (Decidable.not_not.1 h1)).symm
   .exact d0
  | f+2=>exact d0
 | _=>rfl
theorem yU (hF:ah F) (x:X):D (nX F x)=D x:=congrArg Prod.fst (a0e hF x)
theorem yT (hF:ah F) (x:X):N (nN F x)=N x:=by unfold nN; rw[uT]; exact congrFun (yU hF x) 0
theorem ayS (hF:ah F) {id:Nat} {c:gj}:((agP F c).told->c.told)/\∀n,CJ bs id c n->CJ bs id (agP F c) n:=by
 cases c with
 | k x=>exact⟨λz=>z,λn h=>by show (n:Int)=N (nN F x); rw[yT hF]; exact h⟩
 | _=>exact⟨λz=>z,λn h=>h⟩
theorem agO (hF:ah F) {c:C} {v:Value} (h:CR bs c v):CR bs (nC F c) v:=by
 cases c with
 | int k x=>obtain⟨h1,h2⟩:=h; exact⟨by rw[yT hF]; exact h1,by rw[yT hF]; exact h2⟩
 | bx x=>
  have h:v=.bool (decide (N x≠0)):=h
  have e:N (nX F x)=N x:=congrFun (yU hF x) 0
  unfold nC
  dsimp only
  split
  .rename_i b ht
   show v=.bool b
   rw[h,<- e,Ec hF ht]
  .show v=.bool (decide (N (nX F x)≠0))
   rw[e]; exact h
 | ptr i o e=>obtain⟨b,h1,h2,h3⟩:=h; exact⟨b,h1,by rw[yT hF]; exact h2,by rw[yT hF]; exact h3⟩
 | sl i o e n c=>
  obtain⟨b,p,k,h1,h2,h3,h4,h5,h6⟩:=h
  refine⟨b,p,k,by rw[yT hF]; exact h1,by rw[yT hF]; exact h2,by rw[yT hF]; exact h3,λhh=>?_,(ayS hF).2 _ h5,h6⟩
  rw[yT hF] at hh ⊢
  exact h4 (hh.imp id (ayS (bs:=bs) (id:=i) hF).1)
 | _=>exact h
theorem Pp (hF:ah F):∀{l:List ai} {vs:List Value},aS bs l vs->aS bs (Wp F l) vs
 | [],_,h=>h
 | .c c::r,vs,⟨v,ws,h1,h2,h3⟩=>⟨v,ws,h1,agO hF h2,Pp hF h3⟩
 | .a ks n x::r,vs,⟨us,ws,h1,⟨h2,h3⟩,h4⟩=>by
  have hn:=yT hF n
  refine⟨us,ws,h1,⟨by rw[hn]; exact h2,λi hi=>?_⟩,Pp hF h4⟩
  obtain⟨k,e1,e2,e3⟩:=h3 i hi
  have e:D (nl F (nX F x) (nN F n)) (0+i)=D x (0+i):=by
   rw[Pu hF _ (by rw[hn]; omega),yU hF]
  have e':D (nl F (nX F x) (nN F n)) i=D x i:=by rw[<- Nat.zero_add i]; exact e
  exact⟨k,e1,by rw[e']; exact e2,by rw[e']; exact e3⟩
theorem a0c (hF:ah F) {c:P1} {v:Value} (h:PR bs c v):PR bs (nP F c) v:=by
 cases c with
 | c c=>exact agO hF h
 | agg l=>obtain⟨vs,h1,h2⟩:=h; exact⟨vs,Pp hF h1,h2⟩
theorem ayT (hF:ah F):∀{l:List P1} {vs:List Value},jz bs l vs->jz bs (l.map (nP F)) vs
 | [],[],h=>h
 | [],_::_,h=>h
 | _::_,[],h=>h
 | _::_,_::_,⟨h1,h2⟩=>⟨a0c hF h1,ayT hF h2⟩
theorem agQ (hF:ah F) {c:V} {v:Value} (h:VR bs c v):VR bs (nV F c) v:=by
 cases c with
 | c c=>exact agO hF h
 | agg l=>obtain⟨vs,h1,h2⟩:=h; exact⟨vs,Pp hF h1,h2⟩
 | dK l=>obtain⟨vs,h1,h2⟩:=h; exact⟨vs,ayT hF h1,h2⟩
theorem a0b (hF:ah F) {id k:Nat} {b:Bl} (h:BR w bs id b k):BR w bs id (nBl F b) k:=by
 obtain⟨ps,us,ws,t,fr,h1,h0,h2,h3,h4⟩:=h
 exact⟨ps,us,ws,t,fr,h1,h0,h2,Pp hF h3,h4⟩
theorem a8q {id:Nat} {b b':Bl} (hid:id < 4096) (hg:h.get id=some b) (hro:b'.ro=b.ro) (hb:∀k,BR w bs id b k->BR w bs id b' k) (hR:HR w bs h):HR w bs (h.put id (some b')):=by
 refine⟨λi c hi hc=>?_,λi j c d k hi hj hc hd hx e e'=>?_,hR.fp,hR.nx⟩
 .rw[Hp.lh hid hi] at hc
  by_cases e:i=id
  .rw[if_pos e] at hc; cases hc
   subst e
   obtain⟨k,h1,h2⟩:=hR.ig i b hid hg
   exact⟨k,h1,hb k h2⟩
  .rw[if_neg e] at hc; exact hR.ig i c hi hc
 .have some':∀i c,i < 4096->(h.put id (some b')).get i=some c->∃c',h.get i=some c'/\c'.ro=c.ro:=λi c hi hc=>by
   rw[Hp.lh hid hi] at hc
   by_cases e:i=id
   .rw[if_pos e] at hc; cases hc; exact⟨b,by rw[e]; exact hg,hro.symm⟩
   .rw[if_neg e] at hc; exact⟨c,hc,rfl⟩
  obtain⟨c',hc',_⟩:=some' i c hi hc
  obtain⟨d',hd',hd2⟩:=some' j d hj hd
  exact hR.inj i j c' d' k hi hj hc' hd' (hd2.trans hx) e e'
theorem a8r {w0:World} {bs0:Nm} {h0:Hp} {id:Nat} {b b':Bl} (hid:id < 4096) (hg:h.get id=some b) (hro:b'.ro=b.ro) (m:Mv w0 w bs0 bs h0 h):Mv w0 w bs0 bs h0 (h.put id (some b')):=by
 refine⟨m.os,m.tape,m.output,m.size,m.le,m.nx,m.low,m.cL,λk hk ⟨i,c,hi,hc,e,hd⟩=>?_,λk hk ⟨i,c,hi,hc,e⟩=>?_,m.range⟩ <;>rw[Hp.lh hid hi] at hc <;>by_cases q:i=id
 .rw[if_pos q] at hc; cases hc
  exact m.own k hk ⟨id,b,hid,hg,by rw[<- q]; exact e,by rw[<- hro]; exact hd⟩
 .rw[if_neg q] at hc
  exact m.own k hk ⟨i,c,hi,hc,e,hd⟩
 .exact m.l7 k hk ⟨id,b,hid,hg,by rw[<- q]; exact e⟩
 .rw[if_neg q] at hc
  exact m.l7 k hk ⟨i,c,hi,hc,e⟩
theorem Lg (hF:ah F) {w0:World} {bs0:Nm} {h0:Hp}:∀{ids:List Nat} {h:Hp},HR w bs h->Mv w0 w bs0 bs h0 h->HR w bs (HV F ids h)/\Mv w0 w bs0 bs h0 (HV F ids h)
 | [],_,hR,m=>⟨hR,m⟩
 | id::r,h,hR,m=>by
  unfold HV
  split
  .rename_i b hg
   cases hb:Nat.blt id 4096 with
   | true=>exact Lg hF (ids:=r) (a8q (iw hb) hg rfl (λk hk=>a0b hF hk) hR) (a8r (iw hb) hg rfl m)
   | false=>exact Lg hF (ids:=r) hR m
  .exact Lg hF (ids:=r) hR m
theorem aSh (hF:ah F) {σ:Nat->X} {p:Fa} (hp:ae3 F σ p=true):@ah _ (dw σ) p.fx:=by
 simp only[ae3,ar] at hp
 obtain⟨h1,h2,h3,h4⟩:=hp
 refine @ah.mk _ (dw σ) p.fx (λk lo hi hk i=>?_) (λl hl=>?_) (λq hq=>?_) (λq hq=>?_)
 .have:=dD.1 h1 _ (Pe hk)
  show lo<=D (je σ k) i/\D (je σ k) i<=hi
  simp only[Yq,dt] at this
  rcases this with h5 | h5
  .simp only[Q3,dt,ar] at h5
   rcases h5 with h5 | ⟨h5,h6,h7⟩
   .split at h5
    .rename_i a b hb
     simp only[ar,decide_eq_true_eq] at h5
     have:=cO hF.vb (je σ k) a b hb i
     omega
    .cases h5
   .have h6:lo<=N (je σ k):=aT hF h6
    have h7:N (je σ k)<=hi:=aT hF h7
    rw[wE h5]
    exact⟨h6,h7⟩
  .split at h5
   .rename_i a b hb
    simp only[ar,decide_eq_true_eq] at h5
    have:=cO hF.vb (nX F (je σ k)) a b hb i
    rw[yU hF] at this
    omega
   .cases h5
 .obtain⟨x,hx,rfl⟩:=yn.1 hl
  have h5:=dD.1 h2 x hx
  rw[@pb _ (dw σ)]
  rw[dt] at h5
  rcases h5 with h5 | h5
  .have:=OU hF h5
   rw[fm] at this
   exact this
  .have:=OU hF h5
   rw[show N (nX F (bP σ x))=N (bP σ x) from congrFun (yU hF _) 0,fm] at this
   exact this
 .have:=dD.1 h3 q hq
  unfold X6 at this
  rw[dt] at this
  rcases this with this | this
  .unfold QS at this
   split at this
   .rename_i b hb
    have h5:=Bi hF hb
    rw[fm] at h5
    rw[<- eq_of_beq this]; exact h5
   .cases this
  .split at this
   .rename_i b hb
    have h5:=Ec hF hb
    rw[show N (nX F (bP σ q.1))=N (bP σ q.1) from congrFun (yU hF _) 0,fm] at h5
    rw[<- eq_of_beq this]; exact h5
   .cases this
 .have:=congrArg Prod.fst (Dk hF (dD.1 h4 q hq))
  have h5:D (bP σ q.1)=D (bP σ q.2):=this
  rw[wb,wb] at h5
  exact h5
theorem aSB {P:Program} {f:FuncId} {I:Info} (hF:ah I.F) {sp:Sp} (hp:ab P f sp):N9 P f (aO sp I.F):=by
 intro ys h v h' he bs vs w ha hR
 unfold aO at he
 dsimp only at he
 generalize Ld sp ys h=m at he
 obtain⟨hb,he⟩:=cm he
 cases he
 simp only[ar] at hb
 obtain⟨h1,h2,h3,h4⟩:=hb
 obtain⟨hplc,hout⟩:=Qq h3
 have ha':=Od (σ:=eM m.1) (τ:=aV m.2) h1 (Ys hF h2 ha)
 have:=hp (dw (eM m.1)) (aSh hF h4) _ vs w ha' (hplc.hr hF hR)
 refine this.imp ?_
 rintro u w' ⟨bs1,hR1,hM1,hv1⟩
 obtain⟨o1,o2,o3⟩:=hplc.out hR hout hR1 hM1
 obtain⟨p1,p2⟩:=Lg hF (ids:=sp.l'.map λx=>iS (aV m.2) sp.n h.nx x.1) o1 o2
 exact⟨_,p1,p2,agQ hF (Uw o3 hv1)⟩
omit [Env] in
theorem aQ {P:Program} {f:FuncId} {sp:Sp} (hp:ab P f sp):aY P (f,aO sp):=λE _ hF=>@aSB _ E _ _ _ hF _ hp
end
end Go.Z
namespace Go.Proofs.Y
open Go Go.Z
section
open Hz
attribute [local irreducible] Go.Sym.nc Go.Sym.yX Go.Sym.lr Go.Sym.qS Go.Sym.lk Go.Sym.mulR Go.Sym.rA
open Go.Sym (iP kF bV qS Om Vi jT uA mF eW ja fq cl Ay GJ Ok a7 val dv pP uC)
section
variable (E:Env)
theorem gY (a:X) (k:Int):N (.o2 14 a (.i k))=D a k.toNat:=rfl
theorem Bp (a:X):N (.o1 0 a)=N a % 18446744073709551616:=rfl
theorem a_I (a:X):N (.o1 3 a)=N a % 256:=rfl
theorem kG (a:X) {k:Int} (p:Nat) (h:2 ^ k.toNat=p):N (.o2 10 a (.i k))=(((N a).toNat / p:Nat):Int):=by
 show (((N a).toNat>>>k.toNat:Nat):Int)=_
 rw[qQ,h]
theorem LZ (a:X) {m:Int} (k:Nat) (h:m.toNat=2 ^ k - 1):N (.o2 5 a (.i m))=(((N a).toNat % 2 ^ k:Nat):Int):=by
 show (((N a).toNat &&& m.toNat:Nat):Int)=_
 rw[h,Uk]
abbrev vT:X:=.i 51
theorem xq (a:X):N (.o2 10 a vT)=(((N a).toNat / 2251799813685248:Nat):Int):=kG E a _ rfl
theorem z32 (a:X):N (.o2 10 a bW)=(((N a).toNat / 4294967296:Nat):Int):=kG E a _ rfl
abbrev apX:X:=.i 2251799813685247
theorem o4 (a:X):N (.o2 5 a apX)=(((N a).toNat % 2251799813685248:Nat):Int):=LZ E a 51 rfl
theorem a32 (a:X):N (.o2 5 a qx)=(((N a).toNat % 4294967296:Nat):Int):=LZ E a 32 rfl
end
theorem azA {a b:Int} (k:Nat) (ha:0<=a) (h:a % ((2 ^ k:Nat):Int)=0) (hb:0<=b/\b < ((2 ^ k:Nat):Int)):iP a b=a+b:=by
 unfold iP
 have e:a.toNat=2 ^ k*(a.toNat / 2 ^ k):=by
  have h1:a.toNat % 2 ^ k=0:=by
   have:((a.toNat % 2 ^ k:Nat):Int)=0:=by rw[Ga,yl ha,h]
   omega
  have:=J5 a.toNat (2 ^ k)
  omega
 rw[e,<- Ur om,<- e]
 omega
theorem IB (E:Env) (a b:X):N (.o2 6 a b)=iP (N a) (N b):=rfl
theorem KQ (E:Env) (a:X):N (.f 2030 (.c a .n))=Lz.az 0 35184372088831 (N a / 18446744073709551616):=rfl
theorem yP (E:Env) (a:X):N (.f 2031 (.c a .n))=N a % 18446744073709551616:=rfl
theorem cw {S:Int} (h:0<=S/\S<=390436384961200210461516657328128):iP (Lz.az 0 35184372088831 (S / 18446744073709551616)*8192) ((((S % 18446744073709551616).toNat / 2251799813685248:Nat)):Int)=S / 2251799813685248:=by
 rw[Lz.a6 om om,azA 13 om (by simp only[Nat.reducePow]; omega) (by simp only[Nat.reducePow]; omega)]
 omega
section
variable (E:Env) {a b:X} {S T:Int} (hS:0<=S/\S<=(77 - 18*(0:Nat))*5070602402093509226772943601664) (hT:0<=T/\T<=(77 - 18*(0:Nat))*5070602402093509226772943601664) (ea:@N _ E a=S) (eb:@N _ E b=T)
include hS hT ea eb
abbrev mW:X:=.i 8192
theorem mc {x y:X} (hx:N x=N (.o2 5 (.f 2031 (.c a .n)) apX)) (hy:N y=N (.o2 6 (.o2 2 (.f 2030 (.c b .n)) mW) (.o2 10 (.f 2031 (.c b .n)) vT))):N x=S % 2251799813685248/\N y=T / 2251799813685248:=by
 rw[hx,hy,o4,yP,ea,IB,dH,KQ,xq,yP,eb,bl,cw om]
 exact⟨by omega,rfl⟩
end
def addEntry:Array Value->Sem Value:=λargs=>do
 let (x,y,c) <- Extern.MathBitsCarry.three "Add64" args
 pure (Extern.MathBitsCarry.pair ((x+y+c) % Extern.MathBitsCarry.m64) ((x+y+c) / Extern.MathBitsCarry.m64))
def a9K:Array Value->Sem Value:=λargs=>do
 let (x,y,b) <- Extern.MathBitsCarry.three "Sub64" args
 pure (Extern.MathBitsCarry.pair ((x+Extern.MathBitsCarry.m64 - y - b) % Extern.MathBitsCarry.m64) (if x < y+b then 1 else 0))
theorem atY {f:FuncId} {fn:Func} {e:Array Value->Sem Value} {g:Nat->Nat->Nat->Nat×Nat} {sp:Sp} {a b c s d:X} (hf:Tryz.prog.funcs[f]?=some fn) (hname:(fn.name=="runtime.NumGoroutine")=false) (hb:fn.body.isNone=true) (hn:Extern.findNext fn=none) (he:Extern.find fn=some e) (hr:∀(x y k:Nat) (w:World),k<=1->(e #[.int .u64 x,.int .u64 y,.int .u64 k]).run aa w=.ok (.tuple #[.int .u64 ((g x y k).1:Nat),.int .u64 ((g x y k).2:Nat)]) w) (h1:sp.xs=[.c (.int .u64 a),.c (.int .u64 b),.c (.int .u64 c)]) (h2:sp.v=.dK [.c (.int .u64 s),.c (.int .u64 d)]) (h3:sp.n=0/\sp.l=[]/\sp.n'=0/\sp.l'=[]) (h:∀E:Env,ah sp.fa.fx->∀x y k:Nat,N a=x->N b=y->N c=k->x < 18446744073709551616->y < 18446744073709551616->k<=1/\N s=(g x y k).1/\N d=(g x y k).2/\(g x y k).1 < 18446744073709551616/\(g x y k).2 < 18446744073709551616):ab aa f sp:=by
 intro E hF bs vs w ha hR
 rw[h1] at ha
 obtain⟨n1,n2,n3,n4⟩:=h3
 rw[n1,n2] at hR ⊢
 rw[n3,n4,h2]
 match vs,ha with
 | [_,_,_],⟨⟨rfl,i1⟩,⟨rfl,i2⟩,⟨rfl,i3⟩,_⟩=>
  have i1:(0:Int)<=N a/\N a<=18446744073709551615:=i1
  have i2:(0:Int)<=N b/\N b<=18446744073709551615:=i2
  have i3:(0:Int)<=N c/\N c<=18446744073709551615:=i3
  obtain⟨x,hx⟩:=yk i1.1
  obtain⟨y,hy⟩:=yk i2.1
  obtain⟨k,hk⟩:=yk i3.1
  obtain⟨k1,e1,e2,l1,l2⟩:=h E hF x y k hx hy hk om om
  refine .inl ⟨.tuple #[.int .u64 (N s),.int .u64 (N d)],w,?_,iI.stay hR ⟨[_,_],⟨⟨rfl,?_⟩,⟨rfl,?_⟩,trivial⟩,rfl⟩⟩
  .rw[run_callFunc_extern hf hname hb hn he,hx,hy,hk]
   show ((e #[.int .u64 x,.int .u64 y,.int .u64 k]).run aa w).andThen _=_
   rw[hr x y k w k1,e1,e2]; rfl
  .show (0:Int)<=_/\_<=(18446744073709551615:Int); omega
  .show (0:Int)<=_/\_<=(18446744073709551615:Int); omega
theorem Oe {sp:Sp} {a b c s d:X} (h1:sp.xs=[.c (.int .u64 a),.c (.int .u64 b),.c (.int .u64 c)]) (h2:sp.v=.dK [.c (.int .u64 s),.c (.int .u64 d)]) (h3:sp.n=0/\sp.l=[]/\sp.n'=0/\sp.l'=[]) (h:∀E:Env,ah sp.fa.fx->0<=N c/\N c<=1/\N s=(N a+N b+N c) % 18446744073709551616/\N d=(N a+N b+N c) / 18446744073709551616):ab aa 275 sp:=
 atY (e:=addEntry) (g:=λx y k=>((x+y+k) % 18446744073709551616,(x+y+k) / 18446744073709551616)) Tryz.func275 kr kr kr kr
  (λx y k w hk=>by rcases (show k=0\/k=1 by omega) with rfl | rfl <;>rfl) h1 h2 h3 λE hF x y k hx hy hk lx ly=>by
   have:=h E hF
   rw[hx,hy,hk] at this
   dsimp only
   omega
def Wc (a:X):X:=.o2 5 (.f 2031 (.c a .n)) (.i 2251799813685247)
def Wb (b:X):X:=.o2 6 (.o2 2 (.f 2030 (.c b .n)) (.i 8192)) (.o2 10 (.f 2031 (.c b .n)) (.i 51))
theorem mc0 (E:Env) {a b:X} {x y:R} (hS:0<=fq x y 0/\fq x y 0<=(77 - 18*(0:Nat))*5070602402093509226772943601664) (hT:0<=fq x y 4/\fq x y 4<=(77 - 18*(4:Nat))*5070602402093509226772943601664) (ea:N a=fq x y 0) (eb:N b=fq x y 4):N (.o2 0 (Wc a) (.o2 2 (Wb b) Nn))=ja (fq x y) 0:=by
 have h:=mc E hS om ea eb (x:=Wc a) (y:=Wb b) rfl rfl
 rw[bB,dH,h.1,h.2,bl]
 rfl
theorem Wf (E:Env) {a b:X} {x y:R} {k:Nat} (hS:0<=fq x y (k+1)/\fq x y (k+1)<=(77 - 18*(k+1:Nat))*5070602402093509226772943601664) (hT:0<=fq x y k/\fq x y k<=(77 - 18*(k:Nat))*5070602402093509226772943601664) (ea:N a=fq x y (k+1)) (eb:N b=fq x y k):N (.o2 0 (Wb b) (Wc a))=ja (fq x y) (k+1):=by
 have h:=mc E om om ea eb (x:=Wc a) (y:=Wb b) rfl rfl
 rw[bB,h.1,h.2,Int.add_comm]
 show _=fq x y (k+1) % _+(if k+1=0 then _ else fq x y (k+1 - 1) / _)
 rw[if_neg om,Gi]
theorem ayO (x y:Nat):x / 4294967296*(y / 4294967296)+((x / 4294967296*(y % 4294967296)+x % 4294967296*(y % 4294967296) / 4294967296) / 4294967296+((x / 4294967296*(y % 4294967296)+x % 4294967296*(y % 4294967296) / 4294967296) % 4294967296+x % 4294967296*(y / 4294967296)) / 4294967296)=x*y / 18446744073709551616:=by
 have hx:=J5 x 4294967296
 have hy:=J5 y 4294967296
 have e:x*y=x / 4294967296*(y / 4294967296)*18446744073709551616+(x / 4294967296*(y % 4294967296)+x % 4294967296*(y / 4294967296))*4294967296+x % 4294967296*(y % 4294967296):=by
  generalize x / 4294967296=a at*
  generalize x % 4294967296=b at*
  generalize y / 4294967296=c at*
  generalize y % 4294967296=d at*
  subst hx; subst hy
  grind
 rw[e]
 omega
theorem uU {E:Env} {x y:X} (h:N x=N y):D (.o2 0 x ae)=D (.o2 0 y ae):=@aD _ E _ _ h
theorem QN {e:Int} (h:0<=e):((e.toNat / 2251799813685248:Nat):Int)=e / 2251799813685248:=by omega
theorem QO {e:Int} (h:0<=e):((e.toNat % 2251799813685248:Nat):Int)=e % 2251799813685248:=by omega
theorem at9 (E:Env) (a:X):D (.f 2000 (.c a .n))=cl (Go.Sym.et (Go.Sym.aJ (Go.Sym.bv (D a)) 32)):=rfl
theorem OO (E:Env) (a:X):D (.f 2002 (.c a .n))=jT (D a):=rfl
theorem uQ (E:Env) {x:X} (m:Int) (k:Nat) (e:m=k) (h:0<=N x):N (.o2 3 x (.i m))=(((N x).toNat / k:Nat):Int):=by
 rw[@gQ _ E _ _ h,e,adR,yl h]
theorem uR (E:Env) {x:X} (m:Int) (k:Nat) (e:m=k) (h:0<=N x):N (.o2 4 x (.i m))=(((N x).toNat % k:Nat):Int):=by
 show (N x).tmod m=_
 rw[JY h,e,Ga,yl h]
theorem a1Q (a b:Int):iP a b=iP b a:=by unfold iP; rw[Nat.or_comm]
theorem wS {a b:Int} (k:Nat) (ha:0<=a/\a < ((2 ^ k:Nat):Int)) (hb:0<=b) (h:b % ((2 ^ k:Nat):Int)=0):iP a b=a+b:=by
 rw[a1Q,azA k hb h ha,Int.add_comm]
theorem Li {b:Nat->Int} (h:∀i,0<=b i/\b i<=255) (j:Nat):iP (iP (iP (iP (iP (iP (iP (iP 0 (b (8*j))) (b (8*j+1)*256)) (b (8*j+2)*65536)) (b (8*j+3)*16777216)) (b (8*j+4)*4294967296)) (b (8*j+5)*1099511627776)) (b (8*j+6)*281474976710656)) (b (8*j+7)*72057594037927936)=Go.Sym.w8 b j:=by
 have:=h (8*j); have:=h (8*j+1); have:=h (8*j+2); have:=h (8*j+3); have:=h (8*j+4); have:=h (8*j+5); have:=h (8*j+6); have:=h (8*j+7)
 rw[wS (a:=0) (b:=b (8*j)) 0 (by simp) om (by simp)]
 rw[wS (b:=b (8*j+1)*256) 8 (by simp; omega) om (by simp)]
 rw[wS (b:=b (8*j+2)*65536) 16 (by simp; omega) om (by simp)]
 rw[wS (b:=b (8*j+3)*16777216) 24 (by simp; omega) om (by simp)]
 rw[wS (b:=b (8*j+4)*4294967296) 32 (by simp; omega) om (by simp)]
 rw[wS (b:=b (8*j+5)*1099511627776) 40 (by simp; omega) om (by simp)]
 rw[wS (b:=b (8*j+6)*281474976710656) 48 (by simp; omega) om (by simp)]
 rw[wS (b:=b (8*j+7)*72057594037927936) 56 (by simp; omega) om (by simp)]
 unfold Go.Sym.w8
 omega
theorem m6 (E:Env) (a:X) (k:Int) (q:Nat):D (.o2 15 a (.i k)) q=D a (q+k.toNat):=rfl
theorem Kw (E:Env) (a r:X) (q:Nat):D (.o3 0 a aj r) q=if q=0 then N a else D r (q - 1):=by
 rw[cE,bl]
 by_cases h:q=0
 .rw[if_pos om,if_pos h,h]; rfl
 .rw[if_neg om,if_neg h]; rfl
theorem cG (E:Env) (a r:X):D (.o3 0 a aj r) 0=N a:=by rw[Kw,if_pos rfl]
theorem aB (E:Env) (a r:X) (q:Nat):D (.o3 0 a aj r) (q+1)=D r q:=by rw[Kw,if_neg om,Gi]
abbrev apY:Nat×Int×Int:=(1,0,162259276829213363391578010288127)
abbrev aMr:Fa:=cI [(0,0,486777830487640090174734030864384),apY]
abbrev apZ:C:=.int .u64 (.f 2031 vo)
abbrev S8:V:=.c Sa
abbrev ap0:X:=bj (kI 0 1)
abbrev tJ(a:X):P1:=.c (.int .u64 a)
abbrev aMK:C:=.int .u64 (.o2 1 (.f 2030 ap0) (.o2 0 (.f 2030 fO) (.f 2030 vo)))
def pLo:Sp:=lC aMr [tn (.f 2031 fO),.c apZ,S8] (tz (tJ (.f 2031 ap0)) (.c aMK))
abbrev aqd:C:=.int .u64 (.f 2030 vo)
def pHi:Sp:=lC aMr [tn (.f 2030 fO),.c aqd,.c aMK] (tz (tJ (.f 2030 ap0)) (.c Sa))
def aA9:Sp:=lC (cI [apY]) [S8,.c apZ,S8] (xK apZ (.c Sa))
def aAY:Sp:=lC (cI [apY]) [S8,.c aqd,S8] (xK aqd (.c Sa))
theorem a4j:ab aa 275 pLo:=Oe rfl rfl ⟨rfl,rfl,rfl,rfl⟩ λE hF=>by
 have b1:=hF.b 1 rfl
 have b0:=hF.b 0 rfl
 simp only[yP,KQ,bB,iY,bl]
 rw[Lz.a6 (x:=(N (.v 0)+N (.v 1)) / _) om om,Lz.a6 (x:=N (.v 0) / _) om om,Lz.a6 (x:=N (.v 1) / _) om om]
 omega
theorem a3Y:ab aa 275 pHi:=Oe rfl rfl ⟨rfl,rfl,rfl,rfl⟩ λE hF=>by
 have b1:=hF.b 1 rfl
 have b0:=hF.b 0 rfl
 simp only[yP,KQ,bB,iY,bl]
 rw[Lz.a6 (x:=(N (.v 0)+N (.v 1)) / _) om om,Lz.a6 (x:=N (.v 0) / _) om om,Lz.a6 (x:=N (.v 1) / _) om om]
 omega
theorem a4i:ab aa 275 aA9:=Oe rfl rfl ⟨rfl,rfl,rfl,rfl⟩ λE hF=>by
 have b1:=hF.b 1 rfl
 simp only[yP,KQ,bB,iY,bl]
 omega
theorem a3X:ab aa 275 aAY:=Oe rfl rfl ⟨rfl,rfl,rfl,rfl⟩ λE hF=>by
 have b1:=hF.b 1 rfl
 simp only[yP,KQ,bB,iY,bl]
 rw[Lz.a6 om om]
 omega
abbrev acg:V:=IS 0
abbrev aML:X:=qw (nI 0 bW) (.o2 5 (.v 1) qx) (.o2 10 (.o2 2 (.o2 5 (.v 0) qx) (.o2 5 (.v 1) qx)) bW)
abbrev aqe:X:=qw (nI 0 bW) (nI 1 bW) (.o2 0 (.o2 10 aML bW) (.o2 10 (.o2 0 (.o2 5 aML qx) (.o2 2 (.o2 5 (.v 0) qx) (nI 1 bW))) bW))
abbrev aqf:X:=Ni (.v 0) (.v 1)
abbrev aMM:V:=tz (tJ aqe) (tJ aqf)
def aiA:Sp:=lC (cI [(0,0,72057594037927936),(1,0,4503599627370496)]) [acg,xA] aMM
abbrev Nu:X:=bj (mP 0 (.v 1))
abbrev aMN:P1:=tJ (.f 2031 Nu)
def aBf:Sp:={aiA with v:=tz (tJ (.f 2030 Nu)) aMN,l':=aiA.l'}
theorem a4o:ab aa 274 aiA:=aG (t:=[]) (lt:=[]) (m:=8) trivial trivial .lf kr
abbrev aMO:X:=ao (.f 2031 Nu)
theorem a4p:ab aa 274 aBf:=aL a4o [((ao aqe),(ao (.f 2030 Nu))),((ao aqf),aMO)] _ _ (al (λE hF=>(uU (by
 have b0:=hF.b 0 rfl
 have b1:=hF.b 1 rfl
 obtain⟨x,hx⟩:=yk b0.1
 obtain⟨y,hy⟩:=yk b1.1
 simp only[KQ,bB,dH,z32,a32,hx,hy,<- gm,<- uc,fg]
 have hb:x*y<=324518553658426726783156020576256:=An (J7 (show x<=72057594037927936 by omega) (show y<=4503599627370496 by omega)) dc
 rw[Lz.a6 om om]
 have:=ayO x y
 omega)))<|al (λE hF=>uU (by simp only[yP,Bp]))<|aN) kr
abbrev cZ(a:X):ai:=.a [.u64] g7 a
abbrev Cj(a:X):V:=.agg [cZ a]
abbrev FE:V:=Cj (.v 0)
abbrev mX:X:=j7 ae
abbrev pN(a:X):X:=.o2 5 a apX
abbrev Ck:X:=j7 bM
abbrev FF(a:X):X:=.o2 10 a vT
abbrev Jt(a:X):X:=.o2 2 a Nn
abbrev mr:X:=j7 aj
abbrev FG(a b:X):X:=.o2 0 a (FF b)
abbrev mw:X:=j7 bA
abbrev nS:X:=j7 cq
abbrev aMP:X:=cz (.o2 0 (pN mX) (Jt (FF Ck))) (FG (pN mr) mX) (FG (pN mw) mr) (FG (pN nS) mw) (FG (pN Ck) nS)
def ahV:Sp:=g9 abB [FE] [cZ aMP]
abbrev Te:X:=.f 2002 fO
def PO:Sp:={ahV with v:=Cj Te,l':=ahV.l'}
theorem a2x:ab aa 220 ahV:=aG (t:=[]) (lt:=[]) (m:=8) trivial trivial .lf kr
abbrev dY(a:X):X:=bk a g7
theorem WO:ab aa 220 PO:=aL a2x [((dY aMP),(dY Te))] _ _ (al (λE hF=>(aq (λq hq=>by
 have b:Go.Sym.Sm (D (.v 0)):=λq _=>hF.vb 0 _ _ rfl q
 have hq:(q:Int) < 5:=hq
 refine Eq.trans ?_ (Ay (Go.Sym.atj b) om).symm
 refine uC (p:=λq=>D _ q=ja (D (.v 0)) q) ?_ ?_ ?_ ?_ ?_ q om
 .refine (cG E _ _).trans ?_
  show N _=_
  have:=b 0 dc; have:=b 4 dc
  simp only[bB,dH,bl,o4,xq,gY,Int.reduceToNat,ja]
  simp
  omega
 .refine ((aB E _ _ 0).trans (cG E _ _)).trans ?_
  show N _=_
  have:=b 1 dc; have:=b 0 dc
  simp only[bB,dH,bl,o4,xq,gY,Int.reduceToNat,ja]
  simp
  omega
 .refine ((aB E _ _ 1).trans ((aB E _ _ 0).trans (cG E _ _))).trans ?_
  show N _=_
  have:=b 2 dc; have:=b 1 dc
  simp only[bB,dH,bl,o4,xq,gY,Int.reduceToNat,ja]
  simp
  omega
 .refine ((aB E _ _ 2).trans ((aB E _ _ 1).trans ((aB E _ _ 0).trans (cG E _ _)))).trans ?_
  show N _=_
  have:=b 3 dc; have:=b 2 dc
  simp only[bB,dH,bl,o4,xq,gY,Int.reduceToNat,ja]
  simp
  omega
 .refine ((aB E _ _ 3).trans ((aB E _ _ 2).trans ((aB E _ _ 1).trans ((aB E _ _ 0).trans (rfl))))).trans ?_
  show N _=_
  have:=b 4 dc; have:=b 3 dc
  simp only[bB,dH,bl,o4,xq,gY,Int.reduceToNat,ja]
  simp
  omega
) _))<|aN) kr
abbrev aca:Nat×Int×Int:=(0,0,2251799813947392)
abbrev acb:Nat×Int×Int:=(1,0,2251799813947392)
abbrev acd:Fa:=cI [aca,acb]
abbrev Ns:ai:=cZ (.v 1)
abbrev ap6:List V:=[FE,.agg [Ns]]
abbrev FD:X:=pK ae
abbrev Cf:X:=pK aj
abbrev Cg:X:=pK bA
abbrev Ch:X:=pK cq
abbrev Ci:X:=pK bM
abbrev aMH:X:=.f 2002 (bj (cz (.o2 0 mX FD) (.o2 0 mr Cf) (.o2 0 mw Cg) (.o2 0 nS Ch) (lD (.o2 0 Ck Ci))))
def ahy:Sp:=g9 acd ap6 [cZ aMH]
def ahx:Sp:={ahy with v:=Cj (.f 2003 jJ),l':=ahy.l'}
theorem a11:ab aa 216 ahy:=aG (t:=[(220,aO PO)]) (lt:=[]) (m:=8) ⟨(aQ WO),trivial⟩ trivial .lf kr
theorem azG:ab aa 216 ahx:=aL a11 [((dY aMH),(dY (.f 2003 jJ)))] _ _ (al (λE hF=>(aq (λq hq=>by
 have hq:(q:Int) < 5:=hq
 refine Vi (s:=D _) (uC ?_ ?_ ?_ ?_ ?_) q om
 .exact cG E _ _
 .exact (aB E _ _ 0).trans (cG E _ _)
 .exact (aB E _ _ 1).trans ((aB E _ _ 0).trans (cG E _ _))
 .exact (aB E _ _ 2).trans ((aB E _ _ 1).trans ((aB E _ _ 0).trans (cG E _ _)))
 .exact (aB E _ _ 3).trans ((aB E _ _ 2).trans ((aB E _ _ 1).trans ((aB E _ _ 0).trans (cG E _ _))))
) _))<|aN) kr
abbrev Nt(a b c:X):X:=.o2 0 a (vq b c)
abbrev ace:X:=.i 4503599627370494
abbrev aMI:X:=.f 2002 (bj (cz (Nt mX FD (.i 4503599627370458)) (Nt mr Cf ace) (Nt mw Cg ace) (Nt nS Ch ace) (lD (Nt Ck Ci ace))))
def ajL:Sp:=g9 acd ap6 [cZ aMI]
def Lr:Sp:={ajL with v:=Cj (.f 2004 jJ),l':=ajL.l'}
theorem a6m:ab aa 215 ajL:=aG (t:=[(220,aO PO)]) (lt:=[]) (m:=8) ⟨(aQ WO),trivial⟩ trivial .lf kr
theorem Qc:ab aa 215 Lr:=aL a6m [((dY aMI),(dY (.f 2004 jJ)))] _ _ (al (λE hF=>(aq (λq hq=>by
 have hq:(q:Int) < 5:=hq
 refine Vi (s:=D _) (t:=λi=>D (.v 0) i - D (.v 1) i+(if i=0 then 4503599627370458 else 4503599627370494)) (uC ?_ ?_ ?_ ?_ ?_) q om
 .refine (cG E _ _).trans ?_
  simp only[bB,dH,bl,gY,Int.reduceToNat]
  simp
  omega
 .refine ((aB E _ _ 0).trans (cG E _ _)).trans ?_
  simp only[bB,dH,bl,gY,Int.reduceToNat]
  simp
  omega
 .refine ((aB E _ _ 1).trans ((aB E _ _ 0).trans (cG E _ _))).trans ?_
  simp only[bB,dH,bl,gY,Int.reduceToNat]
  simp
  omega
 .refine ((aB E _ _ 2).trans ((aB E _ _ 1).trans ((aB E _ _ 0).trans (cG E _ _)))).trans ?_
  simp only[bB,dH,bl,gY,Int.reduceToNat]
  simp
  omega
 .refine ((aB E _ _ 3).trans ((aB E _ _ 2).trans ((aB E _ _ 1).trans ((aB E _ _ 0).trans (cG E _ _))))).trans ?_
  simp only[bB,dH,bl,gY,Int.reduceToNat]
  simp
  omega
) _))<|aN) kr
abbrev acf:X:=Jt Ck
abbrev ap7:X:=Jt nS
abbrev z3(a b c d e:X):X:=qw a b (qw c d e)
abbrev ap8:X:=bj (z3 mX FD acf Cf (z3 (Jt mr) Ci ap7 Cg (.o2 2 (Jt mw) Ch)))
abbrev Tb(a:X):X:=pN (.f 2031 a)
abbrev ap9:X:=bj (z3 mX Ci Ck FD (z3 mr Ch nS Cf (.o2 2 mw Cg)))
abbrev Tc(a b:X):X:=.o2 2 (.f 2030 a) b
abbrev Td(a b c:X):X:=.o2 6 a (.o2 10 (.f 2031 b) c)
abbrev aqa:X:=bj (z3 mX Cf acf Cg (z3 mr FD ap7 Ch (.o2 2 (Jt mw) Ci)))
abbrev aqb:X:=bj (z3 mX Cg acf Ch (z3 mr Cf ap7 Ci (.o2 2 mw FD)))
abbrev aqc:X:=bj (z3 mX Ch acf Ci (z3 mr Cg nS FD (.o2 2 mw Cf)))
abbrev aMJ:X:=.f 2002 (bj (cz (.o2 0 (Tb ap8) (Jt (Td (Tc ap9 mW) ap9 vT))) (.o2 0 (Td (Tc ap8 mW) ap8 vT) (Tb aqa)) (.o2 0 (Td (Tc aqa mW) aqa vT) (Tb aqb)) (.o2 0 (Td (Tc aqb mW) aqb vT) (Tb aqc)) (.o2 0 (Td (Tc aqc mW) aqc vT) (Tb ap9))))
def aiE:Sp:=g9 acd ap6 [cZ aMJ]
def A6:Sp:={aiE with v:=Cj (.f 2005 jJ),l':=aiE.l'}
theorem a4u:ab aa 145 aiE:=aG (t:=[(274,aO aBf),(275,bG (aO pLo) (bG (aO pHi) (bG (aO aA9) (aO aAY)))),(220,aO PO)]) (lt:=[]) (m:=8) ⟨(aQ a4p),(cS (aQ a4j) (cS (aQ a3Y) (cS (aQ a4i) (aQ a3X)))),(aQ WO),trivial⟩ trivial .lf kr
theorem DQ:ab aa 145 A6:=aL a4u [((dY aMJ),(dY (.f 2005 jJ)))] _ _ (al (λE hF=>(aq (λq hq=>by
 have bx:Ok (D (.v 0)):=λq _=>hF.vb 0 _ _ rfl q
 have bY:Ok (D (.v 1)):=λq _=>hF.vb 1 _ _ rfl q
 have b:=Go.Sym.ayL bx bY
 have hq:(q:Int) < 5:=hq
 refine Vi (s:=D _) (uC ?_ ?_ ?_ ?_ ?_) q om
 .exact (cG E _ _).trans (mc0 E (x:=D (.v 0)) (y:=D (.v 1)) (b 0 dc) (b 4 dc) (by simp only[bB,dH,bl,gY,fq,Int.reduceToNat]; grind) (by simp only[bB,dH,bl,gY,fq,Int.reduceToNat]; grind))
 .exact ((aB E _ _ 0).trans (cG E _ _)).trans (Wf E (x:=D (.v 0)) (y:=D (.v 1)) (b 1 dc) (b 0 dc) (by simp only[bB,dH,bl,gY,fq,Int.reduceToNat]; grind) (by simp only[bB,dH,bl,gY,fq,Int.reduceToNat]; grind))
 .exact ((aB E _ _ 1).trans ((aB E _ _ 0).trans (cG E _ _))).trans (Wf E (x:=D (.v 0)) (y:=D (.v 1)) (b 2 dc) (b 1 dc) (by simp only[bB,dH,bl,gY,fq,Int.reduceToNat]; grind) (by simp only[bB,dH,bl,gY,fq,Int.reduceToNat]; grind))
 .exact ((aB E _ _ 2).trans ((aB E _ _ 1).trans ((aB E _ _ 0).trans (cG E _ _)))).trans (Wf E (x:=D (.v 0)) (y:=D (.v 1)) (b 3 dc) (b 2 dc) (by simp only[bB,dH,bl,gY,fq,Int.reduceToNat]; grind) (by simp only[bB,dH,bl,gY,fq,Int.reduceToNat]; grind))
 .exact ((aB E _ _ 3).trans ((aB E _ _ 2).trans ((aB E _ _ 1).trans ((aB E _ _ 0).trans (rfl))))).trans (Wf E (x:=D (.v 0)) (y:=D (.v 1)) (b 4 dc) (b 3 dc) (by simp only[bB,dH,bl,gY,fq,Int.reduceToNat]; grind) (by simp only[bB,dH,bl,gY,fq,Int.reduceToNat]; grind))
) _))<|aN) kr
abbrev Ta:Fa:=cI [aca]
abbrev FC(a:X):X:=.o2 14 Te a
abbrev pM(a:X):X:=.o2 14 a ae
abbrev aMC:X:=qw (FF (FG (FC bM) (FG (FC cq) (FG (FC bA) (FG (FC aj) (.o2 0 (pM Te) Nn)))))) Nn (pM Te)
abbrev aMD:X:=.o2 0 (FF aMC) (FC aj)
abbrev aME:X:=.o2 0 (FF aMD) (FC bA)
abbrev aMF:X:=.o2 0 (FF aME) (FC cq)
abbrev aMG:X:=cz (pN aMC) (pN aMD) (pN aME) (pN aMF) (lD (pN (.o2 0 (FF aMF) (FC bM))))
def aiu:Sp:=g9 Ta [FE] [cZ aMG]
abbrev ap5:X:=.f 2001 fO
def aA6:Sp:={aiu with v:=Cj ap5,l':=aiu.l'}
theorem a4d:ab aa 151 aiu:=aG (t:=[(220,aO PO)]) (lt:=[]) (m:=8) ⟨(aQ WO),trivial⟩ trivial .lf kr
theorem a4e:ab aa 151 aA6:=aL a4d [((dY aMG),(dY ap5))] _ _ (al (λE hF=>(aq (λq hq=>by
 have bx:Ok (D (.v 0)):=λq _=>hF.vb 0 _ _ rfl q
 have hq:(q:Int) < 5:=hq
 refine Eq.trans ?_ (Ay (Go.Sym.K2 _) om).symm
 have h:=Go.Sym.aTE bx
 have b:=GJ (ja (D (.v 0)))
 have b0:=(b 0 dc).1; have b1:=(b 1 dc).1; have b2:=(b 2 dc).1; have b3:=(b 3 dc).1; have b4:=(b 4 dc).1
 refine uC (p:=λq=>D _ q=Go.Sym.et (val (D (.v 0)) % pP) q) ?_ ?_ ?_ ?_ ?_ q om
 .refine (cG E _ _).trans (Eq.trans ?_ (h 0 dc).symm)
  show N _=_
  simp only[bB,dH,bl,o4,xq,gY,Int.reduceToNat,OO,Go.Sym.sU,Go.Sym.rf,jT,Nat.zero_add,Nat.reduceAdd]
  generalize cl (ja (D (.v 0)))=c at*
  clear h b bx hF
  repeat rw[QN (by repeat first | assumption | decide | exact kZ _ | refine Aj ?_ ?_ | refine we ?_ ?_ | refine yj ?_ ?_)]
  rw[QO (by repeat first | assumption | decide | exact kZ _ | refine Aj ?_ ?_ | refine we ?_ ?_ | refine yj ?_ ?_)]
 .refine ((aB E _ _ 0).trans (cG E _ _)).trans (Eq.trans ?_ (h 1 dc).symm)
  show N _=_
  simp only[bB,dH,bl,o4,xq,gY,Int.reduceToNat,OO,Go.Sym.sU,Go.Sym.rf,jT,Nat.zero_add,Nat.reduceAdd]
  generalize cl (ja (D (.v 0)))=c at*
  clear h b bx hF
  repeat rw[QN (by repeat first | assumption | decide | exact kZ _ | refine Aj ?_ ?_ | refine we ?_ ?_ | refine yj ?_ ?_)]
  rw[QO (by repeat first | assumption | decide | exact kZ _ | refine Aj ?_ ?_ | refine we ?_ ?_ | refine yj ?_ ?_)]
 .refine ((aB E _ _ 1).trans ((aB E _ _ 0).trans (cG E _ _))).trans (Eq.trans ?_ (h 2 dc).symm)
  show N _=_
  simp only[bB,dH,bl,o4,xq,gY,Int.reduceToNat,OO,Go.Sym.sU,Go.Sym.rf,jT,Nat.zero_add,Nat.reduceAdd]
  generalize cl (ja (D (.v 0)))=c at*
  clear h b bx hF
  repeat rw[QN (by repeat first | assumption | decide | exact kZ _ | refine Aj ?_ ?_ | refine we ?_ ?_ | refine yj ?_ ?_)]
  rw[QO (by repeat first | assumption | decide | exact kZ _ | refine Aj ?_ ?_ | refine we ?_ ?_ | refine yj ?_ ?_)]
 .refine ((aB E _ _ 2).trans ((aB E _ _ 1).trans ((aB E _ _ 0).trans (cG E _ _)))).trans (Eq.trans ?_ (h 3 dc).symm)
  show N _=_
  simp only[bB,dH,bl,o4,xq,gY,Int.reduceToNat,OO,Go.Sym.sU,Go.Sym.rf,jT,Nat.zero_add,Nat.reduceAdd]
  generalize cl (ja (D (.v 0)))=c at*
  clear h b bx hF
  repeat rw[QN (by repeat first | assumption | decide | exact kZ _ | refine Aj ?_ ?_ | refine we ?_ ?_ | refine yj ?_ ?_)]
  rw[QO (by repeat first | assumption | decide | exact kZ _ | refine Aj ?_ ?_ | refine we ?_ ?_ | refine yj ?_ ?_)]
 .refine ((aB E _ _ 3).trans ((aB E _ _ 2).trans ((aB E _ _ 1).trans ((aB E _ _ 0).trans (cG E _ _))))).trans (Eq.trans ?_ (h 4 dc).symm)
  show N _=_
  simp only[bB,dH,bl,o4,xq,gY,Int.reduceToNat,OO,Go.Sym.sU,Go.Sym.rf,jT,Nat.zero_add,Nat.reduceAdd]
  generalize cl (ja (D (.v 0)))=c at*
  clear h b bx hF
  repeat rw[QN (by repeat first | assumption | decide | exact kZ _ | refine Aj ?_ ?_ | refine we ?_ ?_ | refine yj ?_ ?_)]
  rw[QO (by repeat first | assumption | decide | exact kZ _ | refine Aj ?_ ?_ | refine we ?_ ?_ | refine yj ?_ ?_)]
) _))<|aN) kr
abbrev Nr(a:ai):Bl:=⟨95,[a],false,0⟩
abbrev Nx(a b:X):Bl:=⟨27,qH a b,false,0⟩
abbrev acn:Bl:=Nx bW (.v 9)
abbrev aco:X:=cy 3 oH
abbrev aqo:X:=.f 2008 (cy 1 aco)
def Hd:Lp:=⟨cI [acb,(2,0,255),lL,(9,0,255)],[(1,bS),(2,lF),(3,ji),(7,Jo)],3,[(0,Nr Ns),(1,Nx bW (.v 3)),(2,acn)],.exit 0,[(2,lF),(3,ji)],3,[(0,Nr Ns),(1,Nx bW aqo),(2,acn)],bz dV 2⟩
abbrev aqp:X:=.o2 3 (.v 2) vT
abbrev z5(a:X):X:=.o2 4 a aH
abbrev Th:X:=z5 (.v 2)
abbrev mY(a:X):X:=bk a bW
theorem aUx:cr aa Tryz.f85.ntmps (aI 4 (loops (aC Tryz.f85))) Hd Hd.fa:=eX (t:=[]) (lt:=[]) (m:=8) (f:=85) (k:=4) trivial trivial (λ_=>rfl) rfl (.tf (lA 2 dV) (.ge (.o2 1 bM aqp) (.same (mY (.f 2008 (rR 1 (bZ (.v 3) vK (.o2 6 (fZ 3 vK) (.o1 3 (.o2 9 (zI (.o2 10 (pK aqp) (.o2 4 (.v 2) vT))) Th))) aj (eN 3 (Ng vK))) kQ))) (mY aqo) .lf)) (.same (mY (.v 3)) (mY aqo) .lf)) ⟨⟨λE hF=>(by
 have b:=hF.1.b 2 rfl
 have h:N (.v 2) < 255:=hF.2
 rw[iY,bl,@gQ _ E _ _ b.1]
 omega),⟨λE hF=>(aq (λq _=>by
 have b:=hF.1.b 2 rfl
 have h:N (.v 2) < 255:=hF.2
 have e1:(255 - N (.v 2)).toNat=(255 - (N (.v 2)+1)).toNat+1:=by omega
 have e2:254 - (255 - (N (.v 2)+1)).toNat=(N (.v 2)).toNat:=by omega
 have d8:=uQ E 8 8 rfl b.1; have d51:=uQ E 51 51 rfl b.1; have r8:=uR E 8 8 rfl b.1; have r51:=uR E 51 51 rfl b.1
 show Hz.dI (qS (D (.v 1)) (255 - (N (.v 2)+1)).toNat (D _)) q=Hz.dI (qS (D (.v 1)) (255 - N (.v 2)).toNat (D (.v 3))) q
 rw[e1,qS,e2]
 congr 3
 rw[@su _ E _ _ _ (by rw[d8]; omega),d8,fg]
 funext q
 show (if q=_ then N (.o2 6 _ _) else _)=if q=_ then _ else _
 congr 1
 rw[IB]
 congr 1
 .show D (.v 3) (N vK).toNat=_
  rw[d8,fg]
 .rw[a_I]
  show N (.o2 5 _ aj)*((2 ^ (N Th).toNat:Nat):Int) % 256=_
  rw[r8,fg,LZ E _ 1 rfl]
  congr 2
  unfold Om
  show (((((D (.v 1) (N aqp).toNat).toNat>>>(N (.o2 4 (.v 2) vT)).toNat:Nat):Int).toNat % 2 ^ 1:Nat):Int)=_
  rw[d51,r51,fg,fg,fg,qQ]) _),trivial⟩⟩,⟨λE hF=>(aq (λq _=>by
 have h:255<=N (.v 2):=hF.2
 show D (.v 3) q=Hz.dI (qS (D (.v 1)) (255 - N (.v 2)).toNat (D (.v 3))) q
 rw[show (255 - N (.v 2)).toNat=0 by omega,qS,Hz.lR (r:=D (.v 3)) (hF.1.vb 3 _ _ rfl)]) _),trivial⟩⟩ kr
theorem aUv (E:Env) (hF:ah Hd.fa.fx):0<=N Hd.μ:=by
 have h:=(hF.b 2 rfl).2
 show 0<=255 - N (.v 2)
 omega
theorem aUw:ct aa Tryz.f85.ntmps (aI 4 (loops (aC Tryz.f85))) Hd:=aUx.all aUv
theorem aTO:cA aa ((85,4),aW Hd):=dZ Tryz.func85 kr aUw
abbrev aMZ:X:=.f 2008 (.c ap5 xQ)
abbrev z6(a:X):List ai:=qH bW a
def ahS:Sp:=g9 Ta [FE] (z6 aMZ)
abbrev acp:X:=.f 2006 fO
abbrev z7(a:X):V:=Nq bW a
def PN:Sp:={ahS with v:=z7 acp,l':=ahS.l'}
theorem a2s:ab aa 85 ahS:=aG (t:=[(151,aO aA6)]) (lt:=[((85,4),aW Hd)]) (m:=8) ⟨(aQ a4e),trivial⟩ ⟨aTO,trivial⟩ .lf kr
theorem WN:ab aa 85 PN:=aL a2s [((mY aMZ),(mY acp))] _ _ (al (λE hF=>(aq (λq _=>by
 have hn:val (D (.v 0)) % pP < 2 ^ 255:=Gn (gT _ Go.Sym.ow) (by decide+kernel)
 have e:=Go.Sym.as8 (l:=cl (Go.Sym.et (val (D (.v 0)) % pP))) (n:=val (D (.v 0)) % pP) (λi hi=>Ay (Go.Sym.K2 _) hi) 255 (fv _)
 rw[dE hn,yw,wj,sB] at e
 have z:D ae=bV 0:=funext λq=>by show (0:Int)=(((Go.Sym.fV 0 q).toNat:Nat):Int); unfold Go.Sym.fV; rw[Nat.zero_div]; rfl
 show Hz.dI (qS (cl (Go.Sym.et (val (D (.v 0)) % pP))) (255 - (0:Int)).toNat (D ae)) q=bV (val (D (.v 0)) % pP) q
 rw[z,show (255 - (0:Int)).toNat=255 from rfl,e,Hz.lR (r:=Go.Sym.bV _) (Cy.yA _)]) _))<|aN) kr
abbrev Cn:Fa:=cI [oB]
abbrev acq:List ai:=z6 (.v 0)
abbrev x9:V:=.agg acq
abbrev tM(a b c:X):X:=.o2 6 a (.o2 2 b c)
abbrev sc(a b:X):X:=tM a b cV
abbrev ya:X:=.i 65536
abbrev aqq:X:=j7 g7
abbrev tN:X:=.i 1099511627776
abbrev aqr:X:=j7 rQ
abbrev FH:X:=.i 281474976710656
abbrev aqs:X:=j7 jh
abbrev acr:X:=tM (tM (tM (tM (tM (tM (sc (.o2 6 ae mX) mr) mw ya) nS tp) Ck vE) aqq tN) aqr FH) aqs B9
abbrev mZ(a:X)(b:Nat)(c d:X):X:=tM a (fZ b c) d
abbrev sd:X:=.i 10
abbrev pO(a:X)(b:Int)(c:X)(d:Int)(e:X):X:=mZ (mZ a 0 (.i b) c) 0 (.i d) e
abbrev aci:X:=mZ (pO (pO (mZ (mZ (Fg ae aH) 0 (.i 9) cV) 0 sd ya) 11 tp 12 vE) 13 tN 14 FH) 0 vL B9
abbrev acj:X:=pO (pO (mZ (pO (Fg ae dA) 17 cV 18 ya) 0 Nn tp) 20 vE 21 tN) 22 FH 23 B9
abbrev oV:X:=.i 24
abbrev Nw:X:=.i 30
abbrev aqh:X:=j7 nG
abbrev ack:X:=tM (mZ (pO (pO (mZ (Fg ae oV) 0 (.i 25) cV) 26 ya 27 tp) 28 vE 29 tN) 0 Nw FH) aqh B9
abbrev aMT:X:=cz (pN acr) (pN (.o2 6 (FF acr) (Ni aci mW))) (pN (.o2 6 (.o2 10 aci (.i 38)) (Ni acj (.i 67108864)))) (pN (.o2 6 (.o2 10 acj (.i 25)) (Ni ack (.i 549755813888)))) (lD (pN (.o2 10 ack (.i 12))))
def aie:Sp:=g9 Cn [x9] [cZ aMT]
abbrev Tf:X:=.f 2000 fO
def aAu:Sp:={aie with v:=Cj Tf,l':=aie.l'}
theorem a3s:ab aa 276 aie:=aG (t:=[]) (lt:=[]) (m:=8) trivial trivial .lf kr
theorem a3t:ab aa 276 aAu:=aL a3s [((dY aMT),(dY Tf))] _ _ (al (λE hF=>(aq (λq hq=>by
 have hb:Go.Sym.By (D (.v 0)):=hF.vb 0 _ _ rfl
 have hq:(q:Int) < 5:=hq
 rw[at9,Ay (Go.Sym.K2 _) (show q < 5 by omega)]
 have h:=Go.Sym.aSt hb
 have w0:=Li hb 0; have w1:=Li hb 1; have w2:=Li hb 2; have w3:=Li hb 3
 simp only[Nat.mul_zero,Nat.zero_add,Nat.reduceMul,Nat.reduceAdd] at w0 w1 w2 w3
 have b0:=Go.Sym.ve hb 0; have b1:=Go.Sym.ve hb 1; have b2:=Go.Sym.ve hb 2; have b3:=Go.Sym.ve hb 3
 refine uC (p:=λq=>D _ q=Go.Sym.et (Go.Sym.aJ (Go.Sym.bv (D (.v 0))) 32) q) ?_ ?_ ?_ ?_ ?_ q om
 .refine (cG E _ _).trans (Eq.trans ?_ (h 0 dc).symm)
  show N _=_
  simp only[bB,dH,bl,o4,kG E _ (k:=51) 2251799813685248 rfl,kG E _ (k:=38) 274877906944 rfl,kG E _ (k:=25) 33554432 rfl,kG E _ (k:=12) 4096 rfl,gY,IB,Bp,Int.reduceToNat]
  rw[w0]
  simp only[Go.Sym.uF,Nat.reducePow]
  omega
 .refine ((aB E _ _ 0).trans (cG E _ _)).trans (Eq.trans ?_ (h 1 dc).symm)
  show N _=_
  simp only[bB,dH,bl,o4,kG E _ (k:=51) 2251799813685248 rfl,kG E _ (k:=38) 274877906944 rfl,kG E _ (k:=25) 33554432 rfl,kG E _ (k:=12) 4096 rfl,gY,IB,Bp,Int.reduceToNat]
  rw[w0,w1,wS 13 (by simp only[Nat.reducePow]; omega) om (by simp only[Nat.reducePow]; omega)]
  simp only[Go.Sym.uF,Nat.reducePow]
  omega
 .refine ((aB E _ _ 1).trans ((aB E _ _ 0).trans (cG E _ _))).trans (Eq.trans ?_ (h 2 dc).symm)
  show N _=_
  simp only[bB,dH,bl,o4,kG E _ (k:=51) 2251799813685248 rfl,kG E _ (k:=38) 274877906944 rfl,kG E _ (k:=25) 33554432 rfl,kG E _ (k:=12) 4096 rfl,gY,IB,Bp,Int.reduceToNat]
  rw[w1,w2,wS 26 (by simp only[Nat.reducePow]; omega) om (by simp only[Nat.reducePow]; omega)]
  simp only[Go.Sym.uF,Nat.reducePow]
  omega
 .refine ((aB E _ _ 2).trans ((aB E _ _ 1).trans ((aB E _ _ 0).trans (cG E _ _)))).trans (Eq.trans ?_ (h 3 dc).symm)
  show N _=_
  simp only[bB,dH,bl,o4,kG E _ (k:=51) 2251799813685248 rfl,kG E _ (k:=38) 274877906944 rfl,kG E _ (k:=25) 33554432 rfl,kG E _ (k:=12) 4096 rfl,gY,IB,Bp,Int.reduceToNat]
  rw[w2,w3,wS 39 (by simp only[Nat.reducePow]; omega) om (by simp only[Nat.reducePow]; omega)]
  simp only[Go.Sym.uF,Nat.reducePow]
  omega
 .refine ((aB E _ _ 3).trans ((aB E _ _ 2).trans ((aB E _ _ 1).trans ((aB E _ _ 0).trans (cG E _ _))))).trans (Eq.trans ?_ (h 4 dc).symm)
  show N _=_
  simp only[bB,dH,bl,o4,kG E _ (k:=51) 2251799813685248 rfl,kG E _ (k:=38) 274877906944 rfl,kG E _ (k:=25) 33554432 rfl,kG E _ (k:=12) 4096 rfl,gY,IB,Bp,Int.reduceToNat]
  rw[w3]
  simp only[Go.Sym.uF,Nat.reducePow]
  omega
) _))<|aN) kr
open Go.Sym (lk mulR rA aJ bv By aeo o5 et avo wD wT yX eI eS eQ)
theorem UD (E:Env) (a i:X) (hb:By (D a)) (h:0<=N i) (h2:N i < 256):N (.o2 5 (.o2 10 (.o2 14 a (.o2 3 i aH)) (.o2 4 i aH)) aj)=((aJ (bv (D a)) 32 / 2 ^ (N i).toNat % 2:Nat):Int):=by
 rw[LZ E _ 1 rfl,<- aeo hb om]
 have d:=uQ E 8 8 rfl h; have r:=uR E 8 8 rfl h
 show (((((D a (N (.o2 3 i aH)).toNat).toNat>>>(N (.o2 4 i aH)).toNat:Nat):Int).toNat % 2 ^ 1:Nat):Int)=_
 rw[d,r,fg,fg,fg,qQ]
theorem u9 (E:Env) {m:Int} {n:Nat} (e:m=n) (h:n < 2 ^ 51):D (.o3 0 (.i m) aj BN)=et n:=by
 rw[avo h,e]
 funext q
 rw[Kw,Kw]
 split
 .rfl
 .split <;>rfl
def OL (a b:Int):R:=O3 0 (λ_=>a) (λ_=>1) (O3 0 (λ_=>255) (λ_=>30) (O3 0 (λ_=>b) (λ_=>1) (λ_=>0)))
theorem exD (E:Env) (a b:Int):D (.o3 0 (.i a) aj (.o3 0 dV Nw (.o3 0 (.i b) aj ae)))=OL a b:=by
 rw[yg,yg,yg]
 simp only[JT]
 rfl
theorem aRR:aJ (bv (OL 235 127)) 32=eI:=by decide+kernel
theorem aRT:aJ (bv (OL 254 15)) 32=eS:=by decide+kernel
theorem aRS:aJ (bv (OL 251 31)) 32=eQ:=by decide+kernel
theorem GV (E:Env) (x e m k:X):D (.f 2010 (.c x (.c e (.c m (.c k .n)))))=cl (lk (D x) (aJ (bv (D e)) 32) (N k+1).toNat (D m)):=rfl
abbrev aqi:Nat×Int×Int:=(3,0,2251799813947392)
abbrev aMU:gk:=[(2,bS),(3,ji),(4,lF),(5,qG),(6,Jo)]
abbrev aMV:Nat×Bl:=(0,Nr (cZ (.v 0)))
abbrev aMW:Nat×Bl:=(1,Nx bW (.v 1))
abbrev aMX:Nat×Bl:=(2,Nr (cZ (.v 9)))
abbrev aqj:gk:=[(4,lF),(5,qG)]
abbrev aqk:X:=cN 0 1 aco
def Hu:Lp:=⟨cI [aca,Cd,(2,-1,255),aqi,(9,0,18446744073709551615)],aMU,4,[aMV,aMW,aMX,(3,Nr (cZ (.v 3)))],.exit 0,aqj,4,[aMV,aMW,aMX,(3,Nr (cZ (.f 2010 aqk)))],kQ⟩
abbrev acm:X:=EH 2 ae
abbrev Jv(a:X):X:=.o2 1 jh a
abbrev aql:X:=zI (.o2 10 (pK vK) Th)
abbrev Tg:X:=cy 3 I7
abbrev Jw(a b:X):X:=.f 2005 (.c a b)
abbrev aqm:X:=BS 2
abbrev Cl:X:=bj aqm
abbrev aqn:X:=dY (.f 2010 aqk)
theorem aXx:cr aa Tryz.f221.ntmps (aI 3 (loops (aC Tryz.f221))) Hu Hu.fa:=eX (t:=[(145,aO A6)]) (lt:=[]) (m:=8) (f:=221) (k:=3) ⟨(aQ DQ),trivial⟩ trivial (λ_=>rfl) rfl (.tf acm (.ge vK (.ge (.o2 1 nG vK) (.ge Th (.ge (Jv Th) (.tf (rS aql) (.same (dY (.f 2010 (tD 0 1 (Jw (.f 2005 Tg) fO) Cl))) aqn .lf) (.same (dY (.f 2010 (tD 0 1 (.f 2005 Tg) Cl))) aqn .lf)))))) (.same (dY (.v 3)) aqn .lf)) ⟨(HY (λE hF=>by
 have b:=(hF.1.b 2 rfl).2
 have h:0<=N (.v 2):=hF.2
 refine⟨?_,?_,?_,?_⟩
 .rw[uQ E 8 8 rfl h]
  omega
 .rw[iY,bl,uQ E 8 8 rfl h]
  omega
 .rw[uR E 8 8 rfl h]
  omega
 .rw[iY,bl,uR E 8 8 rfl h]
  omega) (⟨⟨λE hF=>(aq (λq _=>by
 have b:=(hF.1.1.b 2 rfl).2
 have h:0<=N (.v 2):=hF.1.2
 have hb:N aql=1:=hF.2
 rw[UD E (.v 1) (.v 2) (hF.1.1.vb 1 _ _ rfl) h om] at hb
 rw[GV,GV,show N aqm+1=N (.v 2) by rw[bB,bl]; omega,show (N (.v 2)+1).toNat=(N (.v 2)).toNat+1 by omega,lk,if_pos om]
 rfl) _),trivial⟩,⟨λE hF=>(aq (λq _=>by
 have b:=(hF.1.1.b 2 rfl).2
 have h:0<=N (.v 2):=hF.1.2
 have hb:¬N aql=1:=hF.2
 rw[UD E (.v 1) (.v 2) (hF.1.1.vb 1 _ _ rfl) h om] at hb
 rw[GV,GV,show N aqm+1=N (.v 2) by rw[bB,bl]; omega,show (N (.v 2)+1).toNat=(N (.v 2)).toNat+1 by omega,lk,if_neg om]
 rfl) _),trivial⟩⟩)),⟨λE hF=>(aq (λq _=>by
 have b:=(hF.1.b 2 rfl).1
 have h:N (.v 2) < 0:=hF.2
 rw[GV,show (N (.v 2)+1).toNat=0 by omega,lk,o5 (r:=D (.v 3)) (hF.1.vb 3 _ _ rfl)]) _),trivial⟩⟩ kr
theorem aXv (E:Env) (hF:ah Hu.fa.fx):0<=N Hu.μ:=by
 have h:=(hF.b 2 rfl).1
 show 0<=N (.v 2)+1
 omega
theorem aXw:ct aa Tryz.f221.ntmps (aI 3 (loops (aC Tryz.f221))) Hu:=aXx.all aXv
theorem aT1:cA aa ((221,3),aW Hu):=dZ Tryz.func221 kr aXw
abbrev aMY:V:=z7 (.v 1)
abbrev r9(a b:X):X:=.o3 0 a aj b
abbrev z4:X:=r9 aj BN
abbrev ach:X:=di z4 dV
def ai9:Sp:=g9 (cI [aca,Cd]) [FE,aMY] [cZ (.f 2010 (cN 0 1 ach))]
theorem aBT:ab aa 221 ai9:=aG (t:=[]) (lt:=[((221,3),aW Hu)]) (m:=8) trivial ⟨aT1,trivial⟩ .lf kr
abbrev aMQ:X:=.f 2010 (bL 0 (bZ (.i 235) aj dV Nw (lD (.i 127))) ach)
def aip:Sp:=g9 Ta [FE] [cZ aMQ]
def WZ:Sp:={aip with v:=Cj (.f 2011 fO),l':=aip.l'}
theorem a31:ab aa 147 aip:=aG (t:=[(221,aO ai9)]) (lt:=[]) (m:=8) ⟨(aQ aBT),trivial⟩ trivial .lf kr
theorem aiq:ab aa 147 WZ:=aL a31 [((dY aMQ),(dY (.f 2011 fO)))] _ _ (al (λE hF=>(aq (λq _=>by
 rw[GV,u9 E (m:=1) (n:=1) rfl dc]
 show cl (lk (D (.v 0)) (aJ (bv (OL 235 127)) 32) _ _) q=_
 rw[aRR]
 rfl) _))<|aN) kr
open Go.Sym (as6 Ot ow lr DY jX)
theorem aFd (x:R):val x % pP < 2 ^ 256:=Gn (gT _ ow) (by decide+kernel)
theorem uz (E:Env) (a b:X):N (.o3 2 (.f 2006 (.c a .n)) (.f 2006 (.c b .n)) bW)=tf (decide (val (D a) % pP=val (D b) % pP)):=by
 show tf (decide (∀i:Nat,i < 32->Go.Sym.bV _ i=Go.Sym.bV _ i))=_
 congr 1
 exact decide_eq_decide.2 (as6 (aFd _) (aFd _))
theorem a0L (E:Env) (a:X):N (.o2 12 (.o2 5 (.o2 14 (.f 2006 (.c a .n)) ae) aj) aj)=tf (decide (val (D a) % pP % 2=1)):=by
 show tf (decide (N (.o2 5 _ aj)=1))=_
 rw[LZ E _ 1 rfl]
 congr 1
 refine decide_eq_decide.2 ?_
 show (((Go.Sym.bV (val (D a) % pP) 0).toNat % 2 ^ 1:Nat):Int)=1↔_
 rw[Ot,fg,Nat.mul_zero,wj,Gj]
 omega
theorem ifE (E:Env) (a b x y:X) (q:Nat):D (.o3 1 (.o1 8 (.o3 2 (.f 2006 (.c a .n)) (.f 2006 (.c b .n)) bW)) x y) q=if val (D a) % pP=val (D b) % pP then D y q else D x q:=by
 show (if tf (decide (N (.o3 2 _ _ _)=0))=0 then _ else _)=_
 rw[uz]
 by_cases h:val (D a) % pP=val (D b) % pP
 .rw[decide_eq_true h,if_pos h]; rfl
 .rw[decide_eq_false h,if_neg h]; rfl
theorem ifO (E:Env) (a x y:X) (q:Nat):D (.o3 1 (.o2 12 (.o2 5 (.o2 14 (.f 2006 (.c a .n)) ae) aj) aj) x y) q=if val (D a) % pP % 2=1 then D x q else D y q:=by
 show (if N (.o2 12 _ _)=0 then _ else _)=_
 rw[a0L]
 by_cases h:val (D a) % pP % 2=1
 .rw[decide_eq_true h,if_pos h]; rfl
 .rw[decide_eq_false h,if_neg h]; rfl
theorem lV (E:Env) (a b:X):D (.f 2005 (.c a (.c b .n)))=eW (D a) (D b):=rfl
open Go.Sym (ll iX AU Qr ahs)
theorem nh (E:Env) (a b:X):D (.f 2004 (.c a (.c b .n)))=mF (D a) (D b):=rfl
theorem aub (E:Env) (a:X):D (.f 2012 (.c a .n))=wT (D a):=o5 (ahs _)
theorem auc (E:Env) (a:X):D (.f 2013 (.c a .n))=Cy.cB (yX (D a)):=rfl
theorem aDt (E:Env) (x e:X) {n:Nat} (h:aJ (bv (D e)) 32=n):D (.f 2010 (.c x (.c e (.c z4 (.c dV .n)))))=lk (D x) n 256 (et 1):=by
 rw[GV,u9 E (m:=1) (n:=1) rfl dc,h]
 exact o5 (Qr _ _ _ _ λi=>AU _ _)
abbrev aqg:X:=bZ (.i 254) aj dV Nw (lD vL)
theorem aki (E:Env) (x:X):D (.f 2010 (.c x (.c aqg (.c z4 (.c dV .n)))))=ll (D x):=aDt E x aqg (by rw[exD]; exact aRT)
abbrev aMR:X:=bZ (.i 251) aj dV Nw (lD nG)
abbrev aMS:X:=.f 2010 (dG (r9 bA BN) aMR ach)
theorem aDs (E:Env):D aMS=iX:=(aDt E _ aMR (n:=eQ) (by rw[exD]; exact aRS)).trans (by rw[u9 E (m:=2) (n:=2) rfl dc])
abbrev Nv:X:=.f 2010 (bL 0 aqg ach)
abbrev oU(a b:X):X:=.f 2005 (di a b)
abbrev x8(a:X):X:=.f 2006 (bj a)
abbrev Ju(a b:X):X:=.o3 2 a b bW
abbrev aqy:X:=.o1 8 (Ju (x8 (oU Nv Nv)) acp)
abbrev Ti:X:=oU Nv aMS
abbrev aqz:X:=.o1 8 (Ju (x8 (oU Ti Ti)) acp)
abbrev aNo:X:=rS (zI (pM (x8 Ti)))
abbrev Ny(a b:X):X:=.f 2004 (di a b)
abbrev aNp:X:=rS (zI (pM (x8 Nv)))
abbrev aNq:X:=.o3 1 aqy (pz aqz (.o3 1 aNo (Ny ae Ti) Ti)) (.o3 1 aNp (Ny ae Nv) Nv)
abbrev aNr:X:=.o3 1 aqy (.o1 8 aqz) aj
def ajJ:Sp:=lC Ta [FE] (vz [cZ aNq] (.c (.bx aNr)))
def aCu:Sp:={ajJ with v:=vz [cZ (.f 2012 fO)] (.c (.bx (.f 2013 fO))),l':=ajJ.l'}
theorem a6d:ab aa 278 ajJ:=aG (t:=[(85,aO PN),(215,aO Lr),(145,aO A6),(221,aO ai9)]) (lt:=[]) (m:=8) ⟨(aQ WN),(aQ Qc),(aQ DQ),(aQ aBT),trivial⟩ trivial (.tf aqy (.tf aqz .lf (.tf aNo .lf .lf)) (.tf aNp .lf .lf)) kr
theorem a6e:ab aa 278 aCu:=aL a6d [((dY aNq),(dY (.f 2012 fO))),((ao aNr),(ao (.f 2013 fO)))] _ _ (al (λE hF=>(aq (λq _=>by
 simp only[ifE,ifO,lV,nh,aki,aDs,aub]
 unfold wT jX
 generalize D (.v 0)=x
 by_cases h1:val (eW (ll x) (ll x)) % pP=val x % pP
 .simp only[if_pos h1]
  split <;>rfl
 .simp only[if_neg h1]
  split
  .split <;>rfl
  .rfl) _))<|al (λE hF=>(uU (by
 show D _ 0=D _ 0
 rw[ifE,auc]
 simp only[lV,aki]
 unfold yX jX Cy.cB
 by_cases h1:val (eW (ll (D (.v 0))) (ll (D (.v 0)))) % pP=val (D (.v 0)) % pP
 .simp only[if_pos h1]
  rw[decide_eq_true h1]
  rfl
 .simp only[if_neg h1]
  show tf (decide (tf (decide (N (.o3 2 _ _ _)=0))=0))=_
  rw[uz]
  simp only[lV,aki,aDs]
  by_cases h2:val (eW (eW (ll (D (.v 0))) iX) (eW (ll (D (.v 0))) iX)) % pP=val (D (.v 0)) % pP
  .rw[decide_eq_true h2]; rfl
  .rw[decide_eq_false h2]; rfl)))<|aN) kr
open Go.Sym (qm D1 D4 D2 D3 sh gB asE nr alA nc yY lQ aeh Qy Oi)
theorem pW (E:Env) (a:X) (k:Int):D (.o2 15 a (.i k))=sh (D a) k.toNat:=rfl
theorem sM (E:Env) (a b:X):D (.f 2003 (.c a (.c b .n)))=uA (D a) (D b):=rfl
theorem qa (E:Env) (a:X):D (.f 2011 (.c a .n))=wD (D a):=o5 (Qr _ _ _ _ λi=>AU _ _)
theorem qb (E:Env) (a:X):D (.f 2014 (.c a .n))=(lr (D a)).1:=o5 (Qy _)
theorem aud (E:Env) (a:X):D (.f 2015 (.c a .n))=Cy.cB (lr (D a)).2:=rfl
abbrev Tj:X:=.f 2016 .n
theorem qZ (E:Env):D Tj=nc:=o5 Go.Sym.aRC
abbrev se:X:=.f 2017 .n
theorem GW (E:Env):D se=lQ:=o5 aeh
abbrev sf:X:=.f 2018 .n
theorem KJ (E:Env):D sf=nr:=o5 alA
theorem qc (E:Env) (a b:X):D (.f 2020 (.c a (.c b .n)))=gB (D a) (D b):=o5 (asE _ _)
theorem rj (E:Env):D z4=yY:=u9 E (m:=1) (n:=1) rfl dc
theorem zT (E:Env):val (D ae) % pP=0:=by
 show val (λ_=>0) % pP=0
 decide+kernel
abbrev Tk:X:=.f 2006 qz
theorem ifZ (E:Env) (a x y:X) (q:Nat):D (.o3 1 (.o3 2 (.f 2006 (.c a .n)) Tk bW) x y) q=if val (D a) % pP=0 then D x q else D y q:=by
 show (if N (.o3 2 _ _ _)=0 then _ else _)=_
 rw[uz,zT]
 by_cases h:val (D a) % pP=0
 .rw[decide_eq_true h,if_pos h]; rfl
 .rw[decide_eq_false h,if_neg h]; rfl
abbrev aNs:X:=cz (.i 929955233495203) (.i 466365720129213) (.i 1662059464998953) (.i 2033849074728123) (lD (.i 1442794654840575))
def ah8:Sp:=g9 oE [] [cZ aNs]
def ah7:Sp:={ah8 with v:=Cj Tj,l':=ah8.l'}
theorem a21:ab aa 217 ah8:=aG (t:=[]) (lt:=[]) (m:=8) trivial trivial .lf kr
theorem az9:ab aa 217 ah7:=aL a21 [((dY aNs),(dY Tj))] _ _ (al (λE hF=>(aq (λq hq=>by
 have hq:(q:Int) < 5:=hq
 rw[qZ]
 refine uC (p:=λq=>D _ q=nc q) ?_ ?_ ?_ ?_ ?_ q om
 .exact (cG E _ _).trans (show (929955233495203:Int)=nc 0 by decide+kernel)
 .exact ((aB E _ _ 0).trans (cG E _ _)).trans (show (466365720129213:Int)=nc 1 by decide+kernel)
 .exact ((aB E _ _ 1).trans ((aB E _ _ 0).trans (cG E _ _))).trans (show (1662059464998953:Int)=nc 2 by decide+kernel)
 .exact ((aB E _ _ 2).trans ((aB E _ _ 1).trans ((aB E _ _ 0).trans (cG E _ _)))).trans (show (2033849074728123:Int)=nc 3 by decide+kernel)
 .exact ((aB E _ _ 3).trans ((aB E _ _ 2).trans ((aB E _ _ 1).trans ((aB E _ _ 0).trans (cG E _ _))))).trans (show (1442794654840575:Int)=nc 4 by decide+kernel)
) _))<|aN) kr
abbrev Tl:ai:=cZ ae
abbrev acx:ai:=cZ z4
abbrev aNt:X:=oU ae z4
def akb:Sp:=g9 oE [] [de,Tl,acx,acx,cZ aNt]
abbrev pQ(a:X):ai:=cZ (.o2 15 a g7)
abbrev aNu:ai:=pQ sf
abbrev pR(a:X):ai:=cZ (.o2 15 a sd)
abbrev aNv:ai:=pR sf
abbrev qJ(a:X):ai:=cZ (.o2 15 a vL)
abbrev aNw:ai:=qJ sf
def aka:Sp:={akb with v:=.agg [de,cZ sf,aNu,aNv,aNw],l':=akb.l'}
theorem a7d:ab aa 141 akb:=aG (t:=[(145,aO A6)]) (lt:=[]) (m:=8) ⟨(aQ DQ),trivial⟩ trivial .lf kr
abbrev acy:X:=dY z4
abbrev sg(a b:X):X:=dY (.o2 15 a b)
theorem aC7:ab aa 141 aka:=aL a7d [((dY ae),(dY sf)),(acy,(sg sf g7)),(acy,(sg sf sd)),((dY aNt),(sg sf vL))] _ _ (al (λE hF=>(aq (λq hq=>by
 have hq:(q:Int) < 5:=hq
 rw[KJ]
 unfold nr Go.Sym.ob
 exact (D1 (show q < 5 by omega)).symm) _))<|al (λE hF=>(aq (λq hq=>by
 have hq:(q:Int) < 5:=hq
 rw[m6,KJ]
 simp only[lV,nh,sM,qa,qb,qZ,pW,rj,Int.reduceToNat]
 unfold nr Go.Sym.ob
 exact (D4 (show q < 5 by omega)).symm) _))<|al (λE hF=>(aq (λq hq=>by
 have hq:(q:Int) < 5:=hq
 rw[m6,KJ]
 simp only[lV,nh,sM,qa,qb,qZ,pW,rj,Int.reduceToNat]
 unfold nr Go.Sym.ob
 exact (D2 (show q < 5 by omega)).symm) _))<|al (λE hF=>(aq (λq hq=>by
 have hq:(q:Int) < 5:=hq
 rw[m6,KJ]
 simp only[lV,nh,sM,qa,qb,qZ,pW,rj,Int.reduceToNat]
 unfold nr Go.Sym.ob
 exact (D3 (show q < 5 by omega)).symm) _))<|aN) kr
abbrev aqA:ai:=pQ (.v 1)
abbrev aqB:ai:=pR (.v 1)
abbrev aqu:ai:=qJ (.v 1)
abbrev aM6:X:=.c (eN 0 g7) fO
abbrev aM7:X:=.c (eN 1 g7) vo
abbrev acu:X:=di (oU (.f 2003 aM6) (.f 2003 aM7)) (oU (.f 2004 aM6) (.f 2004 aM7))
abbrev aM8:X:=oU (eN 0 sd) (eN 1 sd)
abbrev aM9:X:=oU (oU (eN 0 vL) (eN 1 vL)) Tj
abbrev acv:X:=di (.f 2003 (di aM8 aM8)) (.f 2003 (di aM9 aM9))
abbrev aNa:X:=oU (.f 2004 acu) (.f 2004 acv)
abbrev aNb:X:=oU (.f 2003 acv) (.f 2003 acu)
abbrev aNc:X:=oU (.f 2004 acv) (.f 2003 acv)
abbrev aNd:X:=oU (.f 2004 acu) (.f 2003 acu)
def ai6:Sp:=g9 acd [.agg [de,cZ (.v 0),pQ (.v 0),pR (.v 0),qJ (.v 0)],.agg [de,Ns,aqA,aqB,aqu]] [de,cZ aNa,cZ aNb,cZ aNc,cZ aNd]
abbrev FI:X:=.f 2020 jJ
def ai5:Sp:={ai6 with v:=.agg [de,cZ FI,pQ FI,pR FI,qJ FI],l':=ai6.l'}
theorem a5c:ab aa 144 ai6:=aG (t:=[(216,aO ahx),(215,aO Lr),(145,aO A6),(217,aO ah7)]) (lt:=[]) (m:=8) ⟨(aQ azG),(aQ Qc),(aQ DQ),(aQ az9),trivial⟩ trivial .lf kr
theorem aBM:ab aa 144 ai5:=aL a5c [((dY aNa),(dY FI)),((dY aNb),(sg FI g7)),((dY aNc),(sg FI sd)),((dY aNd),(sg FI vL))] _ _ (al (λE hF=>(aq (λq hq=>by
 have hq:(q:Int) < 5:=hq
 rw[qc]
 simp only[lV,nh,sM,qa,qb,qZ,pW,rj,Int.reduceToNat]
 unfold gB Go.Sym.KB
 exact (D1 (show q < 5 by omega)).symm) _))<|al (λE hF=>(aq (λq hq=>by
 have hq:(q:Int) < 5:=hq
 rw[m6,qc]
 simp only[lV,nh,sM,qa,qb,qZ,pW,rj,Int.reduceToNat]
 unfold gB Go.Sym.KB
 exact (D4 (show q < 5 by omega)).symm) _))<|al (λE hF=>(aq (λq hq=>by
 have hq:(q:Int) < 5:=hq
 rw[m6,qc]
 simp only[lV,nh,sM,qa,qb,qZ,pW,rj,Int.reduceToNat]
 unfold gB Go.Sym.KB
 exact (D2 (show q < 5 by omega)).symm) _))<|al (λE hF=>(aq (λq hq=>by
 have hq:(q:Int) < 5:=hq
 rw[m6,qc]
 simp only[lV,nh,sM,qa,qb,qZ,pW,rj,Int.reduceToNat]
 unfold gB Go.Sym.KB
 exact (D3 (show q < 5 by omega)).symm) _))<|aN) kr
abbrev aNe:X:=.f 2005 (cy 0 fO)
abbrev aNf:X:=bj (.f 2003 (di (oU Tj aNe) z4))
abbrev aqv:X:=Ju (.f 2006 aNf) Tk
abbrev aNg:X:=Ny aNe z4
abbrev aNh:X:=bj (oU aNg (.f 2011 aNf))
abbrev aNi:X:=pz aqv (.f 2012 aNh)
abbrev aNj:X:=.o3 1 aqv (Ju (x8 aNg) Tk) (.f 2013 aNh)
def ajq:Sp:=lC Ta [FE] (vz [cZ aNi] (.c (.bx aNj)))
def ajp:Sp:={ajq with v:=vz [cZ (.f 2014 fO)] (.c (.bx (.f 2015 fO))),l':=ajq.l'}
theorem a5N:ab aa 148 ajq:=aG (t:=[(85,aO PN),(216,aO ahx),(215,aO Lr),(145,aO A6),(147,aO WZ),(278,aO aCu),(217,aO ah7)]) (lt:=[]) (m:=8) ⟨(aQ WN),(aQ azG),(aQ Qc),(aQ DQ),(aQ aiq),(aQ a6e),(aQ az9),trivial⟩ trivial (.tf aqv .lf .lf) kr
theorem aCd:ab aa 148 ajp:=aL a5N [((dY aNi),(dY (.f 2014 fO))),((ao aNj),(ao (.f 2015 fO)))] _ _ (al (λE hF=>(aq (λq _=>by
 rw[ifZ,qb]
 simp only[lV,nh,sM,qa,qZ,aub,rj]
 unfold lr DY
 split <;>rfl) _))<|al (λE hF=>(uU (by
 show D _ 0=D _ 0
 rw[ifZ,aud,auc]
 show (if _ then N (.o3 2 _ _ _) else _)=_
 rw[uz,zT]
 simp only[lV,nh,sM,qa,qZ,rj]
 unfold lr DY
 split <;>rfl)))<|aN) kr
abbrev acw:X:=oU (r9 bM BN) (.f 2011 (bj (r9 g7 BN)))
abbrev aqw:X:=.f 2014 (bj acw)
abbrev aNk:X:=oU aqw acw
def ahH:Sp:=g9 oE [] [de,cZ aqw,cZ acw,acx,cZ aNk]
abbrev aNl:ai:=pQ se
abbrev aNm:ai:=pR se
abbrev aNn:ai:=qJ se
abbrev aqx:List ai:=[de,cZ se,aNl,aNm,aNn]
def ahG:Sp:={ahH with v:=.agg aqx,l':=ahH.l'}
theorem a2b:ab aa 83 ahH:=aG (t:=[(145,aO A6),(147,aO WZ),(148,aO ajp)]) (lt:=[]) (m:=8) ⟨(aQ DQ),(aQ aiq),(aQ aCd),trivial⟩ trivial .lf kr
theorem azK:ab aa 83 ahG:=aL a2b [((dY aqw),(dY se)),((dY acw),(sg se g7)),(acy,(sg se sd)),((dY aNk),(sg se vL))] _ _ (al (λE hF=>(aq (λq hq=>by
 have hq:(q:Int) < 5:=hq
 rw[GW]
 simp only[lV,nh,sM,qa,qb,qZ,pW,rj,Int.reduceToNat,u9 E (m:=4) (n:=4) rfl dc,u9 E (m:=5) (n:=5) rfl dc]
 unfold lQ Go.Sym.ob
 exact (D1 (show q < 5 by omega)).symm) _))<|al (λE hF=>(aq (λq hq=>by
 have hq:(q:Int) < 5:=hq
 rw[m6,GW]
 simp only[lV,nh,sM,qa,qb,qZ,pW,rj,Int.reduceToNat,u9 E (m:=4) (n:=4) rfl dc,u9 E (m:=5) (n:=5) rfl dc]
 unfold lQ Go.Sym.ob
 exact (D4 (show q < 5 by omega)).symm) _))<|al (λE hF=>(aq (λq hq=>by
 have hq:(q:Int) < 5:=hq
 rw[m6,GW]
 simp only[lV,nh,sM,qa,qb,qZ,pW,rj,Int.reduceToNat,u9 E (m:=4) (n:=4) rfl dc,u9 E (m:=5) (n:=5) rfl dc]
 unfold lQ Go.Sym.ob
 exact (D2 (show q < 5 by omega)).symm) _))<|al (λE hF=>(aq (λq hq=>by
 have hq:(q:Int) < 5:=hq
 rw[m6,GW]
 simp only[lV,nh,sM,qa,qb,qZ,pW,rj,Int.reduceToNat,u9 E (m:=4) (n:=4) rfl dc,u9 E (m:=5) (n:=5) rfl dc]
 unfold lQ Go.Sym.ob
 exact (D3 (show q < 5 by omega)).symm) _))<|aN) kr
end
end Go.Proofs.Y
namespace Go.Proofs.Y
open Go Go.Z
section
open Hz
open Go.Sym (wv lw wR Wd Yt Bo alu alv XG bo co wy D5 avn avm asL Ba y9 akw alw alo ag8 as9 gL vd akX Wa dJ s9 Bm kF iP aJ bv By aeo bV w8 ve)
theorem aSd (E:Env) (a b c:X):N (.f 2050 (.c a (.c b (.c c .n))))=(N a - N b - N c) % 18446744073709551616:=rfl
theorem aSe (E:Env) (a b c:X):N (.f 2051 (.c a (.c b (.c c .n))))=tf (decide (N a < N b+N c)):=rfl
theorem Vf (E:Env) (a b c:X):N (.f 2052 (.c a (.c b (.c c .n))))=(N a+N b+N c) % 18446744073709551616:=rfl
theorem ae0 (E:Env) (a b c:X):N (.f 2053 (.c a (.c b (.c c .n))))=tf (decide (18446744073709551616<=N a+N b+N c)):=rfl
theorem eight {p:Nat->Prop} (h0:p 0) (h1:p 1) (h2:p 2) (h3:p 3) (h4:p 4) (h5:p 5) (h6:p 6) (h7:p 7):∀i,i < 8->p i
 | 0,_=>h0 | 1,_=>h1 | 2,_=>h2 | 3,_=>h3 | 4,_=>h4 | 5,_=>h5 | 6,_=>h6 | 7,_=>h7
 | i+8,h=>absurd h om
attribute [local irreducible] Go.Sym.AY Go.Sym.wv
theorem aue (E:Env) (a b:X):D (.f 2042 (.c a (.c b .n)))=Go.Sym.K1 (D a) (D b):=rfl
theorem Vc (E:Env) (a b:X):D (.f 2043 (.c a (.c b .n)))=Go.Sym.AY (D a) (D b):=rfl
theorem aeY (E:Env) (a b:X):D (.f 2044 (.c a (.c b .n)))=Go.Sym.C6 (D a) (D b):=rfl
theorem Vb (E:Env) (a n:X):D (.f 2040 (.c a (.c n .n)))=Go.Sym.DL (D a) (N n):=rfl
theorem aeZ (E:Env) (a:X):D (.f 2049 (.c a .n))=Go.Sym.IA (D a):=rfl
abbrev aM0:Fa:=cI [Fo,fe,(2,0,1)]
abbrev Jx:V:=IS 2
def aCe:Sp:=lC aM0 [acg,xA,Jx] (tz (tJ (.f 2050 tE)) (tJ (.f 2051 tE)))
def ahu:Sp:=lC aM0 [acg,xA,Jx] (tz (tJ (.f 2052 tE)) (tJ (.f 2053 tE)))
theorem azF:ab aa 275 ahu:=Oe rfl rfl ⟨rfl,rfl,rfl,rfl⟩ λE hF=>by
 have b0:=hF.b 0 rfl; have b1:=hF.b 1 rfl; have b2:=hF.b 2 rfl
 rw[Vf,ae0,s9]
 refine⟨b2.1,b2.2,rfl,?_⟩
 split <;>omega
theorem a5O:ab aa 317 aCe:=atY (e:=a9K) (g:=λx y k=>((x+18446744073709551616 - y - k) % 18446744073709551616,if x < y+k then 1 else 0)) Tryz.func317 kr kr kr kr
 (λx y k w hk=>by rcases (show k=0\/k=1 by omega) with rfl | rfl <;>rfl) rfl rfl ⟨rfl,rfl,rfl,rfl⟩ λE hF x y k hx hy hk lx ly=>by
  have b2:=(hF.b 2 rfl).2
  rw[hk] at b2
  rw[aSd,aSe,s9,hx,hy,hk]
  refine⟨by omega,?_,?_,gT _ dc,?_⟩
  .show _=(((x+18446744073709551616 - y - k) % 18446744073709551616:Nat):Int)
   omega
  .show _=((if x < y+k then 1 else 0:Nat):Int)
   split <;>split <;>omega
  .show (if x < y+k then 1 else 0) < _
   split <;>decide
abbrev aqt:List V:=[abC,B7 (.v 1)]
abbrev acs:X:=dG mX FD qz
abbrev Jy(a b c:X):X:=lE a b (.f 2051 c)
abbrev aM1:X:=Jy mr Cf acs
abbrev aM2:X:=Jy mw Cg aM1
abbrev aM3:X:=Jy nS Ch aM2
abbrev aM4:X:=Jy Ck Ci aM3
abbrev aM5:X:=Jy aqq (pK g7) aM4
abbrev aNK:X:=Jy aqr (pK rQ) aM5
abbrev aqP:X:=Jy aqs (pK jh) aNK
abbrev oW(a b c d e f g h i:X):X:=cz a b c d (cz e f g h i)
abbrev aNL:X:=oW (.f 2050 acs) (.f 2050 aM1) (.f 2050 aM2) (.f 2050 aM3) (.f 2050 aM4) (.f 2050 aM5) (.f 2050 aNK) (.f 2050 aqP) ae
def aiw:Sp:=lC SX aqt (vz [kp aNL] (tJ (.f 2051 aqP)))
def aiv:Sp:={aiw with v:=vz [kp (.f 2042 jJ)] (tJ (.f 2043 jJ)),l':=aiw.l'}
theorem a4f:ab aa 271 aiw:=aG (t:=[(317,aO aCe)]) (lt:=[]) (m:=8) ⟨(aQ a5O),trivial⟩ trivial .lf kr
theorem aA7:ab aa 271 aiv:=aL a4f [((ck aNL),(ck (.f 2042 jJ))),((ao (.f 2051 aqP)),(ao (.f 2043 jJ)))] _ _ (al (λE hF=>(aq (λq hq=>by
 have h0:Wd (D (.v 0)) 8:=λi _=>hF.vb 0 _ _ rfl i
 have h1:Wd (D (.v 1)) 8:=λi _=>hF.vb 1 _ _ rfl i
 have hq:(q:Int) < 8:=hq
 rw[aue,Go.Sym.K1,avn h0 h1 (show q < 8 by omega)]
 refine eight (p:=λq=>D _ q=wy (D (.v 0)) (D (.v 1)) q) ?_ ?_ ?_ ?_ ?_ ?_ ?_ ?_ q om
 .exact (cG E _ _).trans rfl
 .exact ((aB E _ _ 0).trans (cG E _ _)).trans rfl
 .exact ((aB E _ _ 1).trans ((aB E _ _ 0).trans (cG E _ _))).trans rfl
 .exact ((aB E _ _ 2).trans ((aB E _ _ 1).trans ((aB E _ _ 0).trans (cG E _ _)))).trans rfl
 .exact ((aB E _ _ 3).trans ((aB E _ _ 2).trans ((aB E _ _ 1).trans ((aB E _ _ 0).trans (cG E _ _))))).trans rfl
 .exact ((aB E _ _ 4).trans ((aB E _ _ 3).trans ((aB E _ _ 2).trans ((aB E _ _ 1).trans ((aB E _ _ 0).trans (cG E _ _)))))).trans rfl
 .exact ((aB E _ _ 5).trans ((aB E _ _ 4).trans ((aB E _ _ 3).trans ((aB E _ _ 2).trans ((aB E _ _ 1).trans ((aB E _ _ 0).trans (cG E _ _))))))).trans rfl
 .exact ((aB E _ _ 6).trans ((aB E _ _ 5).trans ((aB E _ _ 4).trans ((aB E _ _ 3).trans ((aB E _ _ 2).trans ((aB E _ _ 1).trans ((aB E _ _ 0).trans (rfl)))))))).trans rfl
 ) _))<|al (λE hF=>(uU (by
 have h0:Wd (D (.v 0)) 8:=λi _=>hF.vb 0 _ _ rfl i
 have h1:Wd (D (.v 1)) 8:=λi _=>hF.vb 1 _ _ rfl i
 refine Eq.trans ?_ (congrFun (Vc E _ _) 0).symm
 rw[Go.Sym.AY,<- avm h0 h1]
 rfl)))<|aN) kr
abbrev JA(a b c:X):X:=lE a b (.f 2053 c)
abbrev aNM:X:=JA mr Cf acs
abbrev aNN:X:=JA mw Cg aNM
abbrev aNO:X:=JA nS Ch aNN
abbrev aNP:X:=JA Ck Ci aNO
abbrev aNQ:X:=JA aqq (pK g7) aNP
abbrev aNR:X:=JA aqr (pK rQ) aNQ
abbrev aNS:X:=oW (.f 2052 acs) (.f 2052 aNM) (.f 2052 aNN) (.f 2052 aNO) (.f 2052 aNP) (.f 2052 aNQ) (.f 2052 aNR) (.f 2052 (JA aqs (pK jh) aNR)) ae
def ahA:Sp:=g9 SX aqt [kp aNS]
def ahz:Sp:={ahA with v:=B7 (.f 2044 jJ),l':=ahA.l'}
theorem a13:ab aa 214 ahA:=aG (t:=[(275,aO ahu)]) (lt:=[]) (m:=8) ⟨(aQ azF),trivial⟩ trivial .lf kr
theorem azH:ab aa 214 ahz:=aL a13 [((ck aNS),(ck (.f 2044 jJ)))] _ _ (al (λE hF=>(aq (λq hq=>by
 have h0:Wd (D (.v 0)) 8:=λi _=>hF.vb 0 _ _ rfl i
 have h1:Wd (D (.v 1)) 8:=λi _=>hF.vb 1 _ _ rfl i
 have hq:(q:Int) < 8:=hq
 rw[aeY,Go.Sym.C6,asL h0 h1 (show q < 8 by omega)]
 refine eight (p:=λq=>D _ q=D5 (D (.v 0)) (D (.v 1)) q) ?_ ?_ ?_ ?_ ?_ ?_ ?_ ?_ q om
 .exact (cG E _ _).trans rfl
 .exact ((aB E _ _ 0).trans (cG E _ _)).trans rfl
 .exact ((aB E _ _ 1).trans ((aB E _ _ 0).trans (cG E _ _))).trans rfl
 .exact ((aB E _ _ 2).trans ((aB E _ _ 1).trans ((aB E _ _ 0).trans (cG E _ _)))).trans rfl
 .exact ((aB E _ _ 3).trans ((aB E _ _ 2).trans ((aB E _ _ 1).trans ((aB E _ _ 0).trans (cG E _ _))))).trans rfl
 .exact ((aB E _ _ 4).trans ((aB E _ _ 3).trans ((aB E _ _ 2).trans ((aB E _ _ 1).trans ((aB E _ _ 0).trans (cG E _ _)))))).trans rfl
 .exact ((aB E _ _ 5).trans ((aB E _ _ 4).trans ((aB E _ _ 3).trans ((aB E _ _ 2).trans ((aB E _ _ 1).trans ((aB E _ _ 0).trans (cG E _ _))))))).trans rfl
 .exact ((aB E _ _ 6).trans ((aB E _ _ 5).trans ((aB E _ _ 4).trans ((aB E _ _ 3).trans ((aB E _ _ 2).trans ((aB E _ _ 1).trans ((aB E _ _ 0).trans (rfl)))))))).trans rfl
 ) _))<|aN) kr
abbrev aNT:X:=cz acr aci acj ack ae
def ai0:Sp:=pB Cn [oI 0 bW (.k bW)] (vQ 0 acq) (B7 aNT) [vQ 0 acq]
abbrev acD:X:=bj bW
abbrev acE:X:=.f 2040 (cy 0 acD)
def aiZ:Sp:={ai0 with v:=B7 acE,l':=ai0.l'}
theorem a41:ab aa 211 ai0:=aG (t:=[]) (lt:=[]) (m:=8) trivial trivial .lf kr
theorem aBG:ab aa 211 aiZ:=aL a41 [((ck aNT),(ck acE))] _ _ (al (λE hF=>(aq (λq hq=>by
 have hb:By (D (.v 0)):=hF.vb 0 _ _ rfl
 have hq:(q:Int) < 8:=hq
 rw[Vb,bl,Go.Sym.DL,show (32:Int).toNat=8*4 from rfl,ag8 hb]
 have h:=Li hb
 refine eight (p:=λq=>D _ q=if q < 4 then w8 (D (.v 0)) q else 0) ?_ ?_ ?_ ?_ ?_ ?_ ?_ ?_ q om
 .exact (cG E _ _).trans (h 0)
 .exact ((aB E _ _ 0).trans (cG E _ _)).trans (h 1)
 .exact ((aB E _ _ 1).trans ((aB E _ _ 0).trans (cG E _ _))).trans (h 2)
 .exact ((aB E _ _ 2).trans ((aB E _ _ 1).trans ((aB E _ _ 0).trans (cG E _ _)))).trans (h 3)
 .rfl
 .rfl
 .rfl
 .rfl
 ) _))<|aN) kr
abbrev z8(a:Nat)(b c:X):Nat×Bl:=vQ a (qH b c)
abbrev aNU:List (Nat×Bl):=[z8 0 aU (.v 0)]
abbrev NA:X:=.i 40
abbrev NB:X:=.i 48
abbrev jw:X:=.i 49
abbrev JB:X:=.i 50
abbrev JC:X:=.i 53
abbrev JD:X:=.i 57
abbrev aNV:X:=oW acr aci acj ack (pO (pO (pO (mZ (Fg ae bW) 0 (.i 33) cV) 34 ya 35 tp) 36 vE 37 tN) 38 FH 39 B9) (pO (pO (pO (mZ (Fg ae NA) 0 (.i 41) cV) 42 ya 43 tp) 44 vE 45 tN) 46 FH 47 B9) (pO (mZ (mZ (mZ (mZ (mZ (Fg ae NB) 0 jw cV) 0 JB ya) 0 vT tp) 0 (.i 52) vE) 0 JC tN) 54 FH 55 B9) (mZ (pO (pO (mZ (mZ (Fg ae Fs) 0 JD cV) 0 (.i 58) ya) 59 tp 60 vE) 61 tN 62 FH) 0 BZ B9) ae
def ai1:Sp:=⟨Cn,[oI 0 aU R7],1,aNU,B7 aNV,1,aNU⟩
abbrev Tm:X:=bj aU
abbrev aqQ:X:=.f 2040 (cy 0 Tm)
def aBH:Sp:={ai1 with v:=B7 aqQ,l':=ai1.l'}
theorem a42:ab aa 211 ai1:=aG (t:=[]) (lt:=[]) (m:=8) trivial trivial .lf kr
theorem a43:ab aa 211 aBH:=aL a42 [((ck aNV),(ck aqQ))] _ _ (al (λE hF=>(aq (λq hq=>by
 have hb:By (D (.v 0)):=hF.vb 0 _ _ rfl
 have hq:(q:Int) < 8:=hq
 rw[Vb,bl,Go.Sym.DL,show (64:Int).toNat=8*8 from rfl,ag8 hb]
 have h:=Li hb
 refine eight (p:=λq=>D _ q=if q < 8 then w8 (D (.v 0)) q else 0) ?_ ?_ ?_ ?_ ?_ ?_ ?_ ?_ q om
 .exact (cG E _ _).trans (h 0)
 .exact ((aB E _ _ 0).trans (cG E _ _)).trans (h 1)
 .exact ((aB E _ _ 1).trans ((aB E _ _ 0).trans (cG E _ _))).trans (h 2)
 .exact ((aB E _ _ 2).trans ((aB E _ _ 1).trans ((aB E _ _ 0).trans (cG E _ _)))).trans (h 3)
 .exact ((aB E _ _ 3).trans ((aB E _ _ 2).trans ((aB E _ _ 1).trans ((aB E _ _ 0).trans (cG E _ _))))).trans (h 4)
 .exact ((aB E _ _ 4).trans ((aB E _ _ 3).trans ((aB E _ _ 2).trans ((aB E _ _ 1).trans ((aB E _ _ 0).trans (cG E _ _)))))).trans (h 5)
 .exact ((aB E _ _ 5).trans ((aB E _ _ 4).trans ((aB E _ _ 3).trans ((aB E _ _ 2).trans ((aB E _ _ 1).trans ((aB E _ _ 0).trans (cG E _ _))))))).trans (h 6)
 .exact ((aB E _ _ 6).trans ((aB E _ _ 5).trans ((aB E _ _ 4).trans ((aB E _ _ 3).trans ((aB E _ _ 2).trans ((aB E _ _ 1).trans ((aB E _ _ 0).trans (rfl)))))))).trans (h 7)
 ) _))<|aN) kr
theorem t32 {p:Nat->Prop} (h:∀k j,k < 4->j < 8->p (8*k+j)) (q:Nat) (hq:q < 32):p q:=by
 have:=h (q / 8) (q % 8) om om
 rwa [J5] at this
abbrev kU(a b:X):X:=.o1 3 (.o2 10 a b)
abbrev yb(a:X):X:=kU a aH
abbrev Co(a:X):X:=kU a dA
abbrev aNA:X:=oW (kU mX ae) (yb mX) (Co mX) (kU mX oV) (kU mX bW) (kU mX NA) (kU mX NB) (.o2 10 mX Fs) (oW (kU mr ae) (yb mr) (Co mr) (kU mr oV) (kU mr bW) (kU mr NA) (kU mr NB) (.o2 10 mr Fs) (oW (kU mw ae) (yb mw) (Co mw) (kU mw oV) (kU mw bW) (kU mw NA) (kU mw NB) (.o2 10 mw Fs) (oW (kU nS ae) (yb nS) (Co nS) (kU nS oV) (kU nS bW) (kU nS NA) (kU nS NB) (.o2 10 nS Fs) ae)))
def aj7:Sp:=g9 abB [abC] (z6 aNA)
def pWb:Sp:={aj7 with v:=z7 (.f 2049 fO),l':=aj7.l'}
theorem a63:ab aa 273 aj7:=aG (t:=[]) (lt:=[]) (m:=8) trivial trivial .lf kr
theorem a64:ab aa 273 pWb:=aL a63 [((mY aNA),(mY (.f 2049 fO)))] _ _ (al (λE hF=>(aq (λq hq=>by
 have h0:Wd (D (.v 0)) 8:=λi _=>hF.vb 0 _ _ rfl i
 have hq:(q:Int) < 32:=hq
 rw[aeZ,Go.Sym.IA]
 refine t32 (p:=λq=>D _ q=bV (wv (D (.v 0))) q) (λk j hk hj=>?_) q om
 have b:(((D (.v 0) k).toNat>>>56:Nat):Int) % 256=(((D (.v 0) k).toNat>>>56:Nat):Int):=by
  have:=h0 k om
  rw[qQ]
  omega
 rw[as9 h0 om hj]
 rcases (show k=0\/k=1\/k=2\/k=3 by omega) with rfl | rfl | rfl | rfl <;>rcases (show j=0\/j=1\/j=2\/j=3\/j=4\/j=5\/j=6\/j=7 by omega) with rfl | rfl | rfl | rfl | rfl | rfl | rfl | rfl <;>simp only[Nat.reduceMul,Nat.reduceAdd,aB,cG] <;>first | rfl | exact b.symm) _))<|aN) kr
end
end Go.Proofs.Y
