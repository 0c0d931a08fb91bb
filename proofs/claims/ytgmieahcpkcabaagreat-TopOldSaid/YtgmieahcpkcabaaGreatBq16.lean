import Derived.Test.YtgmieahcpkcabaaGreatBq15
set_option maxRecDepth 100000
set_option linter.unusedSimpArgs false
set_option linter.unusedVariables false
set_option linter.constructorNameAsVariable false
set_option linter.unusedSectionVars false
noncomputable section
namespace Go.Proofs.Y
open Go Go.Z
section
open Hz
def dgT:X:=AA
abbrev aIM:X:=bZ j6 aH dgT aU amZ
def bT1:X:=FT (cz nT nU nW jw (bZ ae aj aj aj (bZ ae bA my aH (pT jk aIM))))
abbrev Z8:X:=FX 91
abbrev Z9:X:=FX 92
def bT2:X:=FT (cz nT nU nW jw (bZ ae aj aj aj (bZ ae bA Z8 aH (pT Z9 aIM))))
def aEm:X:=Rz 22 bT1
def aEn:X:=Rz 22 bT2
def G2:X:=.f 1210 (dG ae (.v 1) (cN 2 50 (eZ 71 aEm)))
def KU:X:=.f 1210 (dG ae (.v 91) (cN 92 50 (eZ 71 aEn)))
abbrev IN:X:=.f 1131 (qv 22)
def aSi:X:=RZ IN bT1 aEm
def auh:X:=RZ IN bT2 aEn
abbrev aIN:Nat×Bl:=(0,Nx bW IN)
abbrev R0:Nat×Bl:=(1,⟨151,[dM 2 aj,a9,nR,bg],false,0⟩)
abbrev zD:Bl:=⟨27,z6 IN,false,32⟩
abbrev aIO:Nat×Bl:=jm 3 [CE,CG,ag,bC,bC,ag,fE]
abbrev R1:Nat×Bl:=(4,⟨114,[nR,dM 7 aj,a9,vC,cK],false,0⟩)
abbrev aIP:Nat×Bl:=jO 8 [YO,te,eY,eY,ag,ft,bC,ag,ag,ag,ag,CD,fE]
abbrev aIQ:Nat×Bl:=(9,⟨235,[nR,ag,cW,fE,ag,te,ag,bC,ag],false,0⟩)
def pDN:Sp:=⟨cI [(22,0,255)],[.agg [vv 0 aj (.k aj),a9]],1,[aIN],xK aaz oM,10,[aIN,R0,(2,zD),aIO,R1,(5,arl),(6,NK),(7,zD),aIP,aIQ]⟩
theorem az7:ab aa 26 pDN:=aG (t:=[(10,au akL),(225,au ail)]) (lt:=[]) (m:=30) ⟨(aw aEr),(aw aAV),trivial⟩ trivial .lf kr
abbrev aoa:Nat×Int×Int:=(91,0,18446744073709551615)
abbrev aob:Nat×Int×Int:=(92,0,18446744073709551615)
abbrev aoc:VB:=[(50,1,200),jf,(22,0,255),fe,gi,aoa,aob]
abbrev RX:X:=.f 1124 (bj IN)
abbrev aIr:Nat×Bl:=cj 10 eC G2
abbrev aIs:X:=kt (vi G2) JR
abbrev aIt:X:=bZ j6 aH dgT aU qs
abbrev aod:X:=gF my jk aIt
abbrev aIu:X:=gF pt Ri (gF pt aIs (Ae (.c aod zm) aU Rj (.c aod zm) oV))
abbrev Z6:X:=Bt aj aIu
abbrev Mz:X:=.i 800
abbrev Z7:X:=.o2 15 G2 ff
abbrev aIv:X:=.f 1103 (dG (mq IE dA Z6 il dV (.i 1784) G2 ff (bZ dV Mz Z7 aU (.o3 0 dV (.i 4032) dV))) dW Ze)
abbrev aIw:Nat×Bl:=jm 3 [CE,CG,aF (xP aIv 114),bC,bC,ag,fE]
abbrev aoe:X:=.f 1106 (.c aod amw)
abbrev aIx:X:=gF Bv ZT (gF j6 aIs (Ae (.c aoe Es) aU amx (.c aoe Es) amy))
abbrev aof:X:=Bt bA aIx
abbrev aIy:X:=kt (bk aoe Rm) Es
abbrev aog:X:=gF pt my (gF jk j6 aIy)
abbrev aoh:X:=.f 1050 (iF bA cq aog qL .n)
abbrev RY:X:=.i 960
abbrev aIz:Nat×Bl:=m5 (mq IE dA Z6 il aof il aoh xR (mq dV (.i 1424) G2 ff dV Mz Z7 aU (bZ dV RY (.v 71) (.v 50) (.o3 0 dV (vq (.v 50) (.i 3072)) dV))))
abbrev aIA:Nat×Bl:=jO 8 [YO,ag,dQ,ed,a8,oO aIy,bC,ag,ag,ag,ag,CD,fE]
abbrev aIB:Nat×Bl:=(9,⟨235,[nR,ag,cW,dM 11 cq,aE,ag,aF IH,bC,ag],false,0⟩)
abbrev aIC:Nat×Bl:=qp 11 [a9,aE,tg 12,a9,cW,tg 13,cW,a9,dM 14 qL]
abbrev aoi:Nat×Bl:=cj 12 tV aIu
abbrev an7:Nat×Bl:=cj 13 tV aIx
abbrev Z5:Bl:=oC qL aog
def H8:Sp:=⟨dT aoc [gP,th] [(RX,true),(aSi,true)],[ji,lH 10 eC,vF,vF],11,[R0,(2,zD),aIO,R1,(5,arl),(6,NK),(7,zD),aIP,aIQ,aIr],eJ,15,[R0,(2,zD),aIw,R1,aIz,(6,NK),(7,zD),aIA,aIB,aIr,aIC,aoi,an7,(14,Z5)]⟩
def aCi:OT:=[(286,au DO),(52,au rp),(106,au DP),(177,au y4),(228,au WY),(227,au Lk),(231,au wW),(47,au PM)]
def aCh:LT:=[((14,6),gC (gI DA) (gC (gI AX) (gC (gI AW) (gC (gI Dw) (gC (gI Hl) (gC (gI Dx) (gI Dy))))))),((29,6),gI K7)]
def ajs:Fa->Bool:=QB aCi aCh 30 29 H8
def aCf:Fa:=H8.fa
def ajt:Tr:=.lf
abbrev BK:X:=.o2 11 (.i 400) eC
theorem a5R:cx ajs (aCf.on BK true) ajt=true:=kr
def aCg:Fa:=(aCf.on (.o2 11 (.i 400) (.o2 0 (.f 80 (.c (.v 71) (.c (.v 50) .n))) (.i 292))) false)
def aju:Tr:=.lf
abbrev vn:X:=.o2 11 (xP bH 92) jM
theorem a5S:cx ajs (aCg.on vn true) aju=true:=kr
def ajv:Tr:=.lf
theorem a5T:cx ajs (aCg.on vn false) ajv=true:=kr
theorem a5Q:Ob H8.fa (λE=>ah H8.fa.fx) (.tf BK ajt (.tf vn aju ajv)):=df rfl
theorem aCj:ab aa 29 H8:=dj (t:=aCi) (lt:=aCh) (m:=30) ⟨(aw H6),(aw sY),(aw H7),(aw A7),(aw aif),(aw PT),(aw y5),(aw WM),trivial⟩ ⟨(jE (iB Tryz.func14 kr agx) (jE (iB Tryz.func14 kr V9) (jE (iB Tryz.func14 kr V4) (jE (iB Tryz.func14 kr agd) (jE (iB Tryz.func14 kr axS) (jE (iB Tryz.func14 kr age) (iB Tryz.func14 kr agf))))))),(iB Tryz.func29 kr aYi),trivial⟩ (.tf BK ajt (.tf vn aju ajv)) a5Q (eV a5R (eV a5S a5T))
abbrev aIn:X:=ir 91 92
abbrev aIo:List V:=[ji,lH 15 eC,vF,vF]
abbrev aIp:Nat×Bl:=cj 15 eC KU
abbrev an8:List (Nat×Bl):=[R0,(2,zD),aIw,R1,aIz,(6,NK),(7,zD),aIA,aIB,aIC,aoi,an7,(14,Z5),aIp]
abbrev aIq:X:=kt (vi KU) JR
abbrev an9:X:=gF Z8 Z9 aIt
abbrev aIR:X:=Bt bM (gF vh Ri (gF pt aIq (Ae (.c an9 zm) aU Rj (.c an9 zm) oV)))
abbrev aIS:X:=vq (.v 50) gO
abbrev aom:X:=.f 1106 (.c an9 amw)
abbrev aIT:X:=gF Bw ZT (gF j6 aIq (Ae (.c aom Es) aU amx (.c aom Es) amy))
abbrev aIU:X:=kt (bk aom Rm) Es
abbrev aIV:X:=gF vh Z8 (gF Z9 j6 aIU)
abbrev aIW:X:=xE 92 2
def Lo:Sp:=⟨dT aoc [gP,aIn,ir 91 2,th] [(RX,true),(auh,true)],aIo,16,an8,eJ,20,[R0,(2,zD),jm 3 [CE,CG,aF (mR aIv (.f 1103 (dG (mq IE dA Z6 il aof il aoh xR (mq aIR il dV (.i 1176) G2 ff dV Mz (mq Z7 aU dV RY (.v 71) (.v 50) dV aIS (mq KU ff dV Mz (.o2 15 KU ff) aU dV RY dV)))) Cz Ze)) (.i 242)),bC,bC,ag,fE],R1,m5 (mq IE dA Z6 il aof il aoh xR (mq aIR il dV oX Ru dA (.f 1050 (iF bA aj aog qL .n)) xR (mq (Bt bA aIT) il (.f 1050 (iF bA cq aIV qL .n)) xR dV (.i 536) G2 ff (mq dV Mz Z7 aU dV RY (.v 71) (.v 50) (mq dV aIS KU ff dV Mz (.o2 15 KU ff) aU (bZ dV RY (.v 71) (.v 50) dV)))))),(6,NK),(7,zD),jO 8 [YO,aE,nF (.v 91),nF (EI aIW (.v 2) 92),a8,oO aIU,bC,ag,ag,ag,ag,CD,fE],(9,⟨235,[nR,ag,cW,dM 16 cq,cW,aE,aF (.i 488),bC,ag],false,0⟩),aoi,an7,(14,Z5),aIp,qp 16 [cW,aE,Ry,a9,cW,aGb,cW,a9,dM 19 qL],(17,Z5),cj 18 tV aIT,cj 19 qL aIV]⟩
def aCr:OT:=[(286,au DO),(52,au rp),(106,au DP),(177,au y4),(228,au aii),(227,au Lk),(231,au wW),(47,au PM)]
def aCq:LT:=[((14,6),gC (gI DA) (gC (gI AX) (gC (gI AW) (gC (gI Dw) (gC (gI K5) (gC (gI Dx) (gI Hm))))))),((29,6),gI K8)]
def ajA:Fa->Bool:=QB aCr aCq 30 29 Lo
def aCo:Fa:=Lo.fa
def ajB:Tr:=.lf
theorem a52:cx ajA (aCo.on BK true) ajB=true:=kr
def aCp:Fa:=(aCo.on (.o2 11 (.i 400) (.o2 0 (.f 80 (.c (.v 71) (.c (.v 50) .n))) (.i 292))) false)
def ajC:Tr:=.lf
theorem a53:cx ajA (aCp.on vn true) ajC=true:=kr
def ajD:Tr:=.lf
theorem a54:cx ajA (aCp.on vn false) ajD=true:=kr
theorem a5Z:Ob Lo.fa (λE=>ah Lo.fa.fx) (.tf BK ajB (.tf vn ajC ajD)):=df rfl
theorem a50:ab aa 29 Lo:=dj (t:=aCr) (lt:=aCq) (m:=30) ⟨(aw H6),(aw sY),(aw H7),(aw A7),(aw aAA),(aw PT),(aw y5),(aw WM),trivial⟩ ⟨(jE (iB Tryz.func14 kr agx) (jE (iB Tryz.func14 kr V9) (jE (iB Tryz.func14 kr V4) (jE (iB Tryz.func14 kr agd) (jE (iB Tryz.func14 kr aWw) (jE (iB Tryz.func14 kr age) (iB Tryz.func14 kr axT))))))),(iB Tryz.func29 kr aYl),trivial⟩ (.tf BK ajB (.tf vn ajC ajD)) a5Z (eV a52 (eV a53 a54))
def Ln:Sp:=⟨dT aoc [gP,aIn,fJ (ir 2 91),th] [(RX,true),(auh,true)],aIo,16,an8,TM,16,an8⟩
def aCn:OT:=[(47,au PM)]
def aCm:LT:=[((14,6),gC (gI DA) (gC (gI AW) (gI K6)))]
def ajw:Fa->Bool:=QB aCn aCm 30 29 Ln
def aCk:Fa:=Ln.fa
def ajx:Tr:=.lf
theorem a5W:cx ajw (aCk.on BK true) ajx=true:=kr
def aCl:Fa:=(aCk.on (.o2 11 (.i 400) (.o2 0 (.f 80 (.c (.v 71) (.c (.v 50) .n))) (.i 292))) false)
def ajy:Tr:=.lf
theorem a5X:cx ajw (aCl.on vn true) ajy=true:=kr
def ajz:Tr:=.lf
theorem a5Y:cx ajw (aCl.on vn false) ajz=true:=kr
theorem a5U:Ob Ln.fa (λE=>ah Ln.fa.fx) (.tf BK ajx (.tf vn ajy ajz)):=df rfl
theorem a5V:ab aa 29 Ln:=dj (t:=aCn) (lt:=aCm) (m:=30) ⟨(aw WM),trivial⟩ ⟨(jE (iB Tryz.func14 kr agx) (jE (iB Tryz.func14 kr V4) (iB Tryz.func14 kr aWF))),trivial⟩ (.tf BK ajx (.tf vn ajy ajz)) a5U (eV a5W (eV a5X a5Y))
end
end Go.Proofs.Y
