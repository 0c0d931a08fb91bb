import Derived.Test.YtgmieahcpkcabaaGreatBq13
import Derived.Test.YtgmieahcpkcabaaGreatBq11
import Derived.Test.YtgmieahcpkcabaaGreatBq12
import Derived.Test.YtgmieahcpkcabaaGreatBq10
set_option maxRecDepth 100000
set_option linter.unusedSimpArgs false
set_option linter.unusedVariables false
set_option linter.constructorNameAsVariable false
set_option linter.unusedSectionVars false
noncomputable section
namespace Go.Z
open Go Go.Sym Go.RowKit Go.Hz
open Go.Ev (T K Ex DH DF a7)
section
def ur (F:Fx) (k:Nat) (o n:X):List (X×Bool)->Bool
 | []=>false
 | p::r=>(match p with
  | (.f 0 (.c (.v j) (.c m .n)),true)=>Nat.beq j k && (ay F (.i 0) o && ay F (b9 o n) m)
  | (.f 0 (.c (.o2 15 (.v j) q) (.c m .n)),true)=>Nat.beq j k && (ay F (.i 0) q && (ay F q o && ay F (b9 o n) (b9 q m)))
  | _=>false) || ur F k o n r
def wm (F:Fx):X->X->X->Bool
 | .i c,_,_=>decide (c=255)
 | .v k,o,n=>ay F n (.i 0) || ur F k o n F.tr
 | .o2 f a p,o,n=>ay F n (.i 0) || (Nat.ble 15 f && (ay F (.i 0) p && wm F a (b9 o p) n))
 | .o3 0 a m b,o,n=>ay F n (.i 0) || ((ay F (b9 o n) m && wm F a o n) || ((ay F (.i 0) m && (ay F m o && wm F b (dF o m) n)) || (ay F (.i 0) m && (ay F o m && (wm F a o (dF m o) && wm F b (.i 0) (dF (b9 o n) m))))))
 | .f 1100 (.c w (.c B (.c _ (.c p .n)))),o,n=>ay F n (.i 0) || (((ay F (b9 o n) B || (ay F p (.i 1024) && ay F (b9 B (.i 1024)) o)) && (ay F (.i 0) B && wm F w o n)) || (ay F (.i 1) p && (ay F (b9 B p) o && ay F (b9 o n) (b9 B (.i 1024)))))
 | _,_,n=>ay F n (.i 0)
def aek (F:Fx) (x:X):Bool:=match bd F.vb x with
 | some (a,b)=>decide (0<=a) && decide (b<=255)
 | none=>false
def QV (F:Fx):X->Bool
 | .f 0 (.c x (.c n .n))=>wm F x (.i 0) n
 | .f 2 (.c a (.c b (.c n .n)))=>wm F a (.i 0) n && aek F b
 | _=>false
def aE1 (F:Fx) (σ:Nat->X) (p:X×Bool):Bool:=X6 F σ p || (p.2 && QV F (nX F (bP σ p.1)))
def Vh (F:Fx) (σ:Nat->X) (p:Fa):Bool:=p.vb.all (Yq F σ) && (p.fs.all (λx=>KN F (bP σ x) || KN F (nX F (bP σ x))) && (p.tr.all (aE1 F σ) && p.eq.all λq=>gp F (bP σ q.1) (bP σ q.2)))
def rV (F:Fx):V->V
 | .c (.bx x)=>bif QV F x then .c (.bool true) else .c (.bx x)
 | v=>v
def au (sp:Sp) (F:Fx):pY:=λys h=>
 let m:=Ld sp ys h
 let σ:=eM m.1
 bif Pw sp.xs && (Ee F ys (sp.xs.map (s8 σ (aV m.2))) && (DT F σ m.2 sp.n sp.n' h sp.l sp.l' && Vh F σ sp.fa)) then
  some (rV F (nV F (s8 σ (iS (aV m.2) sp.n h.nx) sp.v)),HV F (sp.l'.map λx=>iS (aV m.2) sp.n h.nx x.1) (hOut σ (aV m.2) sp.n sp.n' sp.l sp.l' h)) else none
variable [Env] {F:Fx} {bs bs':Nm} {w w':World} {h h':Hp}
theorem aRY (x n:X):N (.f 0 (.c x (.c n .n)))=yes (Ah (D x) (N n) 255):=rfl
theorem aSf (a b n:X):N (.f 2 (.c a (.c b (.c n .n))))=yes (∀j:Nat,(j:Int) < N n->fA (D a) (D b) j):=rfl
theorem as2 (hF:ah F) {k:Nat} {o n:X}:∀{l:List (X×Bool)},(∀p∈l,decide (N p.1≠0)=p.2)->ur F k o n l=true->∀i:Nat,(i:Int) < N n->D (.v k) (i+(N o).toNat)=255
 | p::r,hl,hh,i,hi=>by
  have hp:=hl p mh
  unfold ur at hh
  rw[dt] at hh
  rcases hh with hh | hh
  .split at hh
   .rename_i j m
    simp only[ar] at hh
    obtain⟨h1,h2,h3⟩:=hh
    have h1:=iJ h1
    subst h1
    have h2:0<=N o:=aT hF h2
    have h3:=aT hF h3
    rw[eU] at h3
    have a:Ah (D (.v j)) (N m) 255:=jI (of_decide_eq_true hp)
    exact a _ om
   .rename_i j q m
    simp only[ar] at hh
    obtain⟨h1,h2,h3,h4⟩:=hh
    have h1:=iJ h1
    subst h1
    have h2:0<=N q:=aT hF h2
    have h3:=aT hF h3
    have h4:=aT hF h4
    rw[eU,eU] at h4
    have a:Ah (D (.o2 15 (.v j) q)) (N m) 255:=jI (of_decide_eq_true hp)
    have b:=a (i+(N o).toNat - (N q).toNat) om
    have e:D (.o2 15 (.v j) q) (i+(N o).toNat - (N q).toNat)=D (.v j) (i+(N o).toNat - (N q).toNat+(N q).toNat):=rfl
    rw[e] at b
    rwa [show i+(N o).toNat - (N q).toNat+(N q).toNat=i+(N o).toNat by omega] at b
   .cases hh
  .exact as2 hF (λq hq=>hl q (mt hq)) hh i hi
theorem none_lt {n:X} (hF:ah F) (h:ay F n (.i 0)=true) {i:Nat} (hi:(i:Int) < N n) {P:Prop}:P:=by
 have:N n<=0:=aT hF h
 omega
theorem a7F (w B d p:X):D (.f 1100 (.c w (.c B (.c d (.c p .n)))))=dI (Cu.eA (D w) (N B) (D d) (N p)):=rfl
theorem aQY {r:R} {q:Nat} (h:r q=255):dI r q=255:=by
 show Lz.az 0 255 (r q)=255
 rw[h]; rfl
theorem asK (hF:ah F):∀{x o n:X},wm F x o n=true->0<=N o->∀i:Nat,(i:Int) < N n->D x (i+(N o).toNat)=255:=by
 intro x
 have key:∀m,∀x:X,SizeOf.sizeOf x<=m->∀{o n:X},wm F x o n=true->0<=N o->∀i:Nat,(i:Int) < N n->D x (i+(N o).toNat)=255:=by
  intro m
  induction m with
  | zero=>intro x hs; cases x <;>simp at hs
  | succ k ih=>
   intro x hs o n h ho i hi
   unfold wm at h
   split at h
   .exact of_decide_eq_true h
   .rw[dt] at h
    rcases h with h | h
    .exact none_lt hF h hi
    .exact as2 hF hF.tr h i hi
   .rename_i f a p
    rw[dt] at h
    rcases h with h | h
    .exact none_lt hF h hi
    .simp only[ar] at h
     obtain⟨h1,h2,h3⟩:=h
     have h1:=wh h1
     have h2:0<=N p:=aT hF h2
     have:=ih a (by simp at hs ⊢; omega) h3 (by rw[eU]; omega) i hi
     show O2 f (D a) (D p) _=255
     rw[Gq om]
     rw[eU] at this
     rw[<- this]
     congr 1
     show i+(N o).toNat+(N p).toNat=i+(N o+N p).toNat
     omega
   .rename_i a m b
    rw[dt] at h
    rcases h with h | h
    .exact none_lt hF h hi
    show (if ((i+(N o).toNat:Nat):Int) < N m then D a (i+(N o).toNat) else D b (i+(N o).toNat - (N m).toNat))=255
    have sa:SizeOf.sizeOf a<=k:=by simp at hs ⊢; omega
    have sb:SizeOf.sizeOf b<=k:=by simp at hs ⊢; omega
    rw[dt,dt] at h
    rcases h with h | h | h
    .rw[ar] at h
     have h1:=aT hF h.1
     rw[eU] at h1
     rw[if_pos om]
     exact ih a sa h.2 ho i hi
    .simp only[ar] at h
     obtain⟨h1,h2,h3⟩:=h
     have h1:0<=N m:=aT hF h1
     have h2:=aT hF h2
     rw[if_neg om]
     have:=ih b sb h3 (by rw[jH]; omega) i hi
     rw[jH] at this
     rw[<- this]
     congr 1
     omega
    .simp only[ar] at h
     obtain⟨h1,h2,h3,h4⟩:=h
     have h1:0<=N m:=aT hF h1
     have h2:=aT hF h2
     by_cases q:((i+(N o).toNat:Nat):Int) < N m
     .rw[if_pos q]
      exact ih a sa h3 ho i (by rw[jH]; omega)
     .rw[if_neg q]
      have:=ih b sb h4 (aP 0) (i+(N o).toNat - (N m).toNat) (by rw[jH,eU]; omega)
      exact this
   .rename_i w B d p
    rw[dt] at h
    rcases h with h | h
    .exact none_lt hF h hi
    rw[a7F]
    refine aQY ?_
    unfold Cu.eA
    rw[dt] at h
    rcases h with h | h
    .simp only[ar] at h
     obtain⟨h1,h2,h3⟩:=h
     have h2:0<=N B:=aT hF h2
     have hw:=ih w (by simp at hs ⊢; omega) h3 ho i hi
     by_cases c0:N p<=0
     .rw[if_pos c0]; exact hw
     rw[if_neg c0]
     by_cases c1:((i+(N o).toNat:Nat):Int) < N B
     .rw[if_pos c1]; exact hw
     rw[if_neg c1]
     rw[dt] at h1
     rcases h1 with h1 | h1
     .have:=aT hF h1
      rw[eU] at this
      omega
     .rw[ar] at h1
      have g0:N p<=1024:=aT hF h1.1
      have g:=aT hF h1.2
      rw[eU] at g
      have g:N B+1024<=N o:=g
      rw[if_neg om,if_neg om]
      exact hw
    .simp only[ar] at h
     obtain⟨h1,h2,h3⟩:=h
     have h1:1<=N p:=aT hF h1
     have h2:=aT hF h2
     have h3:=aT hF h3
     rw[eU] at h2
     rw[eU,eU] at h3
     have h3:N o+N n<=N B+1024:=h3
     by_cases c1:((i+(N o).toNat:Nat):Int) < N B
     .omega
     rw[if_neg om,if_neg c1,if_neg om,if_pos om]
   .exact none_lt hF h hi
 intro o n h ho i hi
 exact key _ x (fv _) h ho i hi
theorem aP9 (hF:ah F) {x:X} (h:aek F x=true) (i:Nat):0<=D x i/\D x i<=255:=by
 unfold aek at h
 split at h
 .rename_i a b hb
  simp only[ar,decide_eq_true_eq] at h
  have:=cO hF.vb x a b hb i
  omega
 .cases h
theorem aE3 (hF:ah F) {x:X} (h:QV F x=true):N x≠0:=by
 unfold QV at h
 split at h
 .rename_i x n
  have a:=asK hF h (aP 0)
  rw[aRY,Yz (show Ah (D x) (N n) 255 from λj hj=>a j hj)]
  decide
 .rename_i a b n
  rw[ar] at h
  have h1:=asK hF h.1 (aP 0)
  have h2:=aP9 hF h.2
  rw[aSf,Yz]
  .decide
  .intro j hj
   unfold fA
   rw[show D a j=255 from h1 j hj]
   have h:=h2 j
   have e:(D b j).toNat &&& (255:Int).toNat=(D b j).toNat:=by
    rw[show (255:Int).toNat=2 ^ 8 - 1 from rfl,Uk]
    exact dE om
   rw[e,J8]
   rfl
 .cases h
theorem a8z (hF:ah F) {c:V} {v:Value} (h:VR bs c v):VR bs (rV F c) v:=by
 unfold rV
 split
 .rename_i x
  cases hb:QV F x with
  | true=>
   have e:v=.bool (decide (N x≠0)):=h
   show v=.bool true
   rw[e,decide_eq_true (aE3 hF hb)]
  | false=>exact h
 .exact h
theorem aug (hF:ah F) {σ:Nat->X} {p:Fa} (hp:Vh F σ p=true):@ah _ (dw σ) p.fx:=by
 simp only[Vh,ar] at hp
 obtain⟨h1,h2,h3,h4⟩:=hp
 refine @ah.mk _ (dw σ) p.fx (λk lo hi hk i=>?_) (λl hl=>?_) (λq hq=>?_) (λq hq=>?_)
 .have:=dD.1 h1 _ (Pe hk)
  show lo<=D (je σ k) i/\D (je σ k) i<=hi
  simp only[Yq,dt] at this
  rcases this with h5 | h5
  .simp only[Q3,dt,ar] at h5
   rcases h5 with h5 | ⟨h5,h6,h7⟩
   .split at h5
    .rename_i a b hb
     simp only[ar,decide_eq_true_eq] at h5
     have:=cO hF.vb (je σ k) a b hb i
     omega
    .cases h5
   .have h6:lo<=N (je σ k):=aT hF h6
    have h7:N (je σ k)<=hi:=aT hF h7
    rw[wE h5]
    exact⟨h6,h7⟩
  .split at h5
   .rename_i a b hb
    simp only[ar,decide_eq_true_eq] at h5
    have:=cO hF.vb (nX F (je σ k)) a b hb i
    rw[yU hF] at this
    omega
   .cases h5
 .obtain⟨x,hx,rfl⟩:=yn.1 hl
  have h5:=dD.1 h2 x hx
  rw[@pb _ (dw σ)]
  rw[dt] at h5
  rcases h5 with h5 | h5
  .have:=OU hF h5
   rw[fm] at this
   exact this
  .have:=OU hF h5
   rw[show N (nX F (bP σ x))=N (bP σ x) from congrFun (yU hF _) 0,fm] at this
   exact this
 .have:=dD.1 h3 q hq
  unfold aE1 at this
  rw[dt] at this
  rcases this with this | this
  rotate_left
  .rw[ar] at this
   have h5:=aE3 hF this.2
   rw[show N (nX F (bP σ q.1))=N (bP σ q.1) from congrFun (yU hF _) 0,fm] at h5
   rw[this.1]
   exact decide_eq_true h5
  unfold X6 at this
  rw[dt] at this
  rcases this with this | this
  .unfold QS at this
   split at this
   .rename_i b hb
    have h5:=Bi hF hb
    rw[fm] at h5
    rw[<- eq_of_beq this]; exact h5
   .cases this
  .split at this
   .rename_i b hb
    have h5:=Ec hF hb
    rw[show N (nX F (bP σ q.1))=N (bP σ q.1) from congrFun (yU hF _) 0,fm] at h5
    rw[<- eq_of_beq this]; exact h5
   .cases this
 .have:=congrArg Prod.fst (Dk hF (dD.1 h4 q hq))
  have h5:D (bP σ q.1)=D (bP σ q.2):=this
  rw[wb,wb] at h5
  exact h5
theorem aSC {P:Program} {f:FuncId} {I:Info} (hF:ah I.F) {sp:Sp} (hp:ab P f sp):N9 P f (au sp I.F):=by
 intro ys h v h' he bs vs w ha hR
 unfold au at he
 dsimp only at he
 generalize Ld sp ys h=m at he
 obtain⟨hb,he⟩:=cm he
 cases he
 simp only[ar] at hb
 obtain⟨h1,h2,h3,h4⟩:=hb
 obtain⟨hplc,hout⟩:=Qq h3
 have ha':=Od (σ:=eM m.1) (τ:=aV m.2) h1 (Ys hF h2 ha)
 have:=hp (dw (eM m.1)) (aug hF h4) _ vs w ha' (hplc.hr hF hR)
 refine this.imp ?_
 rintro u w' ⟨bs1,hR1,hM1,hv1⟩
 obtain⟨o1,o2,o3⟩:=hplc.out hR hout hR1 hM1
 obtain⟨p1,p2⟩:=Lg hF (ids:=sp.l'.map λx=>iS (aV m.2) sp.n h.nx x.1) o1 o2
 exact⟨_,p1,p2,a8z hF (agQ hF (Uw o3 hv1))⟩
omit [Env] in
theorem aw {P:Program} {f:FuncId} {sp:Sp} (hp:ab P f sp):aY P (f,au sp):=λE _ hF=>@aSC E _ _ _ hF _ hp
end
end Go.Z
namespace Go.Proofs.Y
open Go Go.Z
section
open Hz
theorem od {E:Env} {a n:X} (h:decide (N (.f 0 (.c a (.c n .n)))≠0)=true) (j:Nat) (hj:(j:Int) < N n):D a j=255:=jI (of_decide_eq_true h) j hj
abbrev jN:Nat×Int×Int:=(83,0,1000)
abbrev tS:Nat×Int×Int:=(121,0,18446744073709551615)
abbrev tT:Nat×Int×Int:=(122,0,18446744073709551615)
abbrev TD:Nat×Int×Int:=(123,0,9223372036854775807)
abbrev tU:Nat×Int×Int:=(124,0,255)
abbrev aOS:VB:=[fe,gi,NC,JG,FO,iW,(7,1,16),jg,nY,ku,iG,jN,iH,(102,0,5),(120,-1,1),tS,tT,TD,tU,(101,0,1),xW,xX,xY,xZ,x5,tI,qI,x7,tH,zY,xS,xT,xU,xV]
abbrev arH:X:=ir 1 122
abbrev kV:X:=bz (.i 1000000000) 84
abbrev cD:X:=mP 102 gO
abbrev CC:X:=bj gO
abbrev arI:X:=.f 0 (.c (jl cD) CC)
abbrev vW:X×Bool:=(arI,true)
abbrev nZ:X:=.i 216
abbrev ade:List V:=[bS,lH 8 nZ]
abbrev aPf:ai:=dM 2 (.v 21)
abbrev cQ:Nat×Bl:=(0,⟨114,[bg,aPf,a9,nR,mT],false,0⟩)
abbrev vY:Nat×Bl:=(2,FU)
abbrev lM:ai:=lG 10
abbrev aPg:ai:=fQ 120
abbrev vZ:ai:=nF (.v 121)
abbrev v7:ai:=nF (.v 122)
abbrev v8:ai:=fQ 123
abbrev tX:ai:=oO (.v 124)
abbrev pU(a:X):ai:=.a [.u8] aH a
abbrev CD:ai:=pU ae
abbrev jO(a:Nat)(b:List ai):Nat×Bl:=(a,⟨180,b,false,0⟩)
abbrev v9:Nat×Bl:=jO 3 [lM,aPg,vZ,v7,v8,tX,bC,ag,ag,ag,ag,CD,fE]
abbrev CE:ai:=dM 5 mW
abbrev CG:ai:=vv 6 aH Tn
abbrev kW:Nat×Bl:=jm 4 [CE,CG,arh,bC,bC,ag,fE]
abbrev kX:Nat×Bl:=(5,FQ)
abbrev eP:Nat×Bl:=(6,ari)
abbrev arE:Nat×Bl:=cj 8 nZ aOs
abbrev aPb:List (Nat×Bl):=[cQ,cP [cY,fK,bg,gh,a9,qE (ck (cz nT nU nW jw (bZ (.v 6) aj (.v 7) aj ae))),oQ,oR,oS,oT,oN,lI,oP,lJ,ko,lK,a8,mV,fc,kS,cK,cK],vY,v9,kW,kX,eP,arE]
abbrev ac7:Nat×Bl:=jm 4 [CE,CG,vU (.i 28),bC,bC,ag,fE]
abbrev aPc:X:=jl (.o2 0 cD ff)
abbrev aPd:X:=tO (.v 8) aPc
abbrev m5(a:X):Nat×Bl:=sq 5 a
def aA3:Sp:=⟨dT aOS [gP,ye,arH,bz gO 3,kV] [Cx,acY,vW],ade,11,aPb,eJ,11,[cQ,cP [cY,fK,bg,gh,a9,FN,eO,aq0,dQ,ed,B2,TA,Ct,fS,ko,lK,a8,mV,fc,kS,cK,cK],vY,v9,ac7,m5 (bZ (.v 80) cD nT aj (cz nU nW jw (.v 6) (oY 7 aj ae bA (sj my jk FP aH (.v 4) (tO (.v 5) aPd))))),eP,arE]⟩
abbrev JR:X:=bj ff
theorem a39:ab aa 98 aA3:=dj (t:=[(226,au Nb.zc),(286,au aAk),(183,au ahW)]) (lt:=[]) (m:=30) ⟨(aw LO),(aw a3f),(aw az4),trivial⟩ trivial (.is (.f 2 (dG (jl cD) aqZ JR)) true .lf) ⟨λE hF=>(aQR (λj hj=>od (hF.t (mt (mt mh))) j (by have hj:(j:Int) < 224:=hj; show (j:Int) < 1024; omega)) (λj _=>cO hF.vb _ 0 255 kr j)),df rfl⟩ kr
abbrev arF:X:=fJ (ir 122 1)
abbrev TM:V:=gw (.i 9)
def aA0:Sp:=⟨dT aOS [gP,ye,arF,bz gO 3] [Cx,acY],ade,11,aPb,TM,11,[cQ,cP [cY,fK,bg,gh,a9,FN,oQ,oR,oS,oT,oN,lI,oP,lJ,ko,lK,a8,mV,fc,kS,cK,cK],vY,v9,kW,kX,eP,arE]⟩
theorem a35:ab aa 98 aA0:=aG (t:=[(183,au ahW)]) (lt:=[]) (m:=30) ⟨(aw az4),trivial⟩ trivial .lf kr
theorem Ay (E:Env) (x:X) (k:Nat):N (.o2 14 (.f 1031 (.c x .n)) (.i (k:Int)))=N x / 2 ^ (8*k) % 256:=rfl
theorem og (E:Env) (x:X):N (.o2 14 (.f 1031 (.c x .n)) (.i 0))=N x % 256:=by
 rw[show (X.i 0)=X.i ((0:Nat):Int) from rfl,Ay]
 show _ / 1 % 256=_
 rw[JV]
theorem sJ (E:Env) (x:X):N (.o2 14 (.f 1031 (.c x .n)) (.i 1))=N x / 256 % 256:=by
 rw[show (X.i 1)=X.i ((1:Nat):Int) from rfl,Ay]
 rfl
theorem Io {E:Env} {s b:X} (h0:0<=N s) (h1:N s<=1) (h2:0<=N b):N (.o2 6 s (.o2 2 b cV))=N s+N b*256:=pj (k:=8) (m:=256) dc rfl rfl h0 om h2
theorem XK {E:Env} {s b:X} (h0:0<=N s) (h1:N s<=1) (h2:0<=N b) (h3:N b<=16):N (.o2 14 (.f 1031 (.c (.o2 6 s (.o2 2 b (.i 256))) .n)) (.i 0))=N s:=by rw[og,Io h0 h1 h2]; omega
theorem XL {E:Env} {s b:X} (h0:0<=N s) (h1:N s<=1) (h2:0<=N b) (h3:N b<=16):N (.o2 14 (.f 1031 (.c (.o2 6 s (.o2 2 b (.i 256))) .n)) (.i 1))=N b:=by rw[sJ,Io h0 h1 h2]; omega
def aiz:Sp:=lC oE [vF] (xK .db aay)
theorem aBc:ab aa 106 aiz:=aG (t:=[]) (lt:=[]) (m:=30) trivial trivial .lf kr
abbrev Ac:Nat×Int×Int:=(30,0,255)
abbrev Ad:Nat×Int×Int:=(32,0,255)
abbrev tV:X:=.i 232
abbrev ac8:List V:=[oI 0 tV .a]
abbrev pS(a:X):X:=.f 1031 (bj a)
abbrev ac9:X:=pS (sc (.v 101) (.v 112))
abbrev FX(a:Nat):X:=pS (.v a)
abbrev CB:X:=FX 113
abbrev NO:X:=FX 114
abbrev ada:X:=qv 33
abbrev Ae(a b c d e:X):X:=bZ (.f 1013 (bj (.f 1009 a))) b c aH (bk (.f 1010 d) e)
abbrev aPe:X:=Ae (cy 30 ada) aU (.f 1014 ada) (cy 30 ada) (Jq (.v 33))
abbrev pT(a b:X):X:=.o3 0 a aH b
abbrev adb:X:=gF CB NO (pT (.v 32) aPe)
abbrev Af(a:Nat)(b c:X):Nat×Bl:=cj a tV (pT b c)
abbrev arG:Nat×Bl:=Af 0 ac9 adb
abbrev TN:X:=pM ac9
abbrev TI(a:X):X:=.o2 14 a aj
abbrev TJ:X:=TI ac9
abbrev TK:X:=JI CB
abbrev ac4:ai:=aF TK
abbrev TL:X:=JI NO
abbrev ac5:ai:=aF TL
abbrev Ab:ai:=pU (.v 32)
abbrev FV:ai:=dM 1 jM
abbrev FW:Nat×Bl:=cj 1 jM aPe
def aAv:Sp:=kT (cI [(101,0,1),(112,0,16),(113,0,2147483647),(114,0,2147483647),Ac,(33,0,1152921504606846976),Ad]) ac8 [arG] (mj [aF TN,aF TJ,ac4,ac5,Ab,FV]) arG FW
def WX:Sp:={aAv with v:=mj [fK,mV,fc,kS,Ab,FV],l':=[arG,FW]}
theorem a1R {E:Env} (hF:ah aAv.fa.fx):D (.f 1031 (.c (.o2 6 (.o2 14 (.f 1031 (.c (.o2 6 (.v 101) (.o2 2 (.v 112) (.i 256))) .n)) (.i 0)) (.o2 2 (.o2 14 (.f 1031 (.c (.o2 6 (.v 101) (.o2 2 (.v 112) (.i 256))) .n)) (.i 1)) (.i 256))) .n))=D (.f 1031 (.c (.o2 6 (.v 101) (.o2 2 (.v 112) (.i 256))) .n)):=by
 have a:=XK (hF.b 101 rfl).1 (hF.b 101 rfl).2 (hF.b 112 rfl).1 (hF.b 112 rfl).2
 have b:=XL (hF.b 101 rfl).1 (hF.b 101 rfl).2 (hF.b 112 rfl).1 (hF.b 112 rfl).2
 have h1:=(hF.b 101 rfl); have h2:=(hF.b 112 rfl)
 rw[fW,fW,Io om om om,Io h1.1 h1.2 h2.1,a,b]
def ahl:OT:=[(177,au y4),(282,au aj2),(106,au DP)]
theorem aso:dB (aY aa) ahl:=⟨(aw A7),(aw aCR),(aw H7),trivial⟩
abbrev ac6:X:=bz TK 113
abbrev ado:X:=cJ 113 TK
abbrev adp:X:=bz TL 114
abbrev adq:X:=cJ 114 TL
abbrev adr:X:=pS TK
abbrev ads:X:=pS TL
theorem a3v:ab aa 228 aAv:=dj (t:=ahl) (lt:=[]) (m:=30) aso trivial (.ge (bz TN 101) (.ge (cJ 101 TN) (.ge (bz TJ 112) (.ge (cJ 112 TJ) (.ge ac6 (.ge ado (.ge adp (.ge adq (.same adr CB (.same ads NO (.same (pS (sc TN TJ)) ac9 .lf))))))))))) ⟨λE hF=>dP (XK (hF.b 101 rfl).1 (hF.b 101 rfl).2 (hF.b 112 rfl).1 (hF.b 112 rfl).2),⟨λE hF=>dR (XK (hF.b 101 rfl).1 (hF.b 101 rfl).2 (hF.b 112 rfl).1 (hF.b 112 rfl).2),⟨λE hF=>dP (XL (hF.b 101 rfl).1 (hF.b 101 rfl).2 (hF.b 112 rfl).1 (hF.b 112 rfl).2),⟨λE hF=>dR (XL (hF.b 101 rfl).1 (hF.b 101 rfl).2 (hF.b 112 rfl).1 (hF.b 112 rfl).2),⟨λE hF=>dP (cM E (.v 113) (by have:=(hF.b 113 rfl); omega) (by have:=(hF.b 113 rfl); omega)),⟨λE hF=>dR (cM E (.v 113) (by have:=(hF.b 113 rfl); omega) (by have:=(hF.b 113 rfl); omega)),⟨λE hF=>dP (cM E (.v 114) (by have:=(hF.b 114 rfl); omega) (by have:=(hF.b 114 rfl); omega)),⟨λE hF=>dR (cM E (.v 114) (by have:=(hF.b 114 rfl); omega) (by have:=(hF.b 114 rfl); omega)),⟨λE hF=>(by rw[fW,fW,cM E (.v 113) (by have:=(hF.b 113 rfl); omega) (by have:=(hF.b 113 rfl); omega)]),⟨λE hF=>(by rw[fW,fW,cM E (.v 114) (by have:=(hF.b 114 rfl); omega) (by have:=(hF.b 114 rfl); omega)]),⟨λ_ h=>a1R h,df rfl⟩⟩⟩⟩⟩⟩⟩⟩⟩⟩⟩ kr
abbrev adt:X:=ao TK
abbrev adu:X:=fP 113
abbrev adw:X:=ao TL
abbrev adx:X:=fP 114
theorem aij:ab aa 228 WX:=aL a3v [((ao TN),(fP 101)),((ao TJ),(fP 112)),(adt,adu),(adw,adx)] _ _ (al (λE hF=>aD (XK (hF.b 101 rfl).1 (hF.b 101 rfl).2 (hF.b 112 rfl).1 (hF.b 112 rfl).2))<|al (λE hF=>aD (XL (hF.b 101 rfl).1 (hF.b 101 rfl).2 (hF.b 112 rfl).1 (hF.b 112 rfl).2))<|al (λE hF=>aD (cM E (.v 113) (by have:=(hF.b 113 rfl); omega) (by have:=(hF.b 113 rfl); omega)))<|al (λE hF=>aD (cM E (.v 114) (by have:=(hF.b 114 rfl); omega) (by have:=(hF.b 114 rfl); omega)))<|aN) kr
abbrev F4:Nat×Int×Int:=(123,0,2147483647)
abbrev qL:X:=.i 96
abbrev arK:X:=FX 120
abbrev arL:X:=FX 121
abbrev arM:X:=FX 122
abbrev arN:X:=FX 123
abbrev arO:X:=gF arL arM (pT arN (.v 124))
abbrev arP:List (Nat×Bl):=[cj 0 qL (pT arK arO)]
abbrev TV:X:=pM arK
abbrev TW:X:=JI arL
abbrev TX:X:=JI arM
abbrev TY:X:=JI arN
def aAB:Sp:=⟨cI [(120,0,1),tS,tT,F4,tU],[oI 0 qL .a],1,arP,mj [aF TV,nF TW,nF TX,aF TY,tX],1,arP⟩
def Lk:Sp:={aAB with v:=mj [aPg,vZ,v7,v8,tX],l':=arP}
theorem a3y:ab aa 227 aAB:=dj (t:=[(177,au y4),(282,au aj2)]) (lt:=[]) (m:=30) ⟨(aw A7),(aw aCR),trivial⟩ trivial (.ge (bz TV 120) (.ge (cJ 120 TV) (.ge (bz TW 121) (.ge (cJ 121 TW) (.ge (bz TX 122) (.ge (cJ 122 TX) (.ge (bz TY 123) (.ge (cJ 123 TY) (.same (pS TV) arK (.same (pS TW) arL (.same (pS TX) arM (.same (pS TY) arN .lf)))))))))))) ⟨λE hF=>dP ((by have h:=(hF.b 120 rfl); rw[og]; omega)),⟨λE hF=>dR ((by have h:=(hF.b 120 rfl); rw[og]; omega)),⟨λE hF=>dP (cM E (.v 121) (by have:=(hF.b 121 rfl); omega) (by have:=(hF.b 121 rfl); omega)),⟨λE hF=>dR (cM E (.v 121) (by have:=(hF.b 121 rfl); omega) (by have:=(hF.b 121 rfl); omega)),⟨λE hF=>dP (cM E (.v 122) (by have:=(hF.b 122 rfl); omega) (by have:=(hF.b 122 rfl); omega)),⟨λE hF=>dR (cM E (.v 122) (by have:=(hF.b 122 rfl); omega) (by have:=(hF.b 122 rfl); omega)),⟨λE hF=>dP (cM E (.v 123) (by have:=(hF.b 123 rfl); omega) (by have:=(hF.b 123 rfl); omega)),⟨λE hF=>dR (cM E (.v 123) (by have:=(hF.b 123 rfl); omega) (by have:=(hF.b 123 rfl); omega)),⟨λE hF=>(by
 have h:=(hF.b 120 rfl)
 rw[fW,fW,og]
 congr 1
 omega),⟨λE hF=>(by rw[fW,fW,cM E (.v 121) (by have:=(hF.b 121 rfl); omega) (by have:=(hF.b 121 rfl); omega)]),⟨λE hF=>(by rw[fW,fW,cM E (.v 122) (by have:=(hF.b 122 rfl); omega) (by have:=(hF.b 122 rfl); omega)]),⟨λE hF=>(by rw[fW,fW,cM E (.v 123) (by have:=(hF.b 123 rfl); omega) (by have:=(hF.b 123 rfl); omega)]),df rfl⟩⟩⟩⟩⟩⟩⟩⟩⟩⟩⟩⟩ kr
theorem PT:ab aa 227 Lk:=aL a3y [((ao TV),(fP 120)),((ao TW),(fP 121)),((ao TX),(fP 122)),((ao TY),(fP 123))] _ _ (al (λE hF=>aD (by have h:=(hF.b 120 rfl); rw[og]; omega))<|al (λE hF=>aD (cM E (.v 121) (by have:=(hF.b 121 rfl); omega) (by have:=(hF.b 121 rfl); omega)))<|al (λE hF=>aD (cM E (.v 122) (by have:=(hF.b 122 rfl); omega) (by have:=(hF.b 122 rfl); omega)))<|al (λE hF=>aD (cM E (.v 123) (by have:=(hF.b 123 rfl); omega) (by have:=(hF.b 123 rfl); omega)))<|aN) kr
abbrev ady:X:=JM 41
abbrev adz:X:=yb (.v 41)
abbrev adA:X:=Co (.v 41)
abbrev adB:X:=nI 41 oV
abbrev TZ:X:=.f 1044 (di (oW (.v 40) ae (JM 43) (nI 43 aH) ady adz adA adB (iU (.v 42) 43)) (bQ 43 aH))
abbrev adi:X:=vq TZ qx
def XC:X:=oW (.v 40) ae (JM 43) (nI 43 aH) ady adz adA adB (tq 42 43 (.o1 3 TZ) (cz (yb TZ) (Co TZ) (.o2 10 TZ oV) (.o1 3 adi) (bZ (yb adi) aj (Co adi) aj (lD (.o2 10 adi oV)))))
abbrev TQ:X:=.f 1044 (.c (oY 40 aj ae cq (cz ady adz adA adB ae)) FA)
abbrev adj:X:=vq TQ qx
def Ig:X:=oY 40 aj ae cq (oW ady adz adA adB (.o1 3 TQ) (yb TQ) (Co TQ) (.o2 10 TQ oV) (cz (.o1 3 adj) (yb adj) (Co adj) (.o2 10 adj oV) ae))
abbrev adk:Nat×Int×Int:=(41,0,4294967295)
abbrev pV:X:=Cw (bQ 43 aH)
abbrev TR:ai:=fQ 40
abbrev NR:Bl:=oC (.v 43) (.v 42)
abbrev CH:X:=bQ 43 dA
abbrev aPh:V:=lH 1 CH
def aB5:Sp:=kT (nK [(40,1,250),adk,(42,0,255),(43,1,512)] [] pV) [.agg [TR,qA,vv 0 (.v 43) .a]] [(0,NR)] aPh (0,NR) (cj 1 CH XC)
abbrev arJ:X:=.f 1050 (iE 40 41 42 43 .n)
def wW:Sp:={aB5 with v:=aPh,l':=[(0,NR),cj 1 CH arJ]}
theorem a5B:ab aa 231 aB5:=aG (t:=[(285,au WQ)]) (lt:=[]) (m:=30) ⟨(aw ah1),trivial⟩ trivial .lf kr
theorem y5:ab aa 231 wW:=aL a5B [((bk XC CH),(bk arJ CH))] _ _ (al (λE hF=>(aq (λq _=>by
 have b:=cO hF.vb XC 0 255 kr q
 have e:D arJ q=Lz.az 0 255 (D XC q):=kr
 rw[e,Lz.a6 b.1 b.2]) _))<|aN) kr
abbrev aPi:Fa:=cI [(40,1,250),adk]
abbrev aPj:V:=lH 0 dA
abbrev aPk:Bl:=oC dA Ig
def aB6:Sp:=⟨aPi,[.agg [TR,qA,fE]],0,[],aPj,1,[(0,aPk)]⟩
abbrev FZ:X:=qv 41
abbrev adl:X:=.f 1051 (cy 40 FZ)
def ajg:Sp:={aB6 with v:=aPj,l':=[cj 0 dA adl]}
theorem a5C:ab aa 231 aB6:=aG (t:=[(285,au WQ)]) (lt:=[]) (m:=30) ⟨(aw ah1),trivial⟩ trivial .lf kr
theorem aB7:ab aa 231 ajg:=aL a5C [((bk Ig dA),(bk adl dA))] _ _ (al (λE hF=>(aq (λq _=>by
 have b:=cO hF.vb Ig 0 255 kr q
 have e:D adl q=Lz.az 0 255 (D Ig q):=kr
 rw[e,Lz.a6 b.1 b.2]) _))<|aN) kr
end
end Go.Proofs.Y
namespace Go.Proofs.Y
open Go Go.Z
section
open Hz
section
variable {E:Env}
abbrev nA (E:Env):Int:=N (.v 41)
abbrev nD (E:Env):Int:=N (.v 114)
abbrev nB (E:Env):Int:=N (.v 102)*1024
abbrev rF (E:Env):R:=D (.v 80)
abbrev rD (E:Env):R:=D (.v 71)
structure CW (E:Env):Prop where
 d0:0<=nD E
 da:nD E<=nA E
 a1:nA E < 1024
 b0:0<=nB E
 b1:nB E<=7168
 bF:∀q,0<=rF E q/\rF E q<=255
 bD:∀q,0<=rD E q/\rD E q<=255
abbrev F0:X:=ir 41 114
abbrev adm:X:=bz (.i 1023) 41
theorem ba {fx:Fx} (hv:@Ar E fx.vb) (h:0<=N F0) (h2:0<=N adm) (h80:iA 80 fx.vb=some (0,255):=by rfl) (h71:iA 71 fx.vb=some (0,255):=by rfl) (h102:iA 102 fx.vb=some (0,7):=by rfl) (h41:iA 41 fx.vb=some (0,1024):=by rfl) (h114:iA 114 fx.vb=some (0,1023):=by rfl):CW E:=by
 have a:=hv 41 _ _ h41 0
 have b:=hv 114 _ _ h114 0
 have c:=hv 102 _ _ h102 0
 have h:0<=N (.v 41) - N (.v 114):=h
 have a:0<=N (.v 41)/\N (.v 41)<=1024:=a
 have h2:0<=1023 - N (.v 41):=h2
 have b:0<=N (.v 114)/\N (.v 114)<=1023:=b
 have c:0<=N (.v 102)/\N (.v 102)<=7:=c
 exact⟨b.1,by show N (.v 114)<=N (.v 41); omega,by show N (.v 41) < 1024; omega,by show 0<=N (.v 102)*1024; omega,by show N (.v 102)*1024<=7168; omega,hv 80 _ _ h80,hv 71 _ _ h71⟩
abbrev fT:X:=z5 (.v 41)
theorem Bb (c:CW E):N fT=nA E % 8:=@uj _ E (.v 41) 8 (by have:=c.d0; have:=c.da; show 0<=nA E; omega)
abbrev TT:X:=z5 rX
theorem aD3 (c:CW E):N TT=(nA E+1) % 8:=@uj _ E rX 8 (by have:=c.d0; have:=c.da; show 0<=nA E+1; omega)
abbrev TU:X:=Ng fT
abbrev JS:X:=.o2 11 TU aH
theorem aym (c:CW E):N JS=tf (decide (nA E % 8+1 < 8)):=by
 rw[jx,bB,Bb c]; rfl
theorem Pl (c:CW E) (h:decide (N JS≠0)=true):nA E % 8+1 < 8:=by
 rw[aym c,gX] at h; exact of_decide_eq_true h
theorem fG (c:CW E) (h:decide (N JS≠0)=false):¬nA E % 8+1 < 8:=by
 rw[aym c,gX] at h; exact of_decide_eq_false h
abbrev lN:X:=.f 1105 (cy 114 FZ)
theorem Lu (c:CW E):N lN=Cu.cn (nD E) (nA E):=by
 have:=Cu.y8 c.da
 have:=c.d0; have:=c.a1; have:=c.da
 show Lz.az 0 1024 (Cu.cn (nD E) (nA E))=_
 exact Lz.a6 om om
abbrev CI:X:=.f 1105 (eZ 114 rX)
theorem Lt (c:CW E):N CI=Cu.cn (nD E) (nA E+1):=by
 have h:=c.da
 have:=Cu.y8 (d:=nD E) (a:=nA E+1) om
 have:=c.d0; have:=c.a1
 show Lz.az 0 1024 (Cu.cn (nD E) (nA E+1))=_
 exact Lz.a6 om om
abbrev Ag(a:X):X:=.f 1103 (bL 80 cD a)
abbrev F3:X:=Ag (cN 114 41 (bj lN))
theorem aEx (c:CW E):N F3=Cu.iR (rF E) (nB E) (nD E) (nA E) (Cu.cn (nD E) (nA E)):=by
 have h:=Cu.XT (F:=rF E) (B:=nB E) c.d0 c.da (by have:=c.a1; omega) (N lN)
 show Lz.az 0 2048 (Cu.iR (rF E) (nB E) (nD E) (nA E) (N lN))=_
 rw[Lz.a6 h.1 h.2,Lu c]
abbrev adn:X:=Ag (rR 114 rX CI)
theorem aEw (c:CW E):N adn=Cu.iR (rF E) (nB E) (nD E) (nA E+1) (Cu.cn (nD E) (nA E+1)):=by
 have h:=Cu.XT (F:=rF E) (B:=nB E) (d:=nD E) (a:=nA E+1) c.d0 (by have:=c.da; omega) (by have:=c.a1; omega) (N CI)
 show Lz.az 0 2048 (Cu.iR (rF E) (nB E) (nD E) (nA E+1) (N CI))=_
 rw[Lz.a6 h.1 h.2,Lt c]
abbrev FY(a:Nat)(b:X)(c:Nat)(d:X):X:=.f 1100 (bL a b (eZ c d))
abbrev tY:X:=FY 80 cD 71 lN
theorem Xe (c:CW E):D tY=Cu.eA (rF E) (nB E) (rD E) (Cu.cn (nD E) (nA E)):=by
 show dI (Cu.eA (rF E) (nB E) (rD E) (N lN))=_
 rw[lR (Cu.Ls c.bF c.bD _ _),Lu c]
abbrev TO:X:=FY 80 cD 71 CI
theorem pgB (c:CW E):D TO=Cu.eA (rF E) (nB E) (rD E) (Cu.cn (nD E) (nA E+1)):=by
 show dI (Cu.eA (rF E) (nB E) (rD E) (N CI))=_
 rw[lR (Cu.Ls c.bF c.bD _ _),Lt c]
abbrev tZ:X:=.f 1101 (cy 71 FZ)
theorem Yu (c:CW E):D tZ=Cu.mN (rD E) (nA E):=lR (Cu.alp c.bD _)
abbrev TP:X:=.f 1101 (eZ 71 rX)
theorem wdB (c:CW E):D TP=Cu.mN (rD E) (nA E+1):=lR (Cu.alp c.bD _)
abbrev adf:X:=bQ 84 F3
abbrev adg:X:=bQ 84 adn
theorem CW.akP (c:CW E) (h:nA E % 8+1 < 8):N adf=N adg:=by
 show N (.v 84)+N F3=N (.v 84)+N adn
 rw[aEx c,aEw c,Cu.a9y h]
theorem CW.akd (c:CW E) (h:nA E % 8+1 < 8) (q:Nat):D tY q=D TO q:=by rw[Xe c,pgB c,Cu.Xq h]
theorem aRN (p x:X) (hx:N p=N x) (q:Nat):D (.f 1102 (.c (.v 83) (.c (.v 80) (.c cD (.c (.v 114) (.c p .n)))))) q=D (.f 1102 (.c (.v 83) (.c (.v 80) (.c cD (.c (.v 114) (.c x .n)))))) q:=by
 show Lz.az 0 1001 (Cu.lU (rF E) (nB E) (nD E) (N p) (D (.v 83)) q)=Lz.az 0 1001 (Cu.lU (rF E) (nB E) (nD E) (N x) (D (.v 83)) q)
 rw[hx]
abbrev wa(a b:Nat)(c:X):X:=.f 1102 (cN a b c)
abbrev NQ:X:=wa 83 80 (lE cD (.v 114) lN)
abbrev adh:X:=wa 83 80 (lE cD (.v 114) CI)
theorem CW.aeS (c:CW E) (h:nA E % 8+1 < 8) (q:Nat):D NQ q=D adh q:=aRN _ _ (by rw[Lu c,Lt c,Cu.Xq h]) q
theorem CW.n_a (c:CW E) (h:nA E % 8+1 < 8):N TU=N TT:=by
 rw[bB,Bb c,aD3 c]
 show nA E % 8+1=_
 omega
abbrev L7:X:=fZ 71 (.v 41)
abbrev alP:X:=FJ tZ fT L7 tZ TU
theorem CW.a_x (c:CW E) (q:Nat) (hq:(q:Int) < 8):D alP q=D TP q:=by
 have e:=Bb c
 rw[@su _ E _ _ _ (by rw[e]; omega),e,Yu c,wdB c,Cu.aFj (by have:=c.d0; have:=c.da; omega) om]
 rfl
abbrev jZ:X:=qu lN
abbrev YF:X:=qu CI
theorem CW.aks (c:CW E) (h:nA E % 8+1 < 8):N jZ=N YF:=by
 rw[jx,jx,Lu c,Lt c,Cu.Xq h]
end
section
variable {E:Env}
theorem D0 (c:CW E) (h:¬nA E % 8+1 < 8):N fT=7:=by
 rw[Bb c]
 omega
abbrev YG:X:=IP fT
abbrev rE:X:=bQ 41 YG
theorem yL (c:CW E) (h:¬nA E % 8+1 < 8):N rE=nA E - 7:=by
 show N (.v 41)+N fT*(-1)=_
 rw[D0 c h]
 show nA E+7*(-1)=nA E - 7
 omega
theorem AB (c:CW E) (h:¬nA E % 8+1 < 8):7<=nA E/\(nA E - 7) % 8=0:=by
 have:=c.d0; have:=c.da
 omega
abbrev alQ:X:=.o2 3 rE gO
abbrev xr:X:=.o1 4 alQ
theorem XN (c:CW E) (h:¬nA E % 8+1 < 8):N xr=0:=by
 have f:=yL c h
 have m:=AB c h
 have a:=c.a1
 have e:N alQ=0:=by
  rw[@gQ _ E _ _ (by rw[f]; omega),f]
  omega
 rw[@asc _ E _ (by rw[e]; decide) (by rw[e]; decide),e]
abbrev YH:X:=bQ 84 (Ng F3)
theorem CW.QI (c:CW E) (h:¬nA E % 8+1 < 8) (hb:0 < Cu.cn (nD E) (nA E)\/Cu.bare (rF E) (nB E)):N YH=N adg:=by
 show N (.v 84)+(N F3+1)=N (.v 84)+N adn
 rw[aEx c,aEw c,Cu.a9x c.d0 c.da h hb]
theorem CW.OI (c:CW E) (h:¬nA E % 8+1 < 8) (hb:0 < Cu.cn (nD E) (nA E)\/Cu.bare (rF E) (nB E)) (q:Nat):D NQ q=D adh q:=by
 show Lz.az 0 1001 (Cu.lU (rF E) (nB E) (nD E) (N lN) (D (.v 83)) q)=Lz.az 0 1001 (Cu.lU (rF E) (nB E) (nD E) (N CI) (D (.v 83)) q)
 unfold Cu.lU
 rw[Lu c,Lt c,Cu.Xp c.da h,Cu.at4 c.da c.d0 hb]
theorem CW.n_b (c:CW E) (h:¬nA E % 8+1 < 8):N ae=N TT:=by
 rw[aD3 c]
 show (0:Int)=_
 omega
abbrev YI:X:=bZ tZ fT L7 aj ae
theorem CW.aFi (c:CW E) (h:¬nA E % 8+1 < 8) (q:Nat) (hq:(q:Int) < 8):D YI q=D TP q:=by
 have e:=D0 c h
 have ra:=Bb c
 rw[wdB c,Cu.aFj (by have:=c.d0; have:=c.da; omega) om,cE,e]
 by_cases k:(q:Int) < 7
 .rw[if_pos k,if_neg om,Yu c]
 .rw[if_neg k,if_pos om,cE,if_pos (by show ((q - (7:Int).toNat:Nat):Int) < 1; omega)]
  rfl
theorem CW.aDS (c:CW E) (h:¬nA E % 8+1 < 8):N aj=N YF:=by
 rw[jx,Lt c,Cu.Xp c.da h]
 have:=c.d0; have:=c.da
 show (1:Int)=tf (decide ((0:Int) < nA E+1))
 rw[decide_eq_true om]
 rfl
theorem Xz (c:CW E) (h:decide (N jZ≠0)=true):0 < Cu.cn (nD E) (nA E):=by
 rw[jx,gX,Lu c] at h
 exact of_decide_eq_true h
theorem UA (c:CW E) (h:decide (N arI≠0)=true):Cu.bare (rF E) (nB E):=λq hq=>od h q hq
abbrev alR:X:=mR cD YG (.v 41)
abbrev YJ:X:=.o2 15 tY alR
abbrev alS:X:=.f 2 (dG YJ (.o3 0 tZ fT L7) FA)
theorem CW.Ow (c:CW E) (h:¬nA E % 8+1 < 8) (hb:0 < Cu.cn (nD E) (nA E)\/Cu.bare (rF E) (nB E)):decide (N alS≠0)=true:=XW λj hj=>by
 have hj:(j:Int) < 8:=hj
 have e:=D0 c h
 have m:=AB c h
 have e2:N alR=nB E+(nA E - 7):=by
  show N (.v 102)*1024+(N fT*(-1)+N (.v 41))=_
  rw[e]
  show nB E+(7*(-1)+nA E)=_
  omega
 have o:D YJ j=Cu.eA (rF E) (nB E) (rD E) (Cu.cn (nD E) (nA E)) (j+(nB E+(nA E - 7)).toNat):=by
  rw[oZ,Xe c,e2]
 have w:D (.o3 0 tZ fT L7) j=rD E (j+(nA E - 7).toNat):=by
  rw[cE,e]
  by_cases k:(j:Int) < 7
  .rw[if_pos k,Yu c,Cu.Yw om (by have:=Bb c; omega)]
   congr 1
   have:=Bb c
   omega
  .rw[if_neg k]
   show rD E (nA E).toNat=_
   congr 1
   omega
 unfold fA
 rw[o,w]
 rcases Cu.a7D c.d0 c.da c.a1 c.b0 h hb (j:=j) om with g | g
 .rw[g,Nat.and_self,J8]; rfl
 .rw[g]
  have b:=c.bD (j+(nA E - 7).toNat)
  have e:(rD E (j+(nA E - 7).toNat)).toNat &&& (255:Int).toNat=(rD E (j+(nA E - 7).toNat)).toNat:=by
   rw[show (255:Int).toNat=2 ^ 8 - 1 from rfl,Uk]
   exact dE om
  rw[e,J8]
  rfl
end
abbrev Bs:X:=.o2 0 cD rE
abbrev YK:X:=.o2 0 YG aH
abbrev YL:X:=mR cD YG (bQ 41 aH)
abbrev YM:X:=bZ tY Bs tZ fT (.o3 0 L7 YK (.o2 15 tY YL))
theorem CW.Qn {E:Env} (c:CW E) (h:¬nA E % 8+1 < 8) (hb:0 < Cu.cn (nD E) (nA E)\/Cu.bare (rF E) (nB E)) (q:Nat):D YM q=D TO q:=by
 have e:=D0 c h
 have m:=AB c h
 have a1:=c.a1
 have b0:=c.b0
 rw[pgB c,Cu.Xp c.da h,Cu.a7J c.d0 c.da c.a1 c.b0 h hb q]
 have e1:N Bs=nB E+(nA E - 7):=by
  rw[bB,yL c h]; rfl
 have e2:N YK=1:=by
  show N fT*(-1)+8=1
  rw[e]
  rfl
 have e3:N YL=nB E+(nA E+1):=by
  show N (.v 102)*1024+(N fT*(-1)+(N (.v 41)+8))=_
  rw[e]
  show nB E+(7*(-1)+(nA E+8))=_
  omega
 rw[cE,e1]
 by_cases k1:(q:Int) < nB E+(nA E - 7)
 .rw[if_pos k1,if_pos k1,Xe c]
 rw[if_neg k1,if_neg k1,cE,e]
 by_cases k2:((q - (nB E+(nA E - 7)).toNat:Nat):Int) < 7
 .rw[if_pos k2,if_pos om,Yu c,Cu.Yw om (by have:=Bb c; omega)]
  congr 1
  have:=Bb c
  omega
 rw[if_neg k2,cE,e2]
 by_cases k3:((q - (nB E+(nA E - 7)).toNat - (7:Int).toNat:Nat):Int) < 1
 .rw[if_pos k3,if_pos om]
  show rD E (nA E).toNat=_
  congr 1
  omega
 rw[if_neg k3,if_neg om,oZ,e3,Xe c]
 congr 1
 omega
abbrev jf:Nat×Int×Int:=(71,0,255)
abbrev ID:VB:=[iG,jN,iH,jf,(102,0,7),(41,0,1024),(114,0,1023)]
abbrev alT:List V:=[qG,xJ L7]
abbrev xt:Nat×Bl:=jm 0 [yc,yd,aF adf,bC,bC,ag,fE]
abbrev xu:Nat×Bl:=sq 1 tY
abbrev rG:Nat×Bl:=(2,tQ NQ)
abbrev YN:ai:=aF fT
abbrev alU:ai:=pU tZ
abbrev rH(a b c d e:ai):Bl:=⟨314,[a,gh,aE,b,c,d,e,ag],false,0⟩
abbrev Ei:Nat×Bl:=(3,rH jL qA YN alU (aF jZ))
def aBK:Sp:=⟨nK ID [F0,kV,adm] JS,alT,4,[xt,xu,rG,Ei],eJ,4,[xt,xu,rG,(3,rH jL EY (aF TU) (pU alP) (aF jZ))]⟩
abbrev alB:List (Nat×Bl):=[jm 0 [yc,yd,aF adg,bC,bC,ag,fE],sq 1 TO,(2,tQ adh),(3,rH jL EY (aF TT) (pU TP) (aF YF))]
def pPa:Sp:={aBK with v:=eJ,l':=alB}
theorem a48:ab aa 245 aBK:=aG (t:=[]) (lt:=[]) (m:=30) trivial trivial .lf kr
abbrev alC:X:=ao adf
abbrev alD:X:=ao adg
abbrev alE:X:=m4 tY
abbrev alF:X:=m4 TO
abbrev IC:X:=ck NQ
abbrev alG:X:=ck adh
abbrev alH:X:=ao TT
abbrev alI:X:=ck TP
abbrev Q9:X:=ao jZ
abbrev alJ:X:=ao YF
theorem a49:ab aa 245 pPa:=aL a48 [(alC,alD),(alE,alF),(IC,alG),((ao TU),alH),((ck alP),alI),(Q9,alJ)] _ _ (al (λE hF=>aD ((ba hF.vb (hF.g mh) (hF.g (mt (mt mh)))).akP (Pl (ba hF.vb (hF.g mh) (hF.g (mt (mt mh)))) (hF.t mh))))<|al (λE hF=>(aq (λq _=>(ba hF.vb (hF.g mh) (hF.g (mt (mt mh)))).akd (Pl (ba hF.vb (hF.g mh) (hF.g (mt (mt mh)))) (hF.t mh)) q) _))<|al (λE hF=>(aq (λq _=>(ba hF.vb (hF.g mh) (hF.g (mt (mt mh)))).aeS (Pl (ba hF.vb (hF.g mh) (hF.g (mt (mt mh)))) (hF.t mh)) q) _))<|al (λE hF=>aD ((ba hF.vb (hF.g mh) (hF.g (mt (mt mh)))).n_a (Pl (ba hF.vb (hF.g mh) (hF.g (mt (mt mh)))) (hF.t mh))))<|al (λE hF=>(aq (λq hq=>by exact (ba hF.vb (hF.g mh) (hF.g (mt (mt mh)))).a_x q hq) _))<|al (λE hF=>aD ((ba hF.vb (hF.g mh) (hF.g (mt (mt mh)))).aks (Pl (ba hF.vb (hF.g mh) (hF.g (mt (mt mh)))) (hF.t mh))))<|aN) kr
abbrev alK:Nat×Bl:=(3,rH jL qA YN alU aE)
abbrev alL:Nat×Bl:=jm 0 [yc,yd,aF YH,bC,bC,ag,fE]
abbrev aFA:List (Nat×Bl):=[alL,sq 1 YM,rG,(3,rH jL EY ag (pU YI) aE)]
def aBO:Sp:=⟨dT ID [F0,kV,adm] [(JS,false),(jZ,true)],alT,4,[xt,xu,rG,alK],eJ,4,aFA⟩
def pPb:Sp:={aBO with v:=eJ,l':=alB}
def ahm:OT:=[(39,au QF),(286,au pFP)]
theorem asp:dB (aY aa) ahm:=⟨(aw akK),(aw aAm),trivial⟩
abbrev YA:X:=rO 1016 rE
abbrev Br(a:X):X:=.o2 1 ae a
abbrev YB:X:=Br xr
abbrev YC:X:=Cw rE
abbrev YD:X:=Cw Bs
theorem a5d:ab aa 245 aBO:=dj (t:=ahm) (lt:=[]) (m:=30) asp trivial (.ge rE (.ge YA (.ge xr (.ge YB (.is YC true (.ge (Jv fT) (.ge (.o2 1 fT jh) (.is YD true (.is alS true .lf))))))))) ⟨λE hF=>(by have e:=yL (ba hF.vb (hF.g mh) (hF.g (mt (mt mh)))) (fG (ba hF.vb (hF.g mh) (hF.g (mt (mt mh)))) (hF.t mh)); have m:=AB (ba hF.vb (hF.g mh) (hF.g (mt (mt mh)))) (fG (ba hF.vb (hF.g mh) (hF.g (mt (mt mh)))) (hF.t mh)); rw[e]; omega),⟨λE hF=>(by have e:=yL (ba hF.vb (hF.g mh) (hF.g (mt (mt mh)))) (fG (ba hF.vb (hF.g mh) (hF.g (mt (mt mh)))) (hF.t mh)); have a:=(ba hF.vb (hF.g mh) (hF.g (mt (mt mh)))).a1; show (0:Int)<=1016 - N rE; rw[e]; omega),⟨λE hF=>(by rw[XN (ba hF.vb (hF.g mh) (hF.g (mt (mt mh)))) (fG (ba hF.vb (hF.g mh) (hF.g (mt (mt mh)))) (hF.t mh))]; exact aP 0),⟨λE hF=>(by show (0:Int)<=0 - N xr; rw[XN (ba hF.vb (hF.g mh) (hF.g (mt (mt mh)))) (fG (ba hF.vb (hF.g mh) (hF.g (mt (mt mh)))) (hF.t mh))]; exact aP 0),⟨λE hF=>(by have e:=yL (ba hF.vb (hF.g mh) (hF.g (mt (mt mh)))) (fG (ba hF.vb (hF.g mh) (hF.g (mt (mt mh)))) (hF.t mh)); have m:=AB (ba hF.vb (hF.g mh) (hF.g (mt (mt mh)))) (fG (ba hF.vb (hF.g mh) (hF.g (mt (mt mh)))) (hF.t mh)); exact ri (by rw[e]; omega) (by rw[e]; exact m.2)),⟨λE hF=>(by show (0:Int)<=7 - N fT; rw[D0 (ba hF.vb (hF.g mh) (hF.g (mt (mt mh)))) (fG (ba hF.vb (hF.g mh) (hF.g (mt (mt mh)))) (hF.t mh))]; exact aP 0),⟨λE hF=>(by show (0:Int)<=N fT - 7; rw[D0 (ba hF.vb (hF.g mh) (hF.g (mt (mt mh)))) (fG (ba hF.vb (hF.g mh) (hF.g (mt (mt mh)))) (hF.t mh))]; exact aP 0),⟨λE hF=>(by have e:=yL (ba hF.vb (hF.g mh) (hF.g (mt (mt mh)))) (fG (ba hF.vb (hF.g mh) (hF.g (mt (mt mh)))) (hF.t mh)); have m:=AB (ba hF.vb (hF.g mh) (hF.g (mt (mt mh)))) (fG (ba hF.vb (hF.g mh) (hF.g (mt (mt mh)))) (hF.t mh)); have b:=(ba hF.vb (hF.g mh) (hF.g (mt (mt mh)))).b0; have x:N Bs=nB E+(nA E - 7):=(by rw[bB,e]; rfl); exact ri (by rw[x]; omega) (by rw[x]; show (N (.v 102)*1024+(nA E - 7)) % 8=0; omega)),⟨λE hF=>(ba hF.vb (hF.g mh) (hF.g (mt (mt mh)))).Ow (fG (ba hF.vb (hF.g mh) (hF.g (mt (mt mh)))) (hF.t mh)) (Or.inl (Xz (ba hF.vb (hF.g mh) (hF.g (mt (mt mh)))) (hF.t (mt mh)))),df rfl⟩⟩⟩⟩⟩⟩⟩⟩⟩ kr
abbrev YE:X:=ao YH
theorem a5e:ab aa 245 pPb:=aL a5d [(YE,alD),((m4 YM),alF),(IC,alG),(FM,alH),((ck YI),alI),(zV,alJ)] _ _ (al (λE hF=>aD ((ba hF.vb (hF.g mh) (hF.g (mt (mt mh)))).QI (fG (ba hF.vb (hF.g mh) (hF.g (mt (mt mh)))) (hF.t mh)) (Or.inl (Xz (ba hF.vb (hF.g mh) (hF.g (mt (mt mh)))) (hF.t (mt mh))))))<|al (λE hF=>(aq (λq _=>(ba hF.vb (hF.g mh) (hF.g (mt (mt mh)))).Qn (fG (ba hF.vb (hF.g mh) (hF.g (mt (mt mh)))) (hF.t mh)) (Or.inl (Xz (ba hF.vb (hF.g mh) (hF.g (mt (mt mh)))) (hF.t (mt mh)))) q) _))<|al (λE hF=>(aq (λq _=>(ba hF.vb (hF.g mh) (hF.g (mt (mt mh)))).OI (fG (ba hF.vb (hF.g mh) (hF.g (mt (mt mh)))) (hF.t mh)) (Or.inl (Xz (ba hF.vb (hF.g mh) (hF.g (mt (mt mh)))) (hF.t (mt mh)))) q) _))<|al (λE hF=>aD ((ba hF.vb (hF.g mh) (hF.g (mt (mt mh)))).n_b (fG (ba hF.vb (hF.g mh) (hF.g (mt (mt mh)))) (hF.t mh))))<|al (λE hF=>(aq (λq hq=>by exact (ba hF.vb (hF.g mh) (hF.g (mt (mt mh)))).aFi (fG (ba hF.vb (hF.g mh) (hF.g (mt (mt mh)))) (hF.t mh)) q hq) _))<|al (λE hF=>aD ((ba hF.vb (hF.g mh) (hF.g (mt (mt mh)))).aDS (fG (ba hF.vb (hF.g mh) (hF.g (mt (mt mh)))) (hF.t mh))))<|aN) kr
abbrev alM:X:=.o2 15 tY cD
abbrev alN:X:=.f 0 (.c alM CC)
abbrev aFB:Nat×Bl:=(3,rH jL qA YN alU ag)
def aBQ:Sp:=⟨dT ID [F0,kV,adm] [(JS,false),(jZ,false),vW,(alN,true)],alT,4,[xt,xu,rG,aFB],eJ,4,aFA⟩
def pPc:Sp:={aBQ with v:=eJ,l':=alB}
def PJ:OT:=[(39,au QF),(226,au Nb.zc),(286,au pFP)]
theorem Ut:dB (aY aa) PJ:=⟨(aw akK),(aw LO),(aw aAm),trivial⟩
theorem a5f:ab aa 245 aBQ:=dj (t:=PJ) (lt:=[]) (m:=30) Ut trivial (.ge rE (.ge YA (.ge xr (.ge YB (.is YC true (.ge (Jv fT) (.ge (.o2 1 fT jh) (.is YD true (.is alS true .lf))))))))) ⟨λE hF=>(by have e:=yL (ba hF.vb (hF.g mh) (hF.g (mt (mt mh)))) (fG (ba hF.vb (hF.g mh) (hF.g (mt (mt mh)))) (hF.t mh)); have m:=AB (ba hF.vb (hF.g mh) (hF.g (mt (mt mh)))) (fG (ba hF.vb (hF.g mh) (hF.g (mt (mt mh)))) (hF.t mh)); rw[e]; omega),⟨λE hF=>(by have e:=yL (ba hF.vb (hF.g mh) (hF.g (mt (mt mh)))) (fG (ba hF.vb (hF.g mh) (hF.g (mt (mt mh)))) (hF.t mh)); have a:=(ba hF.vb (hF.g mh) (hF.g (mt (mt mh)))).a1; show (0:Int)<=1016 - N rE; rw[e]; omega),⟨λE hF=>(by rw[XN (ba hF.vb (hF.g mh) (hF.g (mt (mt mh)))) (fG (ba hF.vb (hF.g mh) (hF.g (mt (mt mh)))) (hF.t mh))]; exact aP 0),⟨λE hF=>(by show (0:Int)<=0 - N xr; rw[XN (ba hF.vb (hF.g mh) (hF.g (mt (mt mh)))) (fG (ba hF.vb (hF.g mh) (hF.g (mt (mt mh)))) (hF.t mh))]; exact aP 0),⟨λE hF=>(by have e:=yL (ba hF.vb (hF.g mh) (hF.g (mt (mt mh)))) (fG (ba hF.vb (hF.g mh) (hF.g (mt (mt mh)))) (hF.t mh)); have m:=AB (ba hF.vb (hF.g mh) (hF.g (mt (mt mh)))) (fG (ba hF.vb (hF.g mh) (hF.g (mt (mt mh)))) (hF.t mh)); exact ri (by rw[e]; omega) (by rw[e]; exact m.2)),⟨λE hF=>(by show (0:Int)<=7 - N fT; rw[D0 (ba hF.vb (hF.g mh) (hF.g (mt (mt mh)))) (fG (ba hF.vb (hF.g mh) (hF.g (mt (mt mh)))) (hF.t mh))]; exact aP 0),⟨λE hF=>(by show (0:Int)<=N fT - 7; rw[D0 (ba hF.vb (hF.g mh) (hF.g (mt (mt mh)))) (fG (ba hF.vb (hF.g mh) (hF.g (mt (mt mh)))) (hF.t mh))]; exact aP 0),⟨λE hF=>(by have e:=yL (ba hF.vb (hF.g mh) (hF.g (mt (mt mh)))) (fG (ba hF.vb (hF.g mh) (hF.g (mt (mt mh)))) (hF.t mh)); have m:=AB (ba hF.vb (hF.g mh) (hF.g (mt (mt mh)))) (fG (ba hF.vb (hF.g mh) (hF.g (mt (mt mh)))) (hF.t mh)); have b:=(ba hF.vb (hF.g mh) (hF.g (mt (mt mh)))).b0; have x:N Bs=nB E+(nA E - 7):=(by rw[bB,e]; rfl); exact ri (by rw[x]; omega) (by rw[x]; show (N (.v 102)*1024+(nA E - 7)) % 8=0; omega)),⟨λE hF=>(ba hF.vb (hF.g mh) (hF.g (mt (mt mh)))).Ow (fG (ba hF.vb (hF.g mh) (hF.g (mt (mt mh)))) (hF.t mh)) (Or.inr (UA (ba hF.vb (hF.g mh) (hF.g (mt (mt mh)))) (hF.t (mt (mt mh))))),df rfl⟩⟩⟩⟩⟩⟩⟩⟩⟩ kr
theorem a5g:ab aa 245 pPc:=aL a5f [(YE,alD),((m4 YM),alF),(IC,alG),(FM,alH),((ck YI),alI),(zV,alJ)] _ _ (al (λE hF=>aD ((ba hF.vb (hF.g mh) (hF.g (mt (mt mh)))).QI (fG (ba hF.vb (hF.g mh) (hF.g (mt (mt mh)))) (hF.t mh)) (Or.inr (UA (ba hF.vb (hF.g mh) (hF.g (mt (mt mh)))) (hF.t (mt (mt mh)))))))<|al (λE hF=>(aq (λq _=>(ba hF.vb (hF.g mh) (hF.g (mt (mt mh)))).Qn (fG (ba hF.vb (hF.g mh) (hF.g (mt (mt mh)))) (hF.t mh)) (Or.inr (UA (ba hF.vb (hF.g mh) (hF.g (mt (mt mh)))) (hF.t (mt (mt mh))))) q) _))<|al (λE hF=>(aq (λq _=>(ba hF.vb (hF.g mh) (hF.g (mt (mt mh)))).OI (fG (ba hF.vb (hF.g mh) (hF.g (mt (mt mh)))) (hF.t mh)) (Or.inr (UA (ba hF.vb (hF.g mh) (hF.g (mt (mt mh)))) (hF.t (mt (mt mh))))) q) _))<|al (λE hF=>aD ((ba hF.vb (hF.g mh) (hF.g (mt (mt mh)))).n_b (fG (ba hF.vb (hF.g mh) (hF.g (mt (mt mh)))) (hF.t mh))))<|al (λE hF=>(aq (λq hq=>by exact (ba hF.vb (hF.g mh) (hF.g (mt (mt mh)))).aFi (fG (ba hF.vb (hF.g mh) (hF.g (mt (mt mh)))) (hF.t mh)) q hq) _))<|al (λE hF=>aD ((ba hF.vb (hF.g mh) (hF.g (mt (mt mh)))).aDS (fG (ba hF.vb (hF.g mh) (hF.g (mt (mt mh)))) (hF.t mh))))<|aN) kr
end
end Go.Proofs.Y
namespace Go.Proofs.Y
open Go Go.Z
section
open Hz
section
variable {E:Env}
theorem Xh {x y:X} (h:N x=N y):D (.f 1105 (.c (.v 114) (.c x .n)))=D (.f 1105 (.c (.v 114) (.c y .n))):=by
 show (λ_=>Lz.az 0 1024 (Cu.cn (N (.v 114)) (N x)))=(λ_=>Lz.az 0 1024 (Cu.cn (N (.v 114)) (N y)))
 rw[h]
theorem a7G {x y:X} (h:N x=N y):D (.f 1100 (.c (.v 80) (.c cD (.c (.v 71) (.c (.f 1105 (.c (.v 114) (.c x .n))) .n)))))=D (.f 1100 (.c (.v 80) (.c cD (.c (.v 71) (.c (.f 1105 (.c (.v 114) (.c y .n))) .n))))):=congrArg (λr=>ald [D (.v 80),D cD,D (.v 71),r]) (Xh h)
theorem aRL {x y:X} (h:N x=N y):D (.f 1102 (.c (.v 83) (.c (.v 80) (.c cD (.c (.v 114) (.c (.f 1105 (.c (.v 114) (.c x .n))) .n))))))=D (.f 1102 (.c (.v 83) (.c (.v 80) (.c cD (.c (.v 114) (.c (.f 1105 (.c (.v 114) (.c y .n))) .n)))))):=congrArg (λr=>ale [D (.v 83),D (.v 80),D cD,D (.v 114),r]) (Xh h)
theorem a_y {x y:X} (h:N x=N y):D (.f 1101 (.c (.v 71) (.c x .n)))=D (.f 1101 (.c (.v 71) (.c y .n))):=by
 show dI (Cu.mN (D (.v 71)) (N x))=dI (Cu.mN (D (.v 71)) (N y))
 rw[h]
theorem a9u {x y:X} (h:N x=N y):N (.o2 0 (.v 84) (.f 1103 (.c (.v 80) (.c cD (.c (.v 114) (.c x (.c (.f 1105 (.c (.v 114) (.c x .n))) .n)))))))=N (.o2 0 (.v 84) (.f 1103 (.c (.v 80) (.c cD (.c (.v 114) (.c y (.c (.f 1105 (.c (.v 114) (.c y .n))) .n))))))):=by
 show N (.v 84)+Lz.az 0 2048 (Cu.iR (D (.v 80)) (N cD) (N (.v 114)) (N x) (N (.f 1105 (.c (.v 114) (.c x .n)))))=N (.v 84)+Lz.az 0 2048 (Cu.iR (D (.v 80)) (N cD) (N (.v 114)) (N y) (N (.f 1105 (.c (.v 114) (.c y .n)))))
 rw[show N (.f 1105 (.c (.v 114) (.c x .n)))=N (.f 1105 (.c (.v 114) (.c y .n))) from congrFun (Xh h) 0,h]
theorem a8I {x y:X} (h:N x=N y):N (.o2 11 ae (.f 1105 (.c (.v 114) (.c x .n))))=N (.o2 11 ae (.f 1105 (.c (.v 114) (.c y .n)))):=by
 rw[jx,jx,show N (.f 1105 (.c (.v 114) (.c x .n)))=N (.f 1105 (.c (.v 114) (.c y .n))) from congrFun (Xh h) 0]
theorem aDl {w:X} (hp:N lN<=0) (hF:∀q,0<=D (.v 80) q/\D (.v 80) q<=255):D tY=D (.v 80):=by
 show dI (Cu.eA (D (.v 80)) (N cD) (D (.v 71)) (N lN))=_
 have e:Cu.eA (D (.v 80)) (N cD) (D (.v 71)) (N lN)=D (.v 80):=funext λq=>by unfold Cu.eA; rw[if_pos hp]
 rw[e,lR hF]
end
abbrev Ej:Nat×Int×Int:=(62,0,1048576)
abbrev alO:X:=ir 62 40
abbrev L0:X:=bQ 41 alO
abbrev aFs:X:=ir 41 40
abbrev aFt:V:=lH 4 (.v 62)
abbrev aFu:V:=lB 62
abbrev aFv:Nat×Bl:=oD 4 62 (eN 71 aFs)
abbrev Q8:X:=.f 1105 (eZ 114 L0)
abbrev aFw:X:=bQ 84 (Ag (rR 114 L0 Q8))
abbrev aFx:X:=FY 80 cD 71 Q8
abbrev aFy:X:=wa 83 80 (lE cD (.v 114) Q8)
abbrev aFz:X:=.f 1101 (eZ 71 L0)
abbrev L8(a:X):ai:=aF (qu a)
def Hf:Lp:=⟨dT [iG,jN,iH,jf,(102,0,7),(41,0,1024),(114,0,1023),(40,0,1048576),Ej] [F0,kV,.o2 1 gO L0,alO,aFs] [vW],[(0,qG),(35,aFt),(36,aFu),(37,lB 40)],5,[xt,xu,rG,Ei,aFv],.exit 1,[],5,[jm 0 [yc,yd,aF aFw,bC,bC,ag,fE],sq 1 aFx,(2,tQ aFy),(3,rH jL (aF L0) (aF (z5 L0)) (pU aFz) (L8 Q8)),aFv],alO⟩
theorem aUD:cr aa Tryz.f170.ntmps (aI 8 (loops (aC Tryz.f170))) Hf Hf.fa:=eX (t:=[(245,bG (au pPa) (bG (au pPb) (au pPc)))]) (lt:=[]) (m:=8) (f:=170) (k:=8) ⟨(cS (aw a49) (cS (aw a5e) (aw a5g))),trivial⟩ trivial (λ_=>rfl) rfl (.tf (xE 40 62) (.tf JS .lf (.tf jZ (.ge (fJ jZ) .lf) (.ge (Br jZ) (.is alN true .lf)))) (.same alC (ao aFw) (.same alE (m4 aFx) (.same IC (ck aFy) (.same (ck tZ) (ck aFz) (.same Q9 (ao (qu Q8)) .lf)))))) ⟨⟨trivial,⟨⟨λE hF=>(by have h:=hF.2; rw[iY,jx,decide_eq_true (show N ae < _ from h)]; exact aP 0),trivial⟩,⟨λE hF=>(by have h:=hF.2; rw[iY,jx,decide_eq_false (show ¬N ae < _ from by have h:_<=N ae:=h; omega)]; exact aP 0),⟨λE hF=>(by have h:=hF.2; have b:=hF.1.1.1.t mh; exact dS (λj hj=>by show D alM j=255; rw[oZ,aDl (w:=.n) h (hF.1.1.1.vb 80 _ _ rfl)]; exact od b j hj)),trivial⟩⟩⟩⟩,⟨λE hF=>aD (a9u (by have a:N (.v 62)<=N (.v 40):=hF.2; have b:=hF.1.g (x:=.o2 1 (.v 62) (.v 40)) (mt (mt (mt mh))); have b:(0:Int)<=N (.v 62) - N (.v 40):=b; show N (.v 41)=N (.v 41)+(N (.v 62) - N (.v 40)); omega)),⟨λE hF=>(aq (λq _=>congrFun (a7G (by have a:N (.v 62)<=N (.v 40):=hF.2; have b:=hF.1.g (x:=.o2 1 (.v 62) (.v 40)) (mt (mt (mt mh))); have b:(0:Int)<=N (.v 62) - N (.v 40):=b; show N (.v 41)=N (.v 41)+(N (.v 62) - N (.v 40)); omega)) q) _),⟨λE hF=>(aq (λq _=>congrFun (aRL (by have a:N (.v 62)<=N (.v 40):=hF.2; have b:=hF.1.g (x:=.o2 1 (.v 62) (.v 40)) (mt (mt (mt mh))); have b:(0:Int)<=N (.v 62) - N (.v 40):=b; show N (.v 41)=N (.v 41)+(N (.v 62) - N (.v 40)); omega)) q) _),⟨λE hF=>(aq (λq _=>congrFun (a_y (by have a:N (.v 62)<=N (.v 40):=hF.2; have b:=hF.1.g (x:=.o2 1 (.v 62) (.v 40)) (mt (mt (mt mh))); have b:(0:Int)<=N (.v 62) - N (.v 40):=b; show N (.v 41)=N (.v 41)+(N (.v 62) - N (.v 40)); omega)) q) _),⟨λE hF=>aD (a8I (by have a:N (.v 62)<=N (.v 40):=hF.2; have b:=hF.1.g (x:=.o2 1 (.v 62) (.v 40)) (mt (mt (mt mh))); have b:(0:Int)<=N (.v 62) - N (.v 40):=b; show N (.v 41)=N (.v 41)+(N (.v 62) - N (.v 40)); omega)),trivial⟩⟩⟩⟩⟩⟩ kr
theorem aUB (E:Env) (hF:ah Hf.fa.fx):0<=N Hf.μ:=by have b:=hF.g (x:=.o2 1 (.v 62) (.v 40)) (mt (mt (mt mh))); exact b
theorem aUC:ct aa Tryz.f170.ntmps (aI 8 (loops (aC Tryz.f170))) Hf:=aUD.all aUB
theorem aTQ:cA aa ((170,8),aW Hf):=dZ Tryz.func170 kr aUC
abbrev aFQ:Nat×Bl:=oD 4 62 (eN 71 (.v 41))
abbrev Rd:X:=bQ 41 (cJ 62 ae)
abbrev YS:X:=.f 1105 (eZ 114 Rd)
abbrev Re(a:X):ai:=pU (.f 1101 a)
def az6:Sp:=⟨dT [iG,jN,iH,jf,(102,0,7),(41,0,1024),(114,0,1023),(62,0,1024)] [F0,kV,bz (bz gO 41) 62] [vW],[qG,aFt],5,[xt,xu,rG,Ei,aFQ],eJ,5,[jm 0 [yc,yd,vU (Ag (rR 114 Rd YS)),bC,bC,ag,fE],sq 1 (FY 80 cD 71 YS),(2,tQ (wa 83 80 (lE cD (.v 114) YS))),(3,rH jL (aF Rd) (aF (z5 Rd)) (Re (eZ 71 Rd)) (L8 YS)),oD 4 62 (eN 71 (cJ 41 ae))]⟩
abbrev Rf:X:=kI 41 62
abbrev YT:X:=.f 1105 (eZ 114 Rf)
def pCw:Sp:={az6 with v:=eJ,l':=[jm 0 [yc,yd,vU (Ag (rR 114 Rf YT)),bC,bC,ag,fE],sq 1 (FY 80 cD 71 YT),(2,tQ (wa 83 80 (lE cD (.v 114) YT))),(3,rH jL (aF Rf) (aF (z5 Rf)) (Re (eZ 71 Rf)) (L8 YT)),aFQ]}
theorem a2F:ab aa 170 az6:=aG (t:=[]) (lt:=[((170,8),aW Hf)]) (m:=30) trivial ⟨aTQ,trivial⟩ .lf kr
theorem a2G:ab aa 170 pCw:=aL a2F [] _ _ (λ_ _ _ hq=>(gn hq).elim) kr
end
end Go.Proofs.Y
namespace Go.Proofs.Y
open Go Go.Z
section
theorem aQ2 {P:Program} {f:FuncId} {sp:Sp} (hp:ab P f sp) (eq:List (X×X)) (l2:List (Nat×Bl)) (I:Info) (hI:I.F=(⟨sp.fa.vb,sp.fa.fs,sp.fa.tr,eq++sp.fa.eq⟩:Fa).fx) (ho:∀(E:Env),ah sp.fa.fx->∀q∈eq,D q.1=D q.2) (hc:yN I.F sp.n sp.l (aK sp.n l2)=true):ab P f {sp with l:=l2}:=by
 intro E hF bs vs w ha hR
 have hF2:ah I.F:=by
  rw[hI]
  exact @ah.mk _ E _ hF.vb hF.fs hF.tr λq hq=>by
   rcases Gg.1 hq with hq | hq
   .exact ho E hF q hq
   .exact hF.eq q hq
 obtain⟨h1,h2,h2A,h3⟩:=HR.sub (I:=I) hF2 hR hc
 refine n5.imp (@hp E hF bs vs w ha h1) ?_
 rintro u w' ⟨bs1,hR1,m,hv⟩
 have hx:=ou (n:=sp.n) sp.l
 have hx2:=ou (n:=sp.n) l2
 exact⟨bs1,hR1,⟨m.os,m.tape,m.output,m.size,m.le,by show (aK sp.n l2).nx<=(aK sp.n' sp.l').nx; have:=m.nx; omega,λid h=>m.low id (by have h:id < (aK sp.n l2).nx:=h; omega),λk hk how=>m.cL k hk λh=>how (h2 k h),λk hk how=>h2 k (m.own k hk how),λk hk how=>h2A k (m.l7 k hk how),λi k a b=>(m.range i k a b).imp (λh=>h) (h2A k)⟩,hv⟩
theorem Dh {f:FuncId} {sp:Sp} (hp:ab aa f sp) (eq:List (X×X)) (l2:List (Nat×Bl)) (ho:∀(E:Env),ah sp.fa.fx->∀q∈eq,D q.1=D q.2) (hc:yN (⟨sp.fa.vb,sp.fa.fs,sp.fa.tr,eq++sp.fa.eq⟩:Fa).fx sp.n sp.l (aK sp.n l2)=true):ab aa f {sp with l:=l2}:=
 aQ2 hp eq l2 (bR (⟨sp.fa.vb,sp.fa.fs,sp.fa.tr,eq++sp.fa.eq⟩:Fa).fx) rfl ho hc
end
end Go.Proofs.Y
namespace Go.Proofs.Y
open Go Go.Z
section
open Hz
section
variable {E:Env}
structure CF (E:Env):Prop where
 d0:0<=nD E
 da:nD E < nA E
 a1:nA E<=1024
 b0:0<=nB E
 bF:∀q,0<=rF E q/\rF E q<=255
 bD:∀q,0<=rD E q/\rD E q<=255
theorem ca {fx:Fx} (hv:@Ar E fx.vb) (h:0<=N (fJ F0)) (h80:iA 80 fx.vb=some (0,255):=by rfl) (h71:iA 71 fx.vb=some (0,255):=by rfl) (h102:iA 102 fx.vb=some (0,7):=by rfl) (h41:iA 41 fx.vb=some (0,1024):=by rfl) (h114:iA 114 fx.vb=some (0,1023):=by rfl):CF E:=by
 have a:=hv 41 _ _ h41 0
 have b:=hv 114 _ _ h114 0
 have c:=hv 102 _ _ h102 0
 have h:0<=N (.v 41) - N (.v 114) - 1:=h
 have a:0<=N (.v 41)/\N (.v 41)<=1024:=a
 have b:0<=N (.v 114)/\N (.v 114)<=1023:=b
 have c:0<=N (.v 102)/\N (.v 102)<=7:=c
 exact⟨b.1,by show N (.v 114) < N (.v 41); omega,a.2,by show 0<=N (.v 102)*1024; omega,hv 80 _ _ h80,hv 71 _ _ h71⟩
theorem CF.rem (c:CF E):N fT=nA E % 8:=@uj _ E (.v 41) 8 (by have:=c.d0; have:=c.da; show 0<=nA E; omega)
abbrev xv:X:=xC fT
theorem CF.z (c:CF E):N xv=tf (decide (nA E % 8=0)):=by rw[N4,c.rem]; rfl
theorem CF.zt (c:CF E) (h:decide (N xv≠0)=true):nA E % 8=0:=by rw[c.z,gX] at h; exact of_decide_eq_true h
theorem CF.zf (c:CF E) (h:decide (N xv≠0)=false):nA E % 8≠0:=by rw[c.z,gX] at h; exact of_decide_eq_false h
theorem CF.pi (c:CF E):N lN=Cu.cn (nD E) (nA E):=by
 have h:=c.da
 have:=Cu.y8 (d:=nD E) (a:=nA E) om
 have:=c.d0; have:=c.a1
 show Lz.az 0 1024 (Cu.cn (nD E) (nA E))=_
 exact Lz.a6 om om
theorem CF.st (c:CF E):N F3=Cu.iR (rF E) (nB E) (nD E) (nA E) (Cu.cn (nD E) (nA E)):=by
 have h:=Cu.XT (F:=rF E) (B:=nB E) c.d0 (by have:=c.da; omega) c.a1 (N lN)
 show Lz.az 0 2048 (Cu.iR (rF E) (nB E) (nD E) (nA E) (N lN))=_
 rw[Lz.a6 h.1 h.2,c.pi]
abbrev YU:X:=Ag (cN 114 41 FZ)
theorem CF.st2 (c:CF E):N YU=Cu.iR (rF E) (nB E) (nD E) (nA E) (nA E):=by
 have h:=Cu.XT (F:=rF E) (B:=nB E) c.d0 (by have:=c.da; omega) c.a1 (nA E)
 show Lz.az 0 2048 (Cu.iR (rF E) (nB E) (nD E) (nA E) (nA E))=_
 rw[Lz.a6 h.1 h.2]
theorem CF.pg (c:CF E):D tY=Cu.eA (rF E) (nB E) (rD E) (Cu.cn (nD E) (nA E)):=by
 show dI (Cu.eA (rF E) (nB E) (rD E) (N lN))=_
 rw[lR (Cu.Ls c.bF c.bD _ _),c.pi]
abbrev Rg:X:=.f 1100 (xF 80 cD 71 FZ)
theorem CF.pg2 (c:CF E):D Rg=Cu.eA (rF E) (nB E) (rD E) (nA E):=by
 show dI (Cu.eA (rF E) (nB E) (rD E) (nA E))=_
 rw[lR (Cu.Ls c.bF c.bD _ _)]
theorem CF.wd (c:CF E):D tZ=Cu.mN (rD E) (nA E):=lR (Cu.alp c.bD _)
abbrev YV:X:=bQ 84 YU
theorem CF.akP (c:CF E) (h:nA E % 8=0):N adf=N YV:=by
 show N (.v 84)+N F3=N (.v 84)+N YU
 rw[c.st,c.st2,Cu.Xo (by have:=c.da; omega) h]
theorem CF.akd (c:CF E) (h:nA E % 8=0) (q:Nat):D tY q=D Rg q:=by rw[c.pg,c.pg2,Cu.Xo (by have:=c.da; omega) h]
abbrev YW:X:=wa 83 80 (kK cD 114 FZ)
theorem CF.aeS (c:CF E) (h:nA E % 8=0) (q:Nat):D NQ q=D YW q:=by
 show Lz.az 0 1001 (Cu.lU (rF E) (nB E) (nD E) (N lN) (D (.v 83)) q)=Lz.az 0 1001 (Cu.lU (rF E) (nB E) (nD E) (nA E) (D (.v 83)) q)
 rw[c.pi,Cu.Xo (by have:=c.da; omega) h]
theorem CF.aks (c:CF E) (h:nA E % 8=0):N jZ=N aj:=by
 have:=c.d0; have:=c.da
 rw[jx,c.pi,Cu.Xo om h,decide_eq_true (show N ae < nA E by show (0:Int) < nA E; omega)]
 rfl
theorem CF.fr (c:CF E):N rE=nA E - nA E % 8:=by
 show N (.v 41)+N fT*(-1)=_
 rw[c.rem]
 show nA E+nA E % 8*(-1)=_
 omega
theorem CF.sec (c:CF E) (h:nA E % 8≠0):N xr=0:=by
 have f:=c.fr
 have a:=c.a1
 have:=c.d0; have:=c.da
 have e:N alQ=0:=by
  rw[@gQ _ E _ _ (by rw[f]; omega),f]
  omega
 rw[@asc _ E _ (by rw[e]; decide) (by rw[e]; decide),e]
theorem CF.Xy (c:CF E) (h:decide (N jZ≠0)=true):0 < Cu.cn (nD E) (nA E):=by
 rw[jx,gX,c.pi] at h
 exact of_decide_eq_true h
theorem CF.bare (h:decide (N arI≠0)=true):Cu.bare (rF E) (nB E):=λq hq=>od h q hq
variable (c:CF E) (h:nA E % 8≠0) (hb:0 < Cu.cn (nD E) (nA E)\/Cu.bare (rF E) (nB E))
include c h hb
theorem CF.QI:N YH=N YV:=by
 show N (.v 84)+(N F3+1)=N (.v 84)+N YU
 rw[c.st,c.st2,Cu.a9w c.d0 c.da h hb]
theorem CF.OI (q:Nat):D NQ q=D YW q:=by
 show Lz.az 0 1001 (Cu.lU (rF E) (nB E) (nD E) (N lN) (D (.v 83)) q)=Lz.az 0 1001 (Cu.lU (rF E) (nB E) (nD E) (nA E) (D (.v 83)) q)
 unfold Cu.lU
 have:=c.d0; have:=c.da
 rw[c.pi,Cu.at2 om c.d0 om hb]
abbrev al5:X:=.f 2 (dG YJ (.o3 0 tZ fT dV) FA)
theorem CF.Ow:decide (N al5≠0)=true:=XW λj hj=>by
 have hj:(j:Int) < 8:=hj
 have e:=c.rem
 have d0:=c.d0; have da:=c.da; have a1:=c.a1; have b0:=c.b0
 have e2:N alR=nB E+(nA E - nA E % 8):=by
  show N (.v 102)*1024+(N fT*(-1)+N (.v 41))=_
  rw[e]
  show nB E+(nA E % 8*(-1)+nA E)=_
  omega
 have o:D YJ j=Cu.eA (rF E) (nB E) (rD E) (Cu.cn (nD E) (nA E)) (j+(nB E+(nA E - nA E % 8)).toNat):=by
  rw[oZ,c.pg,e2]
 have w:D (.o3 0 tZ fT dV) j=if (j:Int) < nA E % 8 then rD E (j+(nA E - nA E % 8).toNat) else 255:=by
  rw[cE,e]
  by_cases k:(j:Int) < nA E % 8
  .rw[if_pos k,if_pos k,c.wd,Cu.Yw om k]
   congr 1
   omega
  .rw[if_neg k,if_neg k]
   rfl
 have cb:∀b:Int,0<=b->b<=255->b.toNat &&& (255:Int).toNat=b.toNat:=λb h0 h1=>by
  rw[show (255:Int).toNat=2 ^ 8 - 1 from rfl,Uk]
  exact dE om
 unfold fA
 rw[o,w]
 rcases Cu.a7E d0 om a1 b0 h hb (D:=rD E) (j:=j) om with g | ⟨g1,g2⟩
 .rw[g]
  have b:=c.bD (j+(nA E - nA E % 8).toNat)
  by_cases k:(j:Int) < nA E % 8
  .rw[if_pos k,cb _ b.1 b.2,J8]; rfl
  .rw[if_neg k,cb 255 dc dc,J8]; rfl
 .rw[if_pos g1,g2,Nat.and_self,J8]; rfl
abbrev YX:X:=bZ tY Bs tZ fT (.o3 0 dV YK (.o2 15 tY YL))
theorem CF.Qn (q:Nat):D YX q=D Rg q:=by
 have e:=c.rem
 have d0:=c.d0; have da:=c.da; have a1:=c.a1; have b0:=c.b0
 rw[c.pg2,Cu.a7I d0 om a1 b0 h hb q]
 have e1:N Bs=nB E+(nA E - nA E % 8):=by
  rw[bB,c.fr]; rfl
 have e2:N YK=8 - nA E % 8:=by
  show N fT*(-1)+8=_
  rw[e]
  omega
 have e3:N YL=nB E+(nA E - nA E % 8)+8:=by
  show N (.v 102)*1024+(N fT*(-1)+(N (.v 41)+8))=_
  rw[e]
  show nB E+(nA E % 8*(-1)+(nA E+8))=_
  omega
 rw[cE,e1]
 by_cases k1:(q:Int) < nB E+(nA E - nA E % 8)
 .rw[if_pos k1,if_pos k1,c.pg]
 rw[if_neg k1,if_neg k1,cE,e]
 by_cases k2:((q - (nB E+(nA E - nA E % 8)).toNat:Nat):Int) < nA E % 8
 .rw[if_pos k2,if_pos om,if_pos om,c.wd,Cu.Yw om k2]
  congr 1
  omega
 rw[if_neg k2,cE,e2]
 by_cases k3:((q - (nB E+(nA E - nA E % 8)).toNat - (nA E % 8).toNat:Nat):Int) < 8 - nA E % 8
 .rw[if_pos k3,if_pos om,if_neg om]
  rfl
 rw[if_neg k3,if_neg om,oZ,e3,c.pg]
 congr 1
 omega
end
abbrev YY:List X:=[fJ F0,kV]
def aAo:Sp:=⟨dT ID YY [(xv,true),vW],[qG],4,[Ei,xt,xu,rG],eJ,4,[xt,xu,rG,Ei]⟩
abbrev al6:List (Nat×Bl):=[jm 0 [yc,yd,aF YV,bC,bC,ag,fE],sq 1 Rg,(2,tQ YW),alK]
def aAn:Sp:={aAo with v:=eJ,l':=al6}
theorem a3g:ab aa 171 aAo:=aG (t:=[]) (lt:=[]) (m:=30) trivial trivial .lf kr
abbrev al7:X:=ao YV
abbrev al8:X:=m4 Rg
abbrev al9:X:=ck YW
theorem a3h:ab aa 171 aAn:=aL a3g [(alC,al7),(alE,al8),(IC,al9),(Q9,zV)] _ _ (al (λE hF=>aD ((ca hF.vb (hF.g mh)).akP ((ca hF.vb (hF.g mh)).zt (hF.t mh))))<|al (λE hF=>(aq (λq _=>(ca hF.vb (hF.g mh)).akd ((ca hF.vb (hF.g mh)).zt (hF.t mh)) q) _))<|al (λE hF=>(aq (λq _=>(ca hF.vb (hF.g mh)).aeS ((ca hF.vb (hF.g mh)).zt (hF.t mh)) q) _))<|al (λE hF=>aD ((ca hF.vb (hF.g mh)).aks ((ca hF.vb (hF.g mh)).zt (hF.t mh))))<|aN) kr
theorem aDW {E:Env} (h:decide (N jZ≠0)=true):N ae < N lN:=by rw[jx,gX] at h; exact of_decide_eq_true h
theorem aDV {E:Env} (h:decide (N jZ≠0)=false):N lN<=0:=by rw[jx,gX] at h; have h:=of_decide_eq_false h; have h:¬(0:Int) < N lN:=h; omega
abbrev aFR:Nat×Bl:=sq 1 YX
def aAp:Sp:=⟨dT ID YY [(jZ,true),(xv,false),vW],[qG],4,[Ei,xt,xu,rG],eJ,4,[alL,aFR,rG,Ei]⟩
def a3i:Sp:={aAp with v:=eJ,l':=al6}
theorem a3j:ab aa 171 aAp:=dj (t:=ahm) (lt:=[]) (m:=30) asp trivial (.ge rE (.ge YA (.ge xr (.ge YB (.is YC true (.ge (fJ fT) (.ge (fJ jZ) (.is YD true (.is al5 true .lf))))))))) ⟨λE hF=>(by have e:=(ca hF.vb (hF.g mh)).fr; have:=(ca hF.vb (hF.g mh)).d0; have:=(ca hF.vb (hF.g mh)).da; rw[e]; omega),⟨λE hF=>(by have e:=(ca hF.vb (hF.g mh)).fr; have z:=((ca hF.vb (hF.g mh)).zf (hF.t (mt mh))); have a:=(ca hF.vb (hF.g mh)).a1; show (0:Int)<=1016 - N rE; rw[e]; omega),⟨λE hF=>(by rw[(ca hF.vb (hF.g mh)).sec ((ca hF.vb (hF.g mh)).zf (hF.t (mt mh)))]; exact aP 0),⟨λE hF=>(by show (0:Int)<=0 - N xr; rw[(ca hF.vb (hF.g mh)).sec ((ca hF.vb (hF.g mh)).zf (hF.t (mt mh)))]; exact aP 0),⟨λE hF=>(by have e:=(ca hF.vb (hF.g mh)).fr; have:=(ca hF.vb (hF.g mh)).d0; have:=(ca hF.vb (hF.g mh)).da; exact ri (by rw[e]; omega) (by rw[e]; omega)),⟨λE hF=>(by have:=(ca hF.vb (hF.g mh)).d0; have:=(ca hF.vb (hF.g mh)).da; have z:=((ca hF.vb (hF.g mh)).zf (hF.t (mt mh))); show (0:Int)<=N fT - 1; rw[(ca hF.vb (hF.g mh)).rem]; omega),⟨λE hF=>(by show (0:Int)<=N jZ - 1; rw[(show N jZ=1 from by rw[jx,decide_eq_true (aDW (hF.t mh))]; rfl)]; exact aP 0),⟨λE hF=>(by have e:=(ca hF.vb (hF.g mh)).fr; have:=(ca hF.vb (hF.g mh)).d0; have:=(ca hF.vb (hF.g mh)).da; have b:=(ca hF.vb (hF.g mh)).b0; have x:N Bs=nB E+(nA E - nA E % 8):=(by rw[bB,e]; rfl); exact ri (by rw[x]; omega) (by rw[x]; show (N (.v 102)*1024+(nA E - nA E % 8)) % 8=0; omega)),⟨λE hF=>CF.Ow (ca hF.vb (hF.g mh)) ((ca hF.vb (hF.g mh)).zf (hF.t (mt mh))) (Or.inl ((ca hF.vb (hF.g mh)).Xy (hF.t mh))),df rfl⟩⟩⟩⟩⟩⟩⟩⟩⟩ kr
theorem a3k:ab aa 171 a3i:=aL a3j [(YE,al7),((m4 YX),al8),(IC,al9),(Q9,zV)] _ _ (al (λE hF=>aD (CF.QI (ca hF.vb (hF.g mh)) ((ca hF.vb (hF.g mh)).zf (hF.t (mt mh))) (Or.inl ((ca hF.vb (hF.g mh)).Xy (hF.t mh)))))<|al (λE hF=>(aq (λq _=>CF.Qn (ca hF.vb (hF.g mh)) ((ca hF.vb (hF.g mh)).zf (hF.t (mt mh))) (Or.inl ((ca hF.vb (hF.g mh)).Xy (hF.t mh))) q) _))<|al (λE hF=>(aq (λq _=>CF.OI (ca hF.vb (hF.g mh)) ((ca hF.vb (hF.g mh)).zf (hF.t (mt mh))) (Or.inl ((ca hF.vb (hF.g mh)).Xy (hF.t mh))) q) _))<|al (λE hF=>aD ((show N jZ=1 from by rw[jx,decide_eq_true (aDW (hF.t mh))]; rfl)))<|aN) kr
def aAr:Sp:=⟨dT ID YY [(jZ,false),(xv,false),vW],[qG],4,[aFB,xt,xu,rG],eJ,4,[alL,aFR,rG,alK]⟩
def aAq:Sp:={aAr with v:=eJ,l':=al6}
theorem a3m:ab aa 171 aAr:=dj (t:=PJ) (lt:=[]) (m:=30) Ut trivial (.ge rE (.ge YA (.ge xr (.ge YB (.is YC true (.ge (fJ fT) (.is alN true (.is YD true (.is al5 true .lf))))))))) ⟨λE hF=>(by have e:=(ca hF.vb (hF.g mh)).fr; have:=(ca hF.vb (hF.g mh)).d0; have:=(ca hF.vb (hF.g mh)).da; rw[e]; omega),⟨λE hF=>(by have e:=(ca hF.vb (hF.g mh)).fr; have z:=((ca hF.vb (hF.g mh)).zf (hF.t (mt mh))); have a:=(ca hF.vb (hF.g mh)).a1; show (0:Int)<=1016 - N rE; rw[e]; omega),⟨λE hF=>(by rw[(ca hF.vb (hF.g mh)).sec ((ca hF.vb (hF.g mh)).zf (hF.t (mt mh)))]; exact aP 0),⟨λE hF=>(by show (0:Int)<=0 - N xr; rw[(ca hF.vb (hF.g mh)).sec ((ca hF.vb (hF.g mh)).zf (hF.t (mt mh)))]; exact aP 0),⟨λE hF=>(by have e:=(ca hF.vb (hF.g mh)).fr; have:=(ca hF.vb (hF.g mh)).d0; have:=(ca hF.vb (hF.g mh)).da; exact ri (by rw[e]; omega) (by rw[e]; omega)),⟨λE hF=>(by have:=(ca hF.vb (hF.g mh)).d0; have:=(ca hF.vb (hF.g mh)).da; have z:=((ca hF.vb (hF.g mh)).zf (hF.t (mt mh))); show (0:Int)<=N fT - 1; rw[(ca hF.vb (hF.g mh)).rem]; omega),⟨λE hF=>(dS (λj hj=>by show D alM j=255; rw[oZ,aDl (w:=.n) (aDV (hF.t mh)) (hF.vb 80 _ _ rfl)]; exact od (hF.t (mt (mt mh))) j hj)),⟨λE hF=>(by have e:=(ca hF.vb (hF.g mh)).fr; have:=(ca hF.vb (hF.g mh)).d0; have:=(ca hF.vb (hF.g mh)).da; have b:=(ca hF.vb (hF.g mh)).b0; have x:N Bs=nB E+(nA E - nA E % 8):=(by rw[bB,e]; rfl); exact ri (by rw[x]; omega) (by rw[x]; show (N (.v 102)*1024+(nA E - nA E % 8)) % 8=0; omega)),⟨λE hF=>CF.Ow (ca hF.vb (hF.g mh)) ((ca hF.vb (hF.g mh)).zf (hF.t (mt mh))) (Or.inr (CF.bare (hF.t (mt (mt mh))))),df rfl⟩⟩⟩⟩⟩⟩⟩⟩⟩ kr
theorem a3n:ab aa 171 aAq:=aL a3m [(YE,al7),((m4 YX),al8),(IC,al9)] _ _ (al (λE hF=>aD (CF.QI (ca hF.vb (hF.g mh)) ((ca hF.vb (hF.g mh)).zf (hF.t (mt mh))) (Or.inr (CF.bare (hF.t (mt (mt mh)))))))<|al (λE hF=>(aq (λq _=>CF.Qn (ca hF.vb (hF.g mh)) ((ca hF.vb (hF.g mh)).zf (hF.t (mt mh))) (Or.inr (CF.bare (hF.t (mt (mt mh))))) q) _))<|al (λE hF=>(aq (λq _=>CF.OI (ca hF.vb (hF.g mh)) ((ca hF.vb (hF.g mh)).zf (hF.t (mt mh))) (Or.inr (CF.bare (hF.t (mt (mt mh))))) q) _))<|aN) kr
def a3l:Sp:={aAq with l:=[Ei,xt,xu,rG]}
theorem a3o:ab aa 171 a3l:=Dh a3n [(Q9,FM)] _ (λE hF q hq=>by
 simp only[ep,gn,or_false] at hq
 rcases hq with rfl
 exact aD (show N jZ=0 from by rw[jx,decide_eq_false (by have h:=aDV (hF.t mh); show ¬(0:Int) < _; omega)]; rfl)) kr
def A5:Sp:={aAn with fa:=dT ID YY [vW]}
theorem aAs:ab aa 171 A5:=ab.or (fa1:=A5.fa.is xv true) (fa2:=A5.fa.is xv false) a3h (ab.or (sp:={A5 with fa:=A5.fa.is xv false}) (fa1:=(A5.fa.is xv false).is jZ true) (fa2:=(A5.fa.is xv false).is jZ false) a3k a3o λE hF=>hF.tf _) λE hF=>hF.tf _
end
end Go.Proofs.Y
namespace Go.Proofs.Y
open Go Go.Z
section
open Hz
abbrev L9:X:=.f 1106 I6
abbrev Rh:X:=eN 3 (ir 4 2)
theorem atm {E:Env} (h1:∀q,0<=D (.v 1) q/\D (.v 1) q<=255) (h3:∀q,0<=D (.v 3) q/\D (.v 3) q<=255) (h2:0<=N (.v 2)) (h:N (.v 2)<=N (.v 4)) (n:Int):fM (D (.o3 0 L9 (.v 4) Rh)) n=fM (D L9) n:=afm λq _=>by
 rw[cE]
 by_cases c:(q:Int) < N (.v 4)
 .rw[if_pos c]
 .rw[if_neg c]
  have e:D L9 q=Lz.az 0 255 (if (q:Int) < N (.v 2) then D (.v 1) q else D (.v 3) (q - (N (.v 2)).toNat)):=rfl
  rw[e,if_neg om,Lz.a6 (h3 _).1 (h3 _).2]
  show D (.v 3) (q - (N (.v 4)).toNat+(N (.v 4) - N (.v 2)).toNat)=_
  congr 1
  omega
theorem aFl {E:Env} {r d n k:X} (hr:∀q,0<=D r q/\D r q<=255) (h2:0<=N n) (h5:0<=N k):Hz.fh (D (.f 1009 (.c r (.c n .n)))) (N n) (D (.f 1010 (.c r (.c n .n)))) (D d) (N k)=Hz.fM (D (.o3 0 r n d)) (N (.o2 0 n k)):=by
 have b:=auS (N n) hr
 rw[yI,yJ,b.1,b.2,Hz.auR h2 h5,bB]
 congr 1
theorem at6 {E:Env} (a b c:X) (q:Nat):0<=D (.f 1106 (.c a (.c b (.c c .n)))) q/\D (.f 1106 (.c a (.c b (.c c .n)))) q<=255:=Lz.cH (lo:=0) (hi:=255) dc _
abbrev YZ:X:=di L9 (.v 4)
abbrev ama:Nat×Bl:=oD 1 5 Rh
abbrev amb:X:=Nj Rh
abbrev Y0:X:=pD (.f 1009 YZ) 4 (.f 1010 YZ) amb Jr
def aC5:Sp:=⟨jv [Cd,(2,0,4096),lL,r6,vN] (ir 4 2),[bS,oI 1 (.v 5) .a],2,[(0,FB YZ (fQ 4) YZ),ama],iD,2,[(0,Np Y0 (aF TB) Y0),ama]⟩
abbrev aFC:X:=.f 1009 (di L9 TB)
abbrev aFD:X:=.f 1010 (di L9 TB)
def aC4:Sp:={aC5 with v:=iD,l':=[(0,⟨196,[de,kp aFC,aF TB,.a [.u8] ef aFD],false,0⟩),ama]}
theorem a7b:ab aa 64 aC5:=aG (t:=[(108,av A8),(109,av Lm)]) (lt:=[]) (m:=30) ⟨H2,WA,trivial⟩ trivial .lf kr
theorem a7c:ab aa 64 aC4:=aL a7b [((Cb Y0),(ck aFC)),((Cc Y0),(bk aFD ef))] _ _ (al (λE hF=>(aq (λq _=>by rw[fB,show D amb=D Rh from rfl,aFl (at6 _ _ _) (hF.b 4 rfl).1 (hF.b 5 rfl).1,atm (hF.vb 1 _ _ rfl) (hF.vb 3 _ _ rfl) (hF.b 2 rfl).1 (by have h:=hF.g (x:=.o2 1 (.v 4) (.v 2)) mh; have h:(0:Int)<=N (.v 4) - N (.v 2):=h; omega),<- yI]) _))<|al (λE hF=>(aq (λq _=>by rw[fC,show D amb=D Rh from rfl,aFl (at6 _ _ _) (hF.b 4 rfl).1 (hF.b 5 rfl).1,atm (hF.vb 1 _ _ rfl) (hF.vb 3 _ _ rfl) (hF.b 2 rfl).1 (by have h:=hF.g (x:=.o2 1 (.v 4) (.v 2)) mh; have h:(0:Int)<=N (.v 4) - N (.v 2):=h; omega),<- yJ]) _))<|aN) kr
end
end Go.Proofs.Y
namespace Go.Proofs.Y
open Go Go.Z
section
open Hz
section
variable {E:Env}
theorem Xi {x y:X} (h:N x=N y):D (.f 1105 (.c ae (.c x .n)))=D (.f 1105 (.c ae (.c y .n))):=by
 show (λ_=>Lz.az 0 1024 (Cu.cn (N ae) (N x)))=(λ_=>Lz.az 0 1024 (Cu.cn (N ae) (N y)))
 rw[h]
theorem a7H {x y:X} (h:N x=N y):D (.f 1100 (.c (.v 80) (.c cD (.c (.v 70) (.c (.f 1105 (.c ae (.c x .n))) .n)))))=D (.f 1100 (.c (.v 80) (.c cD (.c (.v 70) (.c (.f 1105 (.c ae (.c y .n))) .n))))):=congrArg (λr=>ald [D (.v 80),D cD,D (.v 70),r]) (Xi h)
theorem aRM {x y:X} (h:N x=N y):D (.f 1102 (.c (.v 83) (.c (.v 80) (.c cD (.c ae (.c (.f 1105 (.c ae (.c x .n))) .n))))))=D (.f 1102 (.c (.v 83) (.c (.v 80) (.c cD (.c ae (.c (.f 1105 (.c ae (.c y .n))) .n)))))):=congrArg (λr=>ale [D (.v 83),D (.v 80),D cD,D ae,r]) (Xi h)
theorem a_z {x y:X} (h:N x=N y):D (.f 1101 (.c (.v 70) (.c x .n)))=D (.f 1101 (.c (.v 70) (.c y .n))):=by
 show dI (Cu.mN (D (.v 70)) (N x))=dI (Cu.mN (D (.v 70)) (N y))
 rw[h]
theorem a9v {x y:X} (h:N x=N y):N (.o2 0 (.v 84) (.f 1103 (.c (.v 80) (.c cD (.c ae (.c x (.c (.f 1105 (.c ae (.c x .n))) .n)))))))=N (.o2 0 (.v 84) (.f 1103 (.c (.v 80) (.c cD (.c ae (.c y (.c (.f 1105 (.c ae (.c y .n))) .n))))))):=by
 show N (.v 84)+Lz.az 0 2048 (Cu.iR (D (.v 80)) (N cD) (N ae) (N x) (N (.f 1105 (.c ae (.c x .n)))))=N (.v 84)+Lz.az 0 2048 (Cu.iR (D (.v 80)) (N cD) (N ae) (N y) (N (.f 1105 (.c ae (.c y .n)))))
 rw[show N (.f 1105 (.c ae (.c x .n)))=N (.f 1105 (.c ae (.c y .n))) from congrFun (Xi h) 0,h]
theorem a8J {x y:X} (h:N x=N y):N (.o2 11 ae (.f 1105 (.c ae (.c x .n))))=N (.o2 11 ae (.f 1105 (.c ae (.c y .n)))):=by
 rw[jx,jx,show N (.f 1105 (.c ae (.c x .n)))=N (.f 1105 (.c ae (.c y .n))) from congrFun (Xi h) 0]
theorem Q0:N (bQ 41 Ss)=N (.v 50):=by
 show N (.v 41)+(N (.v 50)+N (.v 41)*(-1))=N (.v 50)
 omega
end
theorem auC {E:Env} {fa:Fa} (hF:ah fa.fx) (h1:iA 70 fa.vb=some (0,255)) (h2:iA 50 fa.vb=some (0,1024)) (h3:iA 41 fa.vb=some (0,1024)) (h4:iA 55 fa.vb=some (1,2)) (h5:iA 62 fa.vb=some (0,8192)) (h6:iA 61 fa.vb=some (0,1048576)) (h:(KL,true)∈fa.tr):GF E:=
 ⟨jI (of_decide_eq_true (hF.t h)),hF.vb 70 0 255 h1,by have:=(hF.b 50 h2).2; omega,(hF.b 41 h3).1,by have:=hF.b 55 h4; omega,(hF.b 62 h5).2,(hF.b 61 h6).1⟩
abbrev zj:Nat×Int×Int:=(139,0,255)
abbrev j5:ai:=lG 12
abbrev al1:ai:=lG 15
abbrev zk:ai:=fQ 140
abbrev aFE:Nat×Bl:=Jn 12 [lG 19,fK,al1,zk,qD,vM,oQ,oR,oS,oT,oN,lI,oP,lJ,ko,lK,a8,mV,fc,kS,lG 13,lG 14]
abbrev Rb:X:=.f 1106 (rR 139 oX (.v 70))
abbrev aFF:X:=di Rb (.o2 0 oX (.v 41))
abbrev aFG:ai:=dM 16 mW
abbrev aFH:ai:=vv 17 aH Tn
abbrev YQ:X:=.f 1105 (.c ae FZ)
abbrev aFI:X:=di Rb (.o2 0 oX (.v 50))
abbrev aFJ:Bl:=FB aFI (aF (.o2 0 oX (.v 50))) aFI
abbrev Rc:X:=.f 1105 (.c ae Fc)
abbrev al2:X:=bQ 84 (Ag (lE ae (.v 50) Rc))
abbrev aFK:X:=FY 80 cD 70 Rc
abbrev aFL:Bl:=oC mW aFK
abbrev aFM:X:=wa 83 80 (lE cD ae Rc)
abbrev aFN:Bl:=tQ aFM
abbrev YR:ai:=aF (z5 (.v 50))
abbrev aFO:ai:=Re abr
abbrev aFP:ai:=L8 Rc
def HP:Lp:=⟨dT [vt,BW,(3,0,4),zJ,zK,zL,zM,zN,I5,EO,BV,(28,1,255),(29,0,4),Jc,(41,0,1024),(50,0,1024),(51,0,257),(52,0,4096),Jf,(54,0,257),(55,1,2),(60,0,255),zR,(62,0,8192),(63,0,1048576),(70,0,255),iG,jN,iH,(102,0,7),Fw,zj] [MU,kh,kV] [(KL,true),vW],[(1,MW),(2,.c (.fn 169 [(11,0)])),(7,mS),(8,eJ)],20,[Jb,MX,MY,dU,ga,eF,gb,eG,gg,EZ,Nk,(11,⟨112,[j5],false,0⟩),aFE,(13,FB aFF (aF (.o2 0 oX (.v 41))) aFF),jm 15 [aFG,aFH,vU (Ag (lE ae (.v 41) YQ)),bC,bC,ag,fE],sq 16 (FY 80 cD 70 YQ),(17,tQ (wa 83 80 (lE cD ae YQ))),(14,rH al1 qA YN (Re (cy 70 FZ)) (L8 YQ))],.ret,[(6,eJ)],20,[Nk,(11,⟨112,[j5],false,0⟩),aFE,(13,aFJ),jm 15 [aFG,aFH,aF al2,bC,bC,ag,fE],(16,aFL),(17,aFN),(14,rH al1 a8 YR aFO aFP)],fR⟩
def aZw:X:=aL1
def agw:X:=bQ 41 Ss
def ayh:X:=.f 1105 (di ae agw)
abbrev al3:X:=bj ayh
def aZA:X:=ao (bQ 84 (Ag (dG ae agw al3)))
def aZB:X:=ao al2
def aZC:X:=m4 (.f 1100 (xF 80 cD 70 al3))
def aZD:X:=m4 aFK
def aZE:X:=ck (wa 83 80 (dG cD ae al3))
def aZF:X:=ck aFM
def aZG:X:=ck (.f 1101 (eZ 70 agw))
def aZx:X:=ck (.f 1101 abr)
def aZy:X:=ao (qu ayh)
def aZz:X:=ao (qu Rc)
theorem aZH:cr aa Tryz.f167.ntmps (aI 2 (loops (aC Tryz.f167))) HP HP.fa:=eX (t:=[(244,bG (au WV) (au WU)),(64,au aC4),(170,au pCw)]) (lt:=[]) (m:=8) (f:=167) (k:=2) ⟨(cS (aw aAh) (aw aAf)),(aw a7c),(aw a2G),trivial⟩ trivial (λ_=>rfl) rfl (.tf (MB oJ 50) (.ge (cJ 62 pI) (.is aZw true .lf)) (.same aZA aZB (.same aZC aZD (.same aZE aZF (.same aZG aZx (.same aZy aZz .lf)))))) ⟨⟨λE hF=>(by
 have h:=(yM (auC hF.1 rfl rfl rfl rfl rfl rfl mh) hF.2).used
 show 0<=N (.v 62) - N pI
 omega),⟨λE hF=>dS (yM (auC hF.1 rfl rfl rfl rfl rfl rfl mh) hF.2).next,trivial⟩⟩,⟨λE hF=>aD (a9v Q0),⟨λE hF=>(aq (λq _=>congrFun (a7H Q0) q) _),⟨λE hF=>(aq (λq _=>congrFun (aRM Q0) q) _),⟨λE hF=>(aq (λq _=>congrFun (a_z Q0) q) _),⟨λE hF=>aD (a8J Q0),trivial⟩⟩⟩⟩⟩⟩ kr
theorem aZu (E:Env) (hF:ah HP.fa.fx):0<=N HP.μ:=by
 have h:=hF.g (x:=.o2 1 fR aj) (mt mh)
 have e:(0:Int)<=(N (.v 50) - N (.v 41)) - 1:=h
 show 0<=N (.v 50) - N (.v 41)
 omega
theorem aZv:ct aa Tryz.f167.ntmps (aI 2 (loops (aC Tryz.f167))) HP:=aZH.all aZu
theorem aUk:cA aa ((167,2),aW HP):=dZ Tryz.func167 kr aZv
end
end Go.Proofs.Y
namespace Go.Proofs.Y
open Go Go.Z
section
open Hz
abbrev lu:Nat×Int×Int:=(50,1,1024)
abbrev al4:Nat×Bl:=(1,⟨112,[fu],false,0⟩)
abbrev YO:ai:=lG 9
abbrev alV:Nat×Bl:=Jn 2 [YO,fK,xN,zk,qD,vM,oQ,oR,oS,oT,oN,lI,oP,lJ,ko,lK,a8,mV,fc,kS,nR,bg]
abbrev Ra:X:=ao oX
abbrev alW:X:=.f 1009 (di Rb Ra)
abbrev alX:X:=.f 1010 (di Rb Ra)
abbrev alY:ai:=dM 6 mW
abbrev alZ:ai:=vv 7 aH Tn
abbrev zh:X:=.f 1105 xQ
abbrev YP:X:=Ag (lE ae ae zh)
abbrev al0:X:=FY 80 cD 70 zh
abbrev ami:X:=wa 83 80 (lE cD ae zh)
abbrev Y7:X:=.f 1101 (cy 70 qz)
def aCO:Sp:=⟨dT [lu,(70,0,255),(90,0,8192),iG,jN,iH,(102,0,7),Fw,zj] [cJ 90 qC,bz qC 90,kV] [vW],[lF,aL2,.c (.fn 169 [(1,0)])],10,[abz,al4,alV,(3,⟨196,[de,kp alW,aF Ra,.a [.u8] ef alX],false,0⟩),jm 5 [alY,alZ,vU YP,bC,bC,ag,fE],sq 6 al0,(7,tQ ami),(4,rH xN ag (aF (z5 ae)) (pU Y7) (L8 zh))],eJ,10,[abz,al4,alV,(3,aFJ),(4,rH xN a8 YR aFO aFP),jm 5 [alY,alZ,aF al2,bC,bC,ag,fE],(6,aFL),(7,aFN)]⟩
theorem a6T:ab aa 167 aCO:=dj (t:=[(243,au Xb)]) (lt:=[((167,2),aW HP)]) (m:=30) ⟨(aw aC6),trivial⟩ ⟨aUk,trivial⟩ (.is aLT true .lf) ⟨λE hF=>(dS (by
 have h1:=hF.g (x:=.o2 1 (.v 90) qC) mh
 have h2:=hF.g (x:=.o2 1 qC (.v 90)) (mt mh)
 have e1:(0:Int)<=N (.v 90) - N qC:=h1
 have e2:(0:Int)<=N qC - N (.v 90):=h2
 have k:=Lz.QH (D (.v 70)) (N (.v 50))
 have e3:N qC=Lz.dk (D (.v 70)) (N (.v 50)):=rfl
 have b:=hF.b 50 rfl
 exact Lz.auF (r:=D (.v 70)) (n:=N (.v 50)) om om (m:=N (.v 90)) om (λq hq=>by
  show Lz.be (Lz.jY (D (.v 70)) (N (.v 50))) (Lz.dk (D (.v 70)) (N (.v 50))) (q+(0:Int).toNat)=_
  rw[show q+(0:Int).toNat=q from rfl,show (((Lz.dk (D (.v 70)) (N (.v 50))).toNat:Nat):Int)=Lz.dk (D (.v 70)) (N (.v 50)) by omega]) _ _ _ _ rfl rfl rfl rfl (λ_=>⟨aP 0,show (0:Int)<=255 by decide⟩) (λ_=>⟨aP 0,show (0:Int)<=255 by decide⟩))),df rfl⟩ kr
theorem Xg {E:Env}:N zh=0:=by
 show Lz.az 0 1024 (Cu.cn 0 0)=0
 decide
theorem at1 (F:R) (B:Int):Cu.ez F B 0 0=0:=by
 unfold Cu.ez
 exact if_neg λh=>absurd h.1 dc
theorem a7C {E:Env} (hF:∀q,0<=D (.v 80) q/\D (.v 80) q<=255):D al0=D (.v 80):=by
 show dI (Cu.eA (D (.v 80)) (N cD) (D (.v 70)) (N zh))=_
 have e:Cu.eA (D (.v 80)) (N cD) (D (.v 70)) (N zh)=D (.v 80):=funext λq=>by unfold Cu.eA; rw[if_pos (by rw[Xg]; decide)]
 rw[e,lR hF]
theorem a9t {E:Env}:N YP=0:=by
 show Lz.az 0 2048 (Cu.iR (D (.v 80)) (N cD) 0 0 (N zh))=0
 rw[Xg]
 unfold Cu.iR
 rw[at1]
 decide
theorem a_w {E:Env} (q:Nat):D Y7 q=0:=by
 show dI (Cu.mN (D (.v 70)) 0) q=0
 have e:Cu.mN (D (.v 70)) 0=λ_=>0:=funext λq=>by
  unfold Cu.mN
  rw[if_neg om,if_neg om]
 rw[e]
 exact (aFo q).symm
theorem aRK {E:Env} (hB:0<=N cD) (hF:∀q,0<=D (.v 83) q/\D (.v 83) q<=1000) (q:Nat):D ami q=D (.v 83) q:=by
 show Lz.az 0 1001 (Cu.lU (D (.v 80)) (N cD) 0 (N zh) (D (.v 83)) q)=_
 rw[Xg]
 have h:=hF q
 have e:Cu.lU (D (.v 80)) (N cD) 0 0 (D (.v 83)) q=D (.v 83) q:=by
  unfold Cu.lU Lz.dh
  rw[at1]
  split
  .rw[show (N cD / 1024).toNat=q by omega,Int.add_zero]
  .rfl
 rw[e,Lz.a6 h.1 om]
theorem atl {E:Env} (h:∀q,0<=D (.v 139) q/\D (.v 139) q<=255):fM (D Rb) 152=fM (D (.v 139)) 152:=afm λq hq=>by
 show Lz.az 0 255 (if (q:Int) < 152 then D (.v 139) q else _)=D (.v 139) q
 rw[if_pos hq]
 exact Lz.a6 (h _).1 (h _).2
abbrev zm:X:=bj oX
abbrev amj:X:=.f 1009 (cy 139 zm)
theorem pq {E:Env} (h:∀q,0<=D (.v 139) q/\D (.v 139) q<=255):D amj=D alW:=by
 rw[yI,yI,show N Ra=152 from rfl,show N oX=152 from rfl,atl h]
abbrev amk:X:=.f 1010 (cy 139 zm)
theorem Bk {E:Env} (h:∀q,0<=D (.v 139) q/\D (.v 139) q<=255):D amk=D alX:=by
 rw[yJ,yJ,show N Ra=152 from rfl,show N oX=152 from rfl,atl h]
abbrev Y8:ai:=aF oX
abbrev aFW:Bl:=⟨196,[de,kp amj,Y8,.a [.u8] ef amk],false,0⟩
def aj1:Sp:={aCO with l:=[abz,al4,alV,(3,aFW),jm 5 [alY,alZ,arh,bC,bC,ag,fE],(6,FQ),(7,ari),(4,rH xN ag ag CD ag)]}
abbrev aml:X:=ck (.v 83)
theorem aCP:ab aa 167 aj1:=Dh a6T [((ck amj),(ck alW)),((bk amk ef),(bk alX ef)),(ac2,(ao (bQ 84 YP))),(ac3,(m4 al0)),(aml,(ck ami)),((ck ae),(ck Y7)),(FM,(ao (qu zh)))] _ (λE hF q hq=>by
 simp only[ep,gn,or_false] at hq
 have v104:=hF.vb 139 _ _ rfl
 have v80:=hF.vb 80 _ _ rfl
 have v83:=hF.vb 83 _ _ rfl
 have b:=hF.b 102 rfl
 have hB:0<=N cD:=by show 0<=N (.v 102)*1024; omega
 rcases hq with rfl | rfl | rfl | rfl | rfl | rfl | rfl
 .exact aq (λq _=>congrFun (pq v104) q) _
 .exact aq (λq _=>congrFun (Bk v104) q) _
 .exact aD (by show N (.v 84)=N (.v 84)+N YP; rw[a9t,Int.add_zero])
 .exact aq (λq _=>by rw[a7C v80]) _
 .exact aq (λq _=>(aRK hB v83 q).symm) _
 .exact aq (λq _=>show D ae q=D Y7 q from (a_w q).symm) _
 .exact aD (by rw[jx,Xg]; rfl)) kr
abbrev amm:Fa:=cI [(113,0,2147483647),(114,0,2147483647),Ac,(33,0,1152921504606846976),Ad]
abbrev Bv:X:=pS cV
abbrev amn:Nat×Bl:=Af 0 Bv adb
abbrev Me:X:=pM Bv
abbrev Mf:X:=TI Bv
def aAw:Sp:=kT amm ac8 [amn] (mj [aF Me,aF Mf,ac4,ac5,Ab,FV]) amn FW
def WY:Sp:={aAw with v:=mj [ag,aE,fc,kS,Ab,FV],l':=[amn,FW]}
theorem a3u:ab aa 228 aAw:=dj (t:=ahl) (lt:=[]) (m:=30) aso trivial (.ge (rY Me) (.ge (Br Me) (.ge (fJ Mf) (.ge (.o2 1 aj Mf) (.ge ac6 (.ge ado (.ge adp (.ge adq (.same adr CB (.same ads NO (.same (pS (sc Me Mf)) Bv .lf))))))))))) ⟨λE hF=>dP (by rw[og]; rfl),⟨λE hF=>dR (by rw[og]; rfl),⟨λE hF=>dP (by rw[sJ]; rfl),⟨λE hF=>dR (by rw[sJ]; rfl),⟨λE hF=>dP (cM E (.v 113) (by have:=(hF.b 113 rfl); omega) (by have:=(hF.b 113 rfl); omega)),⟨λE hF=>dR (cM E (.v 113) (by have:=(hF.b 113 rfl); omega) (by have:=(hF.b 113 rfl); omega)),⟨λE hF=>dP (cM E (.v 114) (by have:=(hF.b 114 rfl); omega) (by have:=(hF.b 114 rfl); omega)),⟨λE hF=>dR (cM E (.v 114) (by have:=(hF.b 114 rfl); omega) (by have:=(hF.b 114 rfl); omega)),⟨λE hF=>(by rw[fW,fW,cM E (.v 113) (by have:=(hF.b 113 rfl); omega) (by have:=(hF.b 113 rfl); omega)]),⟨λE hF=>(by rw[fW,fW,cM E (.v 114) (by have:=(hF.b 114 rfl); omega) (by have:=(hF.b 114 rfl); omega)]),⟨λE hF=>(by
 have a:N Me=0:=by rw[og]; rfl
 have b:N Mf=1:=by rw[sJ]; rfl
 rw[fW,fW,Io om om om,a,b]
 rfl),df rfl⟩⟩⟩⟩⟩⟩⟩⟩⟩⟩⟩ kr
theorem aif:ab aa 228 WY:=aL a3u [((ao Me),FM),((ao Mf),zV),(adt,adu),(adw,adx)] _ _ (al (λE hF=>aD (by rw[og]; rfl))<|al (λE hF=>aD (by rw[sJ]; rfl))<|al (λE hF=>aD (cM E (.v 113) (by have:=(hF.b 113 rfl); omega) (by have:=(hF.b 113 rfl); omega)))<|al (λE hF=>aD (cM E (.v 114) (by have:=(hF.b 114 rfl); omega) (by have:=(hF.b 114 rfl); omega)))<|aN) kr
abbrev vh:X:=.f 1031 xH
abbrev amo:Nat×Bl:=Af 0 vh adb
abbrev Mg:X:=pM vh
abbrev Mh:X:=TI vh
def aAx:Sp:=kT amm ac8 [amo] (mj [aF Mg,aF Mh,ac4,ac5,Ab,FV]) amo FW
def aih:Sp:={aAx with v:=mj [aE,ag,fc,kS,Ab,FV],l':=[amo,FW]}
theorem a3w:ab aa 228 aAx:=dj (t:=ahl) (lt:=[]) (m:=30) aso trivial (.ge (fJ Mg) (.ge (.o2 1 aj Mg) (.ge (rY Mh) (.ge (Br Mh) (.ge ac6 (.ge ado (.ge adp (.ge adq (.same adr CB (.same ads NO (.same (pS (sc Mg Mh)) vh .lf))))))))))) ⟨λE hF=>dP (by rw[og]; rfl),⟨λE hF=>dR (by rw[og]; rfl),⟨λE hF=>dP (by rw[sJ]; rfl),⟨λE hF=>dR (by rw[sJ]; rfl),⟨λE hF=>dP (cM E (.v 113) (by have:=(hF.b 113 rfl); omega) (by have:=(hF.b 113 rfl); omega)),⟨λE hF=>dR (cM E (.v 113) (by have:=(hF.b 113 rfl); omega) (by have:=(hF.b 113 rfl); omega)),⟨λE hF=>dP (cM E (.v 114) (by have:=(hF.b 114 rfl); omega) (by have:=(hF.b 114 rfl); omega)),⟨λE hF=>dR (cM E (.v 114) (by have:=(hF.b 114 rfl); omega) (by have:=(hF.b 114 rfl); omega)),⟨λE hF=>(by rw[fW,fW,cM E (.v 113) (by have:=(hF.b 113 rfl); omega) (by have:=(hF.b 113 rfl); omega)]),⟨λE hF=>(by rw[fW,fW,cM E (.v 114) (by have:=(hF.b 114 rfl); omega) (by have:=(hF.b 114 rfl); omega)]),⟨λE hF=>(by
 have a:N Mg=1:=by rw[og]; rfl
 have b:N Mh=0:=by rw[sJ]; rfl
 rw[fW,fW,Io om om om,a,b]
 rfl),df rfl⟩⟩⟩⟩⟩⟩⟩⟩⟩⟩⟩ kr
theorem aAy:ab aa 228 aih:=aL a3w [((ao Mg),zV),((ao Mh),FM),(adt,adu),(adw,adx)] _ _ (al (λE hF=>aD (by rw[og]; rfl))<|al (λE hF=>aD (by rw[sJ]; rfl))<|al (λE hF=>aD (cM E (.v 113) (by have:=(hF.b 113 rfl); omega) (by have:=(hF.b 113 rfl); omega)))<|al (λE hF=>aD (cM E (.v 114) (by have:=(hF.b 114 rfl); omega) (by have:=(hF.b 114 rfl); omega)))<|aN) kr
abbrev Bw:X:=pS (.i 257)
abbrev amp:Nat×Bl:=Af 0 Bw adb
abbrev Mi:X:=pM Bw
abbrev Mj:X:=TI Bw
def aAz:Sp:=kT amm ac8 [amp] (mj [aF Mi,aF Mj,ac4,ac5,Ab,FV]) amp FW
def aii:Sp:={aAz with v:=mj [aE,aE,fc,kS,Ab,FV],l':=[amp,FW]}
theorem a3x:ab aa 228 aAz:=dj (t:=ahl) (lt:=[]) (m:=30) aso trivial (.ge (fJ Mi) (.ge (.o2 1 aj Mi) (.ge (fJ Mj) (.ge (.o2 1 aj Mj) (.ge ac6 (.ge ado (.ge adp (.ge adq (.same adr CB (.same ads NO (.same (pS (sc Mi Mj)) Bw .lf))))))))))) ⟨λE hF=>dP (by rw[og]; rfl),⟨λE hF=>dR (by rw[og]; rfl),⟨λE hF=>dP (by rw[sJ]; rfl),⟨λE hF=>dR (by rw[sJ]; rfl),⟨λE hF=>dP (cM E (.v 113) (by have:=(hF.b 113 rfl); omega) (by have:=(hF.b 113 rfl); omega)),⟨λE hF=>dR (cM E (.v 113) (by have:=(hF.b 113 rfl); omega) (by have:=(hF.b 113 rfl); omega)),⟨λE hF=>dP (cM E (.v 114) (by have:=(hF.b 114 rfl); omega) (by have:=(hF.b 114 rfl); omega)),⟨λE hF=>dR (cM E (.v 114) (by have:=(hF.b 114 rfl); omega) (by have:=(hF.b 114 rfl); omega)),⟨λE hF=>(by rw[fW,fW,cM E (.v 113) (by have:=(hF.b 113 rfl); omega) (by have:=(hF.b 113 rfl); omega)]),⟨λE hF=>(by rw[fW,fW,cM E (.v 114) (by have:=(hF.b 114 rfl); omega) (by have:=(hF.b 114 rfl); omega)]),⟨λE hF=>(by
 have a:N Mi=1:=by rw[og]; rfl
 have b:N Mj=1:=by rw[sJ]; rfl
 rw[fW,fW,Io om om om,a,b]
 rfl),df rfl⟩⟩⟩⟩⟩⟩⟩⟩⟩⟩⟩ kr
theorem aAA:ab aa 228 aii:=aL a3x [((ao Mi),zV),((ao Mj),zV),(adt,adu),(adw,adx)] _ _ (al (λE hF=>aD (by rw[og]; rfl))<|al (λE hF=>aD (by rw[sJ]; rfl))<|al (λE hF=>aD (cM E (.v 113) (by have:=(hF.b 113 rfl); omega) (by have:=(hF.b 113 rfl); omega)))<|al (λE hF=>aD (cM E (.v 114) (by have:=(hF.b 114 rfl); omega) (by have:=(hF.b 114 rfl); omega)))<|aN) kr
theorem aEE (s n w:R):xe s n w=xe s (λ_=>n 0) w:=rfl
theorem KH (E:Env) (r n m:X) (h:N n=N m):D (.f 1015 (.c r (.c n .n)))=D (.f 1015 (.c r (.c m .n))):=by
 show bV (xe (Iv [D r,D n]) (D n) (Iw [D r,D n]))=bV (xe (Iv [D r,D m]) (D m) (Iw [D r,D m]))
 have h1:Iv [D r,D n]=Iv [D r,D m]:=by rw[show Iv [D r,D n]=Hz.gH (Hz.fM (D r) (N n)).s from rfl,h]; rfl
 have h2:Iw [D r,D n]=Iw [D r,D m]:=by rw[show Iw [D r,D n]=Hz.dI (Hz.fM (D r) (N n)).w from rfl,h]; rfl
 rw[h1,h2,aEE _ (D n),aEE _ (D m),show D n 0=N n from rfl,show D m 0=N m from rfl,h]
theorem OM (E:Env) (r s n:X) (h:D r=D s):D (.f 1015 (.c r (.c n .n)))=D (.f 1015 (.c s (.c n .n))):=by
 show tc [D r,D n]=tc [D s,D n]
 rw[h]
theorem Dg {E:Env} {a a' n b b':X} (h1:∀q:Nat,(q:Int) < N n->D a q=D a' q) (h2:∀q,D b q=D b' q) (q:Nat):D (.o3 0 a n b) q=D (.o3 0 a' n b') q:=by
 rw[cE,cE]
 by_cases h:(q:Int) < N n
 .rw[if_pos h,if_pos h]; exact h1 q h
 .rw[if_neg h,if_neg h]; exact h2 _
abbrev Eo(a:X):X×Bool:=(.f 0 a,true)
abbrev amq:List (X×Bool):=[Eo (.c (jl ae) CC),Eo (.c (jl (.i 3072)) CC)]
abbrev aFX:List V:=[bS,lH 8 aU]
abbrev amr:X:=kP (.v 9)
abbrev Y9:X:=kt amr Tm
abbrev Bu(a:Nat)(b:X):X:=cz nT nU nW jw (bZ (.v a) aj aj aj (bZ ae bA my aH b))
abbrev Y1:ai:=qE (Bu 6 (gF jk FP (tO Y9 aOr)))
abbrev Y2:ai:=oO Y9
abbrev ns:ai:=Jm ae
abbrev nu:X:=.i 288
abbrev kH:ai:=aF nu
abbrev te:ai:=aF nH
abbrev ft:ai:=oO ae
abbrev amf:Nat×Bl:=jO 3 [lM,te,eY,eY,ag,ft,bC,ag,ag,ag,ag,CD,fE]
abbrev Y3:Nat×Bl:=cj 8 aU (.v 9)
abbrev rI(a b c d:ai):Bl:=⟨235,[bg,ag,cW,a,b,c,d,bC,ag],false,0⟩
abbrev amg:Nat×Bl:=(10,rI fE ag te ag)
abbrev Ma:ai:=lG 20
abbrev Mb:ai:=lG 21
abbrev aFU:X:=kP (.v 8)
abbrev amh:X:=kt (Bu 6 (sj jk FP Y9 aU (.v 5) aFU)) JR
abbrev Mc:ai:=dM 22 jM
abbrev Y4:Nat×Bl:=jm 4 [CE,CG,vU (.i 41),bC,bC,ag,fE]
abbrev IE:X:=.f 1051 (.c aj xH)
abbrev pt:X:=.f 1031 qz
abbrev Ri:X:=pS nu
abbrev Y5:X:=.c (sj my jk FP aH Y9 (.v 5)) zm
abbrev Rj:X:=.f 1014 zm
abbrev aFV:X:=Ae Y5 aU Rj Y5 oV
abbrev Y6:X:=gF Ri pt (pT amh aFV)
abbrev a_X:X:=bj tV
abbrev Bt(a b:X):X:=.f 1050 (qB cq a b a_X)
abbrev Ek(a b c:X):X:=Bt a (pT b c)
abbrev il:X:=.i 248
abbrev Em:X:=.i 264
abbrev amc:X:=jl Em
abbrev aFS:X:=jl (.i 3136)
abbrev amd:ai:=aF Em
abbrev ame:Nat×Bl:=(10,rI (dM 23 aj) aE ag amd)
abbrev aFT:Nat×Bl:=(20,FB Y5 Y8 Y5)
abbrev En:Bl:=⟨314,[bg,kM,aE,ag,ag,CD,ag,ag],false,0⟩
abbrev aF7:Nat×Bl:=cj 22 jM aFV
abbrev tg(a:Nat):ai:=dM a tV
abbrev aF8:ai:=tg 24
abbrev qp(a:Nat)(b:List ai):Nat×Bl:=(a,⟨238,b,false,3⟩)
abbrev amA:Nat×Bl:=qp 23 [a9,aE,aF8]
def aBd:Sp:=⟨dT [fe,gi,(3,1,1024),(9,0,255),FO,iW,jg,ku,iG,jN,iH] [gP,kV] amq,aFX,20,[cQ,cP [cY,ag,bg,cW,a9,Y1,eO,aE,dQ,ed,B2,Y2,Ct,fS,ns,iq,ag,ag,kH,ag,cK,cK],amf,kW,kX,eP,Y3,amg],eJ,25,[cQ,cP [cY,ag,bg,cW,a9,Y1,eO,aE,dQ,ed,B2,Y2,Ct,fS,Jm amr,iq,ag,ag,kH,ag,Ma,Mb],jO 3 [lM,te,eY,eY,ag,ft,de,ag,ag,kH,ag,pU amh,Mc],Y4,m5 (mq IE dA (Ek aj pt Y6) il amc (.i 2808) (.v 9) aU aFS),eP,Y3,ame,aFT,(21,En),aF7,amA,Af 24 pt Y6]⟩
theorem a4m:ab aa 99 aBd:=aG (t:=[(226,au Nb.zc),(286,au DO),(116,au Qb),(63,au uW),(64,bG (au wX) (au Qm)),(52,au rp),(242,au PX),(106,bG (au PV) (bG (au DP) (au aiz))),(177,au y4),(228,au WX),(231,bG (au wW) (au ajg))]) (lt:=[]) (m:=30) ⟨(aw LO),(aw H6),(aw W5),(aw wV),(cS (aw y6) (aw Xa)),(aw sY),(aw W2),(cS (aw W0) (cS (aw H7) (aw aBc))),(aw A7),(aw aij),(cS (aw y5) (aw aB7)),trivial⟩ trivial .lf kr
abbrev Mk:X:=cy 71 Fc
abbrev IF:X:=.f 1100 (bL 80 dW Mk)
theorem aDj {E:Env} (hF:∀q,0<=D (.v 80) q/\D (.v 80) q<=255) (hD:∀q,0<=D (.v 71) q/\D (.v 71) q<=255):D IF=Cu.eA (D (.v 80)) 4096 (D (.v 71)) (N (.v 50)):=by
 show dI (Cu.eA (D (.v 80)) 4096 (D (.v 71)) (N (.v 50)))=_
 rw[lR (Cu.Ls hF hD _ _)]
abbrev amB:X:=iU (.o2 15 IF dW) 50
abbrev Zh:X:=iU (.v 71) 50
abbrev IG:X:=kt Zh Fc
theorem a7K {E:Env} (hF:∀q,0<=D (.v 80) q/\D (.v 80) q<=255) (hD:∀q,0<=D (.v 71) q/\D (.v 71) q<=255) (h0:1<=N (.v 50)) (n:X) (hn:N n=N (.v 50)):D (.f 1015 (.c amB (.c n .n)))=D IG:=by
 have e:D amB=D Zh:=funext λq=>by
  show (if (q:Int) < N (.v 50) then D IF (q+(4096:Int).toNat) else _)=if (q:Int) < N (.v 50) then _ else _
  by_cases h:(q:Int) < N (.v 50)
  .rw[if_pos h,if_pos h,aDj hF hD]
   unfold Cu.eA
   rw[if_neg om,if_neg om,if_pos om]
   congr 1
  .rw[if_neg h,if_neg h]
 rw[KH E _ n (.v 50) hn,OM E _ _ _ e]
abbrev amC:X:=.f 0 (.c (jl dW) CC)
theorem aDh {E:Env} (hF:∀q,0<=D (.v 80) q/\D (.v 80) q<=255) (hD:∀q,0<=D (.v 71) q/\D (.v 71) q<=255) (h0:1<=N (.v 50)) (h1:N (.v 50)<=1024) (hb:decide (N amC≠0)=true) (q:Nat):D IF q=if (q:Int) < 4096 then D (.v 80) q else if (q:Int) < 4096+N (.v 50) then D (.v 71) (q - 4096) else D (.v 80) q:=by
 rw[aDj hF hD]
 unfold Cu.eA
 rw[if_neg om]
 split
 .rfl
 .split
  .rfl
  .split
   .have:=od hb (q - 4096) (by show ((q - 4096:Nat):Int) < 1024; omega)
    have e:D (jl dW) (q - 4096)=D (.v 80) (q - 4096+(4096:Int).toNat):=rfl
    rw[e] at this
    rw[<- this]
    congr 1
    omega
   .rfl
abbrev amD:X:=wa 83 80 (dG dW ae Fc)
theorem aRO {E:Env} (hE:∀q,0<=D (.v 83) q/\D (.v 83) q<=1000) (hb:decide (N amC≠0)=true) (q:Nat):D amD q=D (.v 83) q:=by
 show Lz.az 0 1001 (Cu.lU (D (.v 80)) 4096 0 (N (.v 50)) (D (.v 83)) q)=_
 have hz:Cu.ez (D (.v 80)) 4096 0 (N (.v 50))=0:=by
  unfold Cu.ez
  exact if_neg λh=>h.2.2 λj hj=>by
   have:=od hb j (by show (j:Int) < 1024; omega)
   exact this
 have h:=hE q
 have e:Cu.lU (D (.v 80)) 4096 0 (N (.v 50)) (D (.v 83)) q=D (.v 83) q:=by
  unfold Cu.lU Lz.dh
  rw[hz]
  split
  .rename_i c
   rw[Int.add_zero]
   congr 1
   omega
  .rfl
 rw[e,Lz.a6 h.1 om]
abbrev Zi:Nat×Int×Int:=(113,289,65536)
abbrev Et:Nat×Int×Int:=(31,0,1152921504606846976)
abbrev BA:X:=.f 1082 Mk
abbrev bH:X:=.f 80 Mk
abbrev Zj:X:=.o2 1 BA bH
abbrev Zk:X:=.o2 1 bH BA
abbrev Zl:List (X×Bool):=[Eo (di amc (.i 760)),(amC,true)]
abbrev aF9:List V:=[bS,lH 8 BA]
abbrev Eu:ai:=oO IG
abbrev Ml:X:=jK (.f 81 Mk) bH
abbrev aGa:X:=bj (.o2 0 BA bM)
abbrev Zm:ai:=Jm (tO (kt (oY 117 bM Ml BA ae) aGa) (.v 111))
abbrev lv:ai:=lG 11
abbrev Ew:Nat×Bl:=(11,aFW)
abbrev aF2:ai:=dM 13 jM
abbrev Za:Nat×Bl:=jO 3 [lM,te,eY,eY,ag,ft,de,ag,ag,kH,ag,Ab,aF2]
abbrev Ep:Nat×Bl:=cj 8 BA Ml
abbrev Zb:Nat×Bl:=(10,rI (dM 14 aj) aE ag amd)
abbrev aF3:X:=cN 30 31 .n
abbrev rJ:Nat×Bl:=cj 13 jM (Ae aF3 aU (.f 1014 (qv 31)) aF3 (Jq (.v 31)))
abbrev Er:ai:=tg 15
abbrev Zc:Nat×Bl:=qp 14 [a9,aE,Er]
abbrev aF4:Nat×Bl:=cP [cY,ag,bg,cW,a9,vM,eO,aE,dQ,ed,a8,lI,Eu,lJ,Zm,lK,a8,aE,fc,a8,lv,j5]
abbrev vi(a:X):X:=bk a ff
abbrev amv:X:=kt (vi (.v 104)) JR
abbrev Zd:ai:=dM 20 jM
abbrev aF5:Nat×Bl:=jO 3 [lM,te,eY,eY,ag,ft,de,ag,aE,fc,a8,pU amv,Zd]
abbrev Ze:X:=dG ae (.v 50) Fc
abbrev Rl:Nat×Bl:=jm 4 [CE,CG,vU (.o2 0 (.f 1103 (bL 80 dW Ze)) nG),bC,bC,ag,fE]
abbrev j6:X:=.f 1031 Fc
abbrev amw:X:=di oX (.v 71)
abbrev Rm:X:=bQ 50 oX
abbrev Es:X:=bj Rm
abbrev Zf:X:=.c (.f 1106 (cy 139 amw)) Es
abbrev amx:X:=.f 1014 Es
abbrev amy:X:=Jq Rm
abbrev amz:X:=Ae Zf aU amx Zf amy
abbrev Zg:X:=gF CB j6 (pT amv amz)
abbrev aF6:X:=Ek bA Bv Zg
abbrev Rn:X:=.i 512
abbrev aFY:X:=bZ IF Em aF6 il (.o2 15 IF Rn)
abbrev aFZ:ai:=dM 21 bA
abbrev ams:ai:=aF Rn
abbrev amt:Nat×Bl:=(10,rI aFZ aE ag ams)
abbrev zn:Nat×Bl:=(11,FB Zf (aF Rm) Zf)
abbrev aF0:ai:=Re Mk
abbrev Rk:Nat×Bl:=(12,⟨314,[bg,kM,aE,a8,YR,aF0,aE,ag],false,0⟩)
abbrev zo:Bl:=oC jM amz
abbrev amu:Nat×Bl:=qp 21 [a9,aE,Er,a9,cW,tg 22]
abbrev aF1:Nat×Bl:=Af 22 Bv Zg
def ai7:Sp:=⟨dT [iG,jN,iH,ku,jf,lu,zY,qI,Fw,tI,tH,Zi,Ac,Et,Ad,zj,fe,gi,iW] [gP,Zj,Zk,kV] Zl,aF9,20,[cQ,cP [cY,ag,bg,cW,a9,vM,eO,aE,dQ,ed,a8,lI,Eu,lJ,Zm,lK,a8,ag,fc,ag,lv,j5],Ew,(12,En),Za,kW,kX,eP,Ep,Zb,rJ,Zc],eJ,23,[cQ,aF4,aF5,Rl,m5 aFY,(6,tQ amD),Ep,amt,zn,Rk,rJ,(20,zo),amu,aF1]⟩
abbrev amM:X:=bZ (jl Rn) (.i 3584) (.v 71) (.v 50) (jl (bQ 50 dW))
abbrev aGn:X:=oY 80 Em aF6 il amM
def aBR:Sp:={ai7 with v:=ai7.v,l':=[cQ,aF4,aF5,Rl,m5 aGn,eP,Ep,amt,zn,Rk,rJ,(20,zo),amu,aF1]}
abbrev amN:X:=bj (.o2 0 ae (.v 50))
theorem a5h:ab aa 101 ai7:=dj (t:=[(286,au DO),(63,au uW),(64,bG (au wX) (bG (au Qm) (au aj9))),(52,au rp),(242,au PX),(106,bG (au PV) (au DP)),(177,au y4),(228,bG (au WX) (au WY)),(231,au wW),(171,au A5),(167,bG (au aj0) (au aj1))]) (lt:=[]) (m:=30) ⟨(aw H6),(aw wV),(cS (aw y6) (cS (aw Xa) (aw aC3))),(aw sY),(aw W2),(cS (aw W0) (aw H7)),(aw A7),(cS (aw aij) (aw aif)),(aw y5),(aw aAs),(cS (aw aCN) (aw aCP)),trivial⟩ trivial (.same (kt amB amN) IG .lf) ⟨λE hF=>a7K (hF.vb 80 _ _ rfl) (hF.vb 71 _ _ rfl) (hF.b 50 rfl).1 _ (by show (0:Int)+N (.v 50)=_; omega),df rfl⟩ kr
theorem a5i : ab aa 101 aBR := aL a5h [((m4 aFY), (m4 aGn)), ((ck amD), aml)] _ _ (al (fun E hF => (aq (fun q _ => Dg (fun q h => by rw [aDh (hF.vb 80 _ _ rfl) (hF.vb 71 _ _ rfl) (hF.b 50 rfl).1 (hF.b 50 rfl).2 (hF.t (mt mh))]; exact if_pos (by have h : (q : Int) < 512 := adO h (show (264 : Int) ≤ 512 by decide); omega)) (Dg (fun _ _ => rfl) (fun q => by
    show D IF (q + 512) = if (q : Int) < 3584 then D (.v 80) (q + 512) else (if ((q - 3584 : Nat) : Int) < N (.v 50) then D (.v 71) (q - 3584) else D (.v 80) (q - 3584 - (N (.v 50)).toNat + (N (.v 50) + 4096).toNat))
    have a := (hF.b 50 rfl)
    rw [aDh (hF.vb 80 _ _ rfl) (hF.vb 71 _ _ rfl) (hF.b 50 rfl).1 (hF.b 50 rfl).2 (hF.t (mt mh))]
    by_cases c3 : (q : Int) < 3584
    · rw [if_pos c3, if_pos om]
    · rw [if_neg c3, if_neg om]
      by_cases c4 : ((q - 3584 : Nat) : Int) < N (.v 50)
      · rw [if_pos c4, if_pos om]
        exact congrArg _ om
      · rw [if_neg c4, if_neg om]
        exact congrArg _ om)) q) _)) <| al (fun E hF => (aq (fun q _ => aRO (hF.vb 83 _ _ rfl) (hF.t (mt mh)) q) _)) <| aN) kr
abbrev IH:X:=.i 624
abbrev amO:List (X×Bool):=[Eo (di (jl IH) (.i 400)),Eo (.c (jl (.i 6144)) CC)]
abbrev lz:ai:=aF g7
abbrev amP:Nat×Bl:=jO 3 [lM,ag,vZ,v7,v8,tX,bC,ag,ag,ag,ag,CD,fE]
abbrev amQ:Nat×Bl:=(10,rI (dM 14 cq) aE ag (aF IH))
abbrev Zr:ai:=tg 16
abbrev Ry:ai:=dM 17 qL
abbrev amR:Nat×Bl:=qp 14 [a9,aE,Er,a9,cW,Zr,cW,a9,Ry]
abbrev Zs:Nat×Bl:=jm 4 [CE,CG,vU (.i 39),bC,bC,ag,fE]
abbrev aGo:X:=jl (.i 872)
abbrev aGp:X:=jl (.i 6208)
abbrev amS:ai:=aF (.i 872)
abbrev amT:Nat×Bl:=(10,rI (dM 23 bM) aE ag amS)
abbrev amU:ai:=aF jh
abbrev Ey:Bl:=⟨314,[bg,amU,aE,ag,ag,CD,ag,ag],false,0⟩
abbrev amV:Nat×Bl:=qp 23 [a9,aE,Er,a9,cW,Zr,cW,a9,Ry,a9,kM,aF8]
def aBe:Sp:=⟨dT [fe,gi,(3,1,1024),(9,0,255),FO,iW,jg,ku,iG,jN,iH,tS,tT,F4,tU] [gP,kV] amO,aFX,20,[cQ,cP [cY,aE,bg,lz,a9,Y1,eO,aE,dQ,ed,B2,Y2,Ct,fS,ns,iq,ag,ag,kH,ag,cK,cK],amP,kW,kX,eP,Y3,amQ,amR],eJ,25,[cQ,cP [cY,aE,bg,lz,a9,Y1,eO,aE,dQ,ed,B2,Y2,Ct,fS,Jm amr,iq,ag,ag,kH,ag,Ma,Mb],jO 3 [lM,ag,vZ,v7,v8,tX,de,aE,ag,kH,ag,pU amh,Mc],Zs,m5 (mq (.v 80) IH (Ek bM vh Y6) il aGo (.i 5272) (.v 9) aU aGp),eP,Y3,amT,aFT,(21,Ey),aF7,amV,Af 24 vh Y6]⟩
theorem a4n:ab aa 99 aBe:=aG (t:=[(226,au Nb.zc),(286,au DO),(116,au Qb),(63,au uW),(64,bG (au wX) (au Qm)),(52,au rp),(242,au PX),(106,bG (au PV) (au aiz)),(177,au y4),(228,au aih),(227,au Lk),(231,au wW)]) (lt:=[]) (m:=30) ⟨(aw LO),(aw H6),(aw W5),(aw wV),(cS (aw y6) (aw Xa)),(aw sY),(aw W2),(cS (aw W0) (aw aBc)),(aw A7),(aw aAy),(aw PT),(aw y5),trivial⟩ trivial .lf kr
abbrev II:X:=.f 1100 (bL 80 Cz Mk)
theorem aDk {E:Env} (hF:∀q,0<=D (.v 80) q/\D (.v 80) q<=255) (hD:∀q,0<=D (.v 71) q/\D (.v 71) q<=255):D II=Cu.eA (D (.v 80)) 7168 (D (.v 71)) (N (.v 50)):=by
 show dI (Cu.eA (D (.v 80)) 7168 (D (.v 71)) (N (.v 50)))=_
 rw[lR (Cu.Ls hF hD _ _)]
abbrev amW:X:=iU (.o2 15 II Cz) 50
theorem a7L {E:Env} (hF:∀q,0<=D (.v 80) q/\D (.v 80) q<=255) (hD:∀q,0<=D (.v 71) q/\D (.v 71) q<=255) (h0:1<=N (.v 50)) (n:X) (hn:N n=N (.v 50)):D (.f 1015 (.c amW (.c n .n)))=D IG:=by
 have e:D amW=D Zh:=funext λq=>by
  show (if (q:Int) < N (.v 50) then D II (q+(7168:Int).toNat) else _)=if (q:Int) < N (.v 50) then _ else _
  by_cases h:(q:Int) < N (.v 50)
  .rw[if_pos h,if_pos h,aDk hF hD]
   unfold Cu.eA
   rw[if_neg om,if_neg om,if_pos om]
   congr 1
  .rw[if_neg h,if_neg h]
 rw[KH E _ n (.v 50) hn,OM E _ _ _ e]
abbrev amX:X:=.f 0 (.c (jl Cz) CC)
theorem aDi {E:Env} (hF:∀q,0<=D (.v 80) q/\D (.v 80) q<=255) (hD:∀q,0<=D (.v 71) q/\D (.v 71) q<=255) (h0:1<=N (.v 50)) (h1:N (.v 50)<=1024) (hb:decide (N amX≠0)=true) (q:Nat):D II q=if (q:Int) < 7168 then D (.v 80) q else if (q:Int) < 7168+N (.v 50) then D (.v 71) (q - 7168) else D (.v 80) q:=by
 rw[aDk hF hD]
 unfold Cu.eA
 rw[if_neg om]
 split
 .rfl
 .split
  .rfl
  .split
   .have:=od hb (q - 7168) (by show ((q - 7168:Nat):Int) < 1024; omega)
    have e:D (jl Cz) (q - 7168)=D (.v 80) (q - 7168+(7168:Int).toNat):=rfl
    rw[e] at this
    rw[<- this]
    congr 1
    omega
   .rfl
abbrev amY:X:=wa 83 80 (dG Cz ae Fc)
theorem aRP {E:Env} (hE:∀q,0<=D (.v 83) q/\D (.v 83) q<=1000) (hb:decide (N amX≠0)=true) (q:Nat):D amY q=D (.v 83) q:=by
 show Lz.az 0 1001 (Cu.lU (D (.v 80)) 7168 0 (N (.v 50)) (D (.v 83)) q)=_
 have hz:Cu.ez (D (.v 80)) 7168 0 (N (.v 50))=0:=by
  unfold Cu.ez
  exact if_neg λh=>h.2.2 λj hj=>by
   have:=od hb j (by show (j:Int) < 1024; omega)
   exact this
 have h:=hE q
 have e:Cu.lU (D (.v 80)) 7168 0 (N (.v 50)) (D (.v 83)) q=D (.v 83) q:=by
  unfold Cu.lU Lz.dh
  rw[hz]
  split
  .rename_i c
   rw[Int.add_zero]
   congr 1
   omega
  .rfl
 rw[e,Lz.a6 h.1 om]
abbrev Zt:List (X×Bool):=[Eo (.c (jl gO) CC),(amX,true)]
abbrev Zu:Nat×Bl:=jO 3 [lM,ag,vZ,v7,v8,tX,de,aE,ag,kH,ag,Ab,aF2]
abbrev Zv:Nat×Bl:=(10,rI (dM 14 bM) aE ag amS)
abbrev aGb:ai:=tg 18
abbrev BC:Nat×Bl:=qp 14 [a9,aE,Er,a9,cW,Zr,cW,a9,Ry,a9,kM,aGb]
abbrev aGc:Nat×Bl:=cP [cY,aE,bg,lz,a9,vM,eO,aE,dQ,ed,a8,lI,Eu,lJ,Zm,lK,a8,aE,fc,a8,lv,j5]
abbrev aGd:Nat×Bl:=jO 3 [lM,ag,vZ,v7,v8,tX,de,aE,aE,fc,a8,pU amv,Zd]
abbrev Rt:Nat×Bl:=jm 4 [CE,CG,vU (xP (.f 1103 (bL 80 Cz Ze)) 47),bC,bC,ag,fE]
abbrev Ru:X:=.f 1051 (di aj bA)
abbrev Zo:X:=.f 1050 (iF bA aj (pT pt arO) qL .n)
abbrev aGe:X:=Ek bA Bw Zg
abbrev aGf:X:=mq II gO Ru dA Zo xR aGe il (.o2 15 II (.i 1400))
abbrev amH:ai:=aF (.i 376)
abbrev amI:Nat×Bl:=(10,rI aFZ cW aE amH)
abbrev Rv:Nat×Bl:=(12,⟨314,[bg,amU,aE,a8,YR,aF0,aE,ag],false,0⟩)
abbrev amJ:Nat×Bl:=qp 21 [cW,aE,dM 22 qL,a9,cW,tg 23]
abbrev Rw:Bl:=oC qL (pT pt arO)
abbrev aGg:Nat×Bl:=Af 23 Bw Zg
def ai8:Sp:=⟨dT [iG,jN,iH,ku,jf,lu,zY,qI,Fw,tI,tH,Zi,Ac,Et,Ad,zj,fe,gi,iW,tS,tT,F4,tU] [gP,Zj,Zk,kV] Zt,aF9,20,[cQ,cP [cY,aE,bg,lz,a9,vM,eO,aE,dQ,ed,a8,lI,Eu,lJ,Zm,lK,a8,ag,fc,ag,lv,j5],Ew,(12,Ey),Zu,kW,kX,eP,Ep,Zv,rJ,BC],eJ,24,[cQ,aGc,aGd,Rt,m5 aGf,(6,tQ amY),Ep,amI,zn,Rv,rJ,BC,(20,zo),amJ,(22,Rw),aGg]⟩
abbrev amK:X:=bZ (jl (.i 1400)) (.i 5768) (.v 71) (.v 50) (jl (bQ 50 Cz))
abbrev aGh:X:=mq (.v 80) gO Ru dA Zo xR aGe il amK
def aBS:Sp:={ai8 with v:=ai8.v,l':=[cQ,aGc,aGd,Rt,m5 aGh,eP,Ep,amI,zn,Rv,rJ,BC,(20,zo),amJ,(22,Rw),aGg]}
theorem a5j:ab aa 101 ai8:=dj (t:=[(226,au Nb.zc),(286,au DO),(63,au uW),(64,bG (au wX) (bG (au Qm) (au aj9))),(52,au rp),(242,au PX),(106,bG (au PV) (au DP)),(177,au y4),(228,bG (au aih) (au aii)),(227,au Lk),(231,bG (au wW) (au ajg)),(171,au A5),(167,bG (au aj0) (au aj1))]) (lt:=[]) (m:=30) ⟨(aw LO),(aw H6),(aw wV),(cS (aw y6) (cS (aw Xa) (aw aC3))),(aw sY),(aw W2),(cS (aw W0) (aw H7)),(aw A7),(cS (aw aAy) (aw aAA)),(aw PT),(cS (aw y5) (aw aB7)),(aw aAs),(cS (aw aCN) (aw aCP)),trivial⟩ trivial (.same (kt amW amN) IG .lf) ⟨λE hF=>a7L (hF.vb 80 _ _ rfl) (hF.vb 71 _ _ rfl) (hF.b 50 rfl).1 _ (by show (0:Int)+N (.v 50)=_; omega),df rfl⟩ kr
theorem a5k : ab aa 101 aBS := aL a5j [((m4 aGf), (m4 aGh)), ((ck amY), aml)] _ _ (al (fun E hF => (aq (fun q _ => Dg (fun q h => by rw [aDi (hF.vb 80 _ _ rfl) (hF.vb 71 _ _ rfl) (hF.b 50 rfl).1 (hF.b 50 rfl).2 (hF.t (mt mh))]; exact if_pos (by have h : (q : Int) < 1400 := adO h (show (1024 : Int) ≤ 1400 by decide); omega)) (Dg (fun _ _ => rfl) (Dg (fun _ _ => rfl) (Dg (fun _ _ => rfl) (fun q => by
    show D II (q + 1400) = if (q : Int) < 5768 then D (.v 80) (q + 1400) else (if ((q - 5768 : Nat) : Int) < N (.v 50) then D (.v 71) (q - 5768) else D (.v 80) (q - 5768 - (N (.v 50)).toNat + (N (.v 50) + 7168).toNat))
    have a := (hF.b 50 rfl)
    rw [aDi (hF.vb 80 _ _ rfl) (hF.vb 71 _ _ rfl) (hF.b 50 rfl).1 (hF.b 50 rfl).2 (hF.t (mt mh))]
    by_cases c3 : (q : Int) < 5768
    · rw [if_pos c3, if_pos om]
    · rw [if_neg c3, if_neg om]
      by_cases c4 : ((q - 5768 : Nat) : Int) < N (.v 50)
      · rw [if_pos c4, if_pos om]
        exact congrArg _ om
      · rw [if_neg c4, if_neg om]
        exact congrArg _ om)))) q) _)) <| al (fun E hF => (aq (fun q _ => aRP (hF.vb 83 _ _ rfl) (hF.t (mt mh)) q) _)) <| aN) kr
end
end Go.Proofs.Y
namespace Go.Proofs.Y
open Go Go.Z
section
variable [kv]
abbrev amL:V:=oI 0 (.v 32) .a
def HD:Lp:=⟨nK [(31,0,8192),(32,0,8192),(33,0,8192)] [abb] (.f 54 (zF 30 31 32 ada)),[(3,lB 33),(6,amL),(7,aLj),(8,aLk)],1,[(0,B4)],.exit 0,[],1,[(0,B4)],abb⟩
def aXS:X:=xC bT
def ax0:X:=aLH
def ax1:X:=dr
abbrev Zp:X:=ax1
def aXX:X:=Br Zp
def aXY:X:=.f 54 (bL 30 Nh (eZ 32 (nE 33)))
def ax2:X:=eH
def aXZ:X:=Br ax2
def aX0:X:=.o2 1 bT bA
def aX1:X:=rO 257 bT
def aX2:X:=fJ Zp
def aXT:X:=B3 Zp
abbrev aGi:X:=.o3 1 (lA 33 dW) (.v 33) dW
def aXU:X:=.o2 1 aGi Zp
def aXV:X:=.o2 1 (bz mW 33) bT
def aXW:X:=.f 54 (bL 30 Nh (eZ 32 (bQ 33 bT)))
theorem aX3:cr aa Tryz.f263.ntmps (aI 3 (loops (aC Tryz.f263))) HD HD.fa:=eX (t:=[]) (lt:=[]) (m:=8) (f:=263) (k:=3) trivial trivial (λ_=>rfl) rfl (.tf aLP (.tf aXS (.ge ax0 (.ge ax1 (.ge aXX (.ge (bz (.i 8191) 33) (.is aXY true .lf))))) (.ge ax0 (.ge ax2 (.ge aXZ (.ge aX0 (.ge aX1 (.ge aX2 (.ge aXT (.ge aXU (.ge aXV (.is aXW true .lf))))))))))) .lf) ⟨⟨(oC5 (λE hF=>by
 obtain⟨⟨hF,h1⟩,h2⟩:=hF
 have h1:N (.v 31) < N (.v 32):=h1
 have b31:=hF.b 31 rfl
 have b32:=hF.b 32 rfl
 have b33:=hF.b 33 rfl
 have hr:Lz.np (D (.v 30)) (N (.v 31)) (N (.v 32)) (N (.v 33)):=jI (of_decide_eq_true (show decide (yes (Lz.np (D (.v 30)) (N (.v 31)) (N (.v 32)) (N (.v 33)))≠0)=true from hF.t mh))
 obtain⟨o,ol,on⟩:=aD6 (tk:=.v 30) (j:=.v 31) b31.1 h1 hr
 have h2:N (Aw (.v 30) (.v 31))=0:=h2
 refine⟨?_,?_,?_,?_,?_⟩
 .unfold Lz.l5 at o
  unfold Lz.jc at ol on
  rw[if_pos h2] at ol on
  show 0<=N (.v 32)*3 - N (.v 31)*3 - 3
  rcases o with o | o <;>omega
 .unfold Lz.l5 at o
  unfold Lz.jc at ol on
  rw[if_pos h2] at ol on
  show 0<=N (Dd (.v 30) (.v 31))
  rcases o with o | o <;>omega
 .unfold Lz.l5 at o
  unfold Lz.jc at ol on
  rw[if_pos h2] at ol on
  show 0<=0 - N (Dd (.v 30) (.v 31))
  rcases o with o | o <;>omega
 .unfold Lz.l5 at o
  unfold Lz.jc at ol on
  rw[if_pos h2] at ol on
  show 0<=8191 - N (.v 33)
  rcases o with o | o <;>omega
 .unfold Lz.l5 at o
  unfold Lz.jc at ol on
  rw[if_pos h2] at ol on
  exact dS on) (trivial)),(ay9 (λE hF=>by
 obtain⟨⟨hF,h1⟩,h2⟩:=hF
 have h1:N (.v 31) < N (.v 32):=h1
 have b31:=hF.b 31 rfl
 have b32:=hF.b 32 rfl
 have b33:=hF.b 33 rfl
 have hr:Lz.np (D (.v 30)) (N (.v 31)) (N (.v 32)) (N (.v 33)):=jI (of_decide_eq_true (show decide (yes (Lz.np (D (.v 30)) (N (.v 31)) (N (.v 32)) (N (.v 33)))≠0)=true from hF.t mh))
 obtain⟨o,ol,on⟩:=aD6 (tk:=.v 30) (j:=.v 31) b31.1 h1 hr
 have h2:¬N (Aw (.v 30) (.v 31))=0:=h2
 refine⟨?_,?_,?_,?_,?_,?_,?_,?_,?_,?_⟩
 .unfold Lz.l5 at o
  unfold Lz.jc at ol on
  rw[if_neg h2] at ol on
  show 0<=N (.v 32)*3 - N (.v 31)*3 - 3
  rcases o with o | o <;>omega
 .unfold Lz.l5 at o
  unfold Lz.jc at ol on
  rw[if_neg h2] at ol on
  show 0<=N (UL (.v 30) (.v 31))
  rcases o with o | o <;>omega
 .unfold Lz.l5 at o
  unfold Lz.jc at ol on
  rw[if_neg h2] at ol on
  show 0<=0 - N (UL (.v 30) (.v 31))
  rcases o with o | o <;>omega
 .unfold Lz.l5 at o
  unfold Lz.jc at ol on
  rw[if_neg h2] at ol on
  show 0<=N (Aw (.v 30) (.v 31)) - 2
  rcases o with o | o <;>omega
 .unfold Lz.l5 at o
  unfold Lz.jc at ol on
  rw[if_neg h2] at ol on
  show 0<=257 - N (Aw (.v 30) (.v 31))
  rcases o with o | o <;>omega
 .unfold Lz.l5 at o
  unfold Lz.jc at ol on
  rw[if_neg h2] at ol on
  show 0<=N (Dd (.v 30) (.v 31)) - 1
  rcases o with o | o <;>omega
 .unfold Lz.l5 at o
  unfold Lz.jc at ol on
  rw[if_neg h2] at ol on
  show 0<=4096 - N (Dd (.v 30) (.v 31))
  rcases o with o | o <;>omega
 .unfold Lz.l5 at o
  unfold Lz.jc at ol on
  rw[if_neg h2] at ol on
  show 0<=N aGi - N (Dd (.v 30) (.v 31))
  rw[pX]
  rcases o with o | o
  .omega
  .split
   .omega
   .show 0<=4096 - N (Dd (.v 30) (.v 31))
    omega
 .unfold Lz.l5 at o
  unfold Lz.jc at ol on
  rw[if_neg h2] at ol on
  show 0<=8192 - N (.v 33) - N (Aw (.v 30) (.v 31))
  rcases o with o | o <;>omega
 .unfold Lz.l5 at o
  unfold Lz.jc at ol on
  rw[if_neg h2] at ol on
  exact dS on) (trivial))⟩,trivial⟩ kr
theorem aXQ (E:Env) (hF:ah HD.fa.fx):0<=N HD.μ:=by
 have h:0<=N (.v 32) - N (.v 31):=hF.g mh
 exact h
theorem aXR:ct aa Tryz.f263.ntmps (aI 3 (loops (aC Tryz.f263))) HD:=aX3.all aXQ
theorem aT8:cA aa ((263,3),aW HD):=dZ Tryz.func263 kr aXR
abbrev aGj:Fa:=nK [(32,0,8192)] [] (.f 54 (xF 30 ae 32 qz))
def ajo:Sp:=pB aGj [amL] (0,B4) MQ [(0,B4)]
theorem a5M:ab aa 263 ajo:=aG (t:=[]) (lt:=[((263,3),aW HD)]) (m:=8) trivial ⟨aT8,trivial⟩ .lf kr
theorem a1m:aY aa (263,av ajo):=cf a5M
def ah6:Sp:=⟨cI [(6,4,1040000)],[bS],2,ME,lH 2 (.v 6),3,[xB,(1,EK),(2,EK)]⟩
theorem a20:ab aa 267 ah6:=aG (t:=[]) (lt:=[]) (m:=8) trivial trivial .lf kr
theorem a0Y:aY aa (267,av ah6):=cf a20
abbrev aGk:X:=tC qx gO gO (.c gO CC)
abbrev Rx:X:=.o2 0 bM (.f 51 (xF 30 ae 32 aGk))
def ai4:X:=Rx
abbrev aGl:X:=.f 50 (bL 30 ae (bL 32 ae aGk))
def aBL:Sp:=kT aGj [amL] [(0,B4)] (lH 1 ai4) (0,B4) (cj 1 ai4 (jK aGl ai4))
abbrev Zq:X:=.o2 0 bM (.f 56 abc)
abbrev aGm:X:=jK (.f 55 abc) Zq
def ai3:Sp:={aBL with v:=lH 1 Zq,l':=[(0,B4),cj 1 Zq aGm]}
theorem a5a:ab aa 209 aBL:=dj (t:=[(263,av ajo),(264,av pCN),(265,av WW),(267,av ah6)]) (lt:=[((209,5),aW Hs)]) (m:=8) ⟨a1m,a0V,azr,a0Y,trivial⟩ ⟨aTZ,trivial⟩ (.is (.f 53 abc) true .lf) ⟨λE hF=>dS (Lz.a8Y (jI (of_decide_eq_true (show decide (yes (Lz.np (D (.v 30)) 0 (N (.v 32)) 0)≠0)=true from hF.t mh)))),df rfl⟩ kr
theorem a5b:ab aa 209 ai3:=aL a5a [((ao Rx),(ao Zq)),((I3 aGl Rx Rx),(bk aGm Rx))] _ _ (al (λE hF=>aD rfl)<|al (λE hF=>(aq (λ_ _=>rfl) _))<|aN) kr
theorem a1h:aY aa (209,av ai3):=cf a5b
end
end Go.Proofs.Y
