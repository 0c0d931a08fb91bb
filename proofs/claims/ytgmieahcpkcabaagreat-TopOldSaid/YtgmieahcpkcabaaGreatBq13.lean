import Derived.Test.YtgmieahcpkcabaaGreatBq12
import Derived.Test.YtgmieahcpkcabaaGreatBq5
import Derived.Test.YtgmieahcpkcabaaGreatBq11
import Derived.Test.YtgmieahcpkcabaaGreatBq6
set_option maxRecDepth 100000
set_option linter.unusedSimpArgs false
set_option linter.unusedVariables false
set_option linter.constructorNameAsVariable false
set_option linter.unusedSectionVars false
noncomputable section
namespace Go.Proofs.Y
open Go Go.Z
section
open Hz
open Go.Sym (Q5 CY Kb wv lw wR Wd Yt Bo alu alv bo co wy D5 Ba y9 akw alw alo gL vd xf XY akX Wa dJ s9 Bm kF iP aJ bv By alj X0 agM mulR rA DC Ed gB Oq lQ nr cl o5 alA aeh iy mL p9 PW i9 OG atS Xl Lv wD sh DL za Is C6 IA K1 AY eW mF pP val lr Qz et AU ob yY LI D1 D4 D2 D3 wB Qy Ww UW GB fV aES XZ)
theorem h32 (E:Env) (a:X):N (.f 2032 (.c a .n))=Lz.az 0 18446744073709551615 (N a / 18446744073709551616):=rfl
theorem aZ7 (n k:Nat) (p m:R):mulR n p (k+1) m=mulR n p k (if n / 2 ^ k % 2=1 then gB (gB m m) p else gB m m):=rfl
theorem a_j {a b k:Nat} {p m:R} {x y:Nat} (ha:a / 2 ^ k % 2=x) (hb:b / 2 ^ k % 2=y):rA a b p (k+1) m=rA a b p k (if 0 < x+2*y then gB (gB m m) (Oq p (x+2*y)) else gB m m):=by subst ha hb; rfl
theorem aZ6 (n:Nat) (p m:R):mulR n p 0 m=m:=rfl
theorem a_i (a b:Nat) (p m:R):rA a b p 0 m=m:=rfl
theorem a9V (a b:R) (k:Nat) (o:R):xf a b (k+1) o=xf a b k (kF (gL (a (3 - k)) b (3 - k) 4 o 0).1 (3 - k+4) (gL (a (3 - k)) b (3 - k) 4 o 0).2):=rfl
theorem a9W (x:Int) (b:R) (p k:Nat) (o:R) (c:Int):gL x b p (k+1) o c=gL x b p k (kF o (p+(3 - k)) ((x*b (3 - k)+c+o (p+(3 - k))) % 18446744073709551616)) ((x*b (3 - k)+c+o (p+(3 - k))) / 18446744073709551616):=rfl
theorem aET (x:Int) (b:R) (p:Nat) (o:R) (c:Int):gL x b p 0 o c=(o,c):=rfl
theorem a8Q (n m:Nat):y9 n 0 m=m:=rfl
theorem a9U (a b o:R):xf a b 0 o=o:=rfl
theorem aZ5 (n:Nat) (p:R):DC n p=mulR n p 256 nr:=rfl
theorem a_h (a b:Nat) (p:R):Ed a b p=rA a b p 256 nr:=rfl
theorem a0n {p:R} (h:∀i,0<=p i/\p i<=Go.Sym.a7) (i:Nat):0<=mL p i/\mL p i<=Go.Sym.a7:=LI (λi=>Go.Sym.iL _ i) (λi=>h _) (λi=>h _) (λi=>Go.Sym.iL _ i) i
theorem atF (f:Nat->BitVec 8) (i:Nat):0<=iy f i/\iy f i<=Go.Sym.a7:=by
 refine LI (λi=>?_) (λi=>AU _ _) (λi=>Go.Sym.Wy _) (λi=>wB _ _ _) i
 split
 .exact Qy _ _
 .exact Go.Sym.iL _ _
theorem asv {p:R} {q:Go.Sym.NP} (h:PW p q):PW (cl p) q:=⟨h.x.congr λ_ hi=>if_pos (h.x.ok _ hi),h.y.congr λ_ hi=>if_pos (h.y.ok _ hi),h.z.congr λ_ hi=>if_pos (h.z.ok _ hi),h.t.congr λ_ hi=>if_pos (h.t.ok _ hi)⟩
attribute [local irreducible] Go.Sym.nc Go.Sym.yX Go.Sym.lr Go.Sym.qS Go.Sym.lk Go.Sym.mulR Go.Sym.rA Go.Sym.gL Go.Sym.xf Go.Sym.y9
section
variable (E:Env)
theorem aSc (a i:X):D (.f 2021 (.c a (.c i .n)))=Cy.cB (decide (aJ (bv (D a)) 32 / 2 ^ (N i).toNat % 2=1)):=rfl
theorem U9 (n p m k:X):D (.f 2025 (.c n (.c p (.c m (.c k .n)))))=cl (mulR (aJ (bv (D n)) 32) (D p) (N k+1).toNat (D m)):=rfl
theorem Va (a p b m k:X):D (.f 2026 (.c a (.c p (.c b (.c m (.c k .n))))))=cl (rA (aJ (bv (D a)) 32) (aJ (bv (D b)) 32) (D p) (N k+1).toNat (D m)):=rfl
theorem at7 (a:X):D (.f 1120 (.c a .n))=Cy.Oh (D a):=rfl
theorem aR6 (a:X):D (.f 1121 (.c a .n))=Cy.oc (D a):=rfl
theorem ON (a:X):D (.f 1122 (.c a .n))=mL (iy (bv (D a))):=(show _=Cy.Pv (D a) from rfl).trans ((Cy.ay3 _).trans (o5 (a0n (atF _))))
theorem Dm (a:X):D (.f 1123 (.c a .n))=iy (bv (D a)):=(show _=Cy.OC (D a) from rfl).trans ((Cy.atE _).trans (o5 (atF _)))
theorem aR7 (a:X):D (.f 1124 (.c a .n))=Cy.cB (p9 (aJ (bv (D a)) 32)):=(show _=Cy.KC (D a) from rfl).trans (Cy.aeH _)
theorem at8 (h k s:X):D (.f 1125 (.c h (.c k (.c s .n))))=Cy.QX (D h) (D k) (D s):=rfl
theorem aR8 (d:X):D (.f 1126 (.c d .n))=Cy.Qu (D d):=rfl
theorem aR9 (h k s:X):D (.f 1127 (.c h (.c k (.c s .n))))=Cy.LX (D h) (D k) (D s):=rfl
theorem aSa (a b c:X):D (.f 1128 (.c a (.c b (.c c .n))))=Cy.wJ (D a) (D b) (D c):=rfl
theorem aSb (s:X):D (.f 1129 (.c s .n))=Cy.GK (D s):=rfl
theorem GX (w r i:X):D (.f 2045 (.c w (.c r (.c i .n))))=za (D w) (D r) (N i):=rfl
theorem auf (a b:X):D (.f 2046 (.c a (.c b .n)))=Is (D a) (D b):=rfl
theorem Vd (x b o c p j:X):D (.f 2047 (.c x (.c b (.c o (.c c (.c p (.c j .n)))))))=Hz.gH (gL (N x) (D b) (N p).toNat (4 - N j).toNat (D o) (N c)).1:=rfl
theorem Ve (x b o c p j:X):N (.f 2048 (.c x (.c b (.c o (.c c (.c p (.c j .n)))))))=Lz.az 0 18446744073709551615 (gL (N x) (D b) (N p).toNat (4 - N j).toNat (D o) (N c)).2:=rfl
theorem Vg (a b o i:X):D (.f 2054 (.c a (.c b (.c o (.c i .n)))))=Hz.gH (xf (D a) (D b) (4 - N i).toNat (D o)):=rfl
theorem sG (a i:X) {b:Bool} (h:decide (N (.f 2021 (.c a (.c i .n)))≠0)=b):aJ (bv (D a)) 32 / 2 ^ (N i).toNat % 2=b.toNat:=by
 have e:N (.f 2021 (.c a (.c i .n)))=tf (decide (aJ (bv (D a)) 32 / 2 ^ (N i).toNat % 2=1)):=congrFun (aSc E a i) 0
 rw[e,gX] at h
 cases b
 .have:=of_decide_eq_false h
  show _=0
  omega
 .exact of_decide_eq_true h
theorem ayK {n p m m' k:X} {b:Bool} (h:0<=N k) (hb:decide (N (.f 2021 (.c n (.c k .n)))≠0)=b) (hm:D m'=bif b then gB (gB (D m) (D m)) (D p) else gB (D m) (D m)):D (.f 2025 (.c n (.c p (.c m' (.c (.o2 0 k nH) .n)))))=D (.f 2025 (.c n (.c p (.c m (.c k .n))))):=by
 rw[U9,U9,bB,bl,show (N k+-1+1).toNat=(N k).toNat by omega,show (N k+1).toNat=(N k).toNat+1 by omega,aZ7,sG E n k hb,hm]
 cases b <;>rfl
theorem Yc {a p c m m' k:X} {x y:Bool} (h:0<=N k) (ha:decide (N (.f 2021 (.c a (.c k .n)))≠0)=x) (hb:decide (N (.f 2021 (.c c (.c k .n)))≠0)=y) (hm:D m'=if 0 < x.toNat+2*y.toNat then gB (gB (D m) (D m)) (Oq (D p) (x.toNat+2*y.toNat)) else gB (D m) (D m)):D (.f 2026 (.c a (.c p (.c c (.c m' (.c (.o2 0 k nH) .n))))))=D (.f 2026 (.c a (.c p (.c c (.c m (.c k .n)))))):=by
 rw[Va,Va,bB,bl,show (N k+-1+1).toNat=(N k).toNat by omega,show (N k+1).toNat=(N k).toNat+1 by omega,a_j (sG E a k ha) (sG E c k hb),hm]
theorem aP4 (a:X):D (.f 2025 (.c a (.c se (.c sf (.c dV .n)))))=D (.f 1120 (.c a .n)):=by
 rw[U9,GW,KJ,at7,Cy.aeg,aZ5]
 rfl
theorem a_f (a k s:X):D (.f 2026 (.c a (.c (.f 1122 (.c k .n)) (.c s (.c sf (.c dV .n))))))=D (.f 1125 (.c a (.c k (.c s .n)))):=by
 rw[Va,ON,KJ,at8,Cy.ak7,a_h]
 rfl
def atT (a:X):X:=.o3 1 (.o2 12 (.o2 5 (.o2 14 (.f 2006 (.c (.f 2005 (.c a (.c (.f 2011 (.c (.o2 15 a (.i 10)) .n)) .n))) .n)) (.i 0)) (.i 1)) (.i 1)) (.o3 0 (.f 2006 (.c (.f 2005 (.c (.o2 15 a (.i 5)) (.c (.f 2011 (.c (.o2 15 a (.i 10)) .n)) .n))) .n)) (.i 31) (.o3 0 (.o2 6 (.o2 14 (.f 2006 (.c (.f 2005 (.c (.o2 15 a (.i 5)) (.c (.f 2011 (.c (.o2 15 a (.i 10)) .n)) .n))) .n)) (.i 31)) (.i 128)) (.i 1) (.i 0))) (.f 2006 (.c (.f 2005 (.c (.o2 15 a (.i 5)) (.c (.f 2011 (.c (.o2 15 a (.i 10)) .n)) .n))) .n))
theorem aua (a:X):D (.f 2006 (.c a .n))=Go.Sym.bV (val (D a) % pP):=rfl
theorem atU {a:X} {q:Go.Sym.NP} (h:PW (D a) q) {i:Nat} (hi:i < 32):D (atT a) i=Go.Sym.bV (i9 q) i:=by
 have e:Go.Sym.bV (i9 q) i=((OG (D a) i).toNat:Int):=by rw[atS h hi]; rfl
 have ey:∀j,D (.f 2006 (.c (.f 2005 (.c (.o2 15 a g7) (.c (.f 2011 (.c (.o2 15 a sd) .n)) .n))) .n)) j=Go.Sym.bV (val (Lv (D a)) % pP) j:=λj=>by rw[aua,lV,pW,qa,pW]; rfl
 have ex:D (.f 2005 (.c a (.c (.f 2011 (.c (.o2 15 a sd) .n)) .n)))=Xl (D a):=by rw[lV,qa,pW]; rfl
 rw[e,atT,ifO,ex]
 unfold OG
 split
 .rw[cE,cE]
  unfold Go.Sym.dh
  by_cases h2:i=31
  .rw[if_neg (by rw[bl]; omega),if_pos (by rw[bl,bl]; omega),if_pos h2]
   show iP (D (.f 2006 _) (31:Int).toNat) 128=_
   rw[ey,adE]
   unfold iP Go.Sym.bV
   rw[fg]
   rfl
  .rw[if_pos (by rw[bl]; omega),if_neg h2,ey]
   rfl
 .rw[ey]
  rfl
theorem f20 (a:X):D (.f 2000 (.c a .n))=et (aJ (bv (D a)) 32):=(at9 E a).trans (o5 λi=>AU _ i)
def HZ (a:X):X:=.o1 8 (.o2 12 (.o2 5 (.o2 14 a (.i 31)) (.i 128)) (.i 0))
theorem azd {a:X} (hb:By (D a)):(N (HZ a)=0)↔bv (D a) 31 &&& 128#8=0#8:=by
 have e:(((D a 31).toNat &&& 128:Nat):Int)=((bv (D a) 31 &&& 128#8).toNat:Int):=by
  rw[arS,<- GB hb 31,fg]
  rfl
 show tf (decide (tf (decide ((((D a 31).toNat &&& 128:Nat):Int)=0))=0))=0↔_
 rw[e]
 have h:bv (D a) 31 &&& 128#8=0#8↔(bv (D a) 31 &&& 128#8).toNat=0:=⟨λh=>by rw[h]; rfl,λh=>adD h⟩
 rw[h,s9,s9]
 split <;>split <;>omega
theorem auY {a:X} (hb:By (D a)) (x y:X) (q:Nat):D (.o3 1 (HZ a) x y) q=if bv (D a) 31 &&& 128#8=0#8 then D y q else D x q:=by
 show (if N (HZ a)=0 then D y q else D x q)=_
 simp only[azd E hb]
def wK (a:X):X:=.o3 0 a (.i 31) (.o3 0 (.o2 8 (.o2 14 a (.i 31)) (.i 128)) (.i 1) (.i 0))
theorem aZ0 {a:X} (hb:By (D a)) (i:Nat):D (wK a) i=if i < 31 then D a i else if i=31 then D a 31 % 128 else 0:=by
 have key:∀x:Fin 256,(((x.val ^^^ (x.val &&& 128):Nat)):Int)=(x.val:Int) % 128:=by decide+kernel
 have h:=hb 31
 have k:=key ⟨(D a 31).toNat,by omega⟩
 rw[show (((⟨(D a 31).toNat,by omega⟩:Fin 256).val:Nat):Int)=D a 31 from yl h.1] at k
 rw[wK,cE,bl]
 by_cases h1:i < 31
 .rw[if_pos om,if_pos h1]
 .rw[if_neg om,if_neg h1,Kw]
  by_cases h2:i=31
  .rw[if_pos om,if_pos h2]
   exact k
  .rw[if_neg om,if_neg h2]
   rfl
theorem aQQ {a:X} (hb:By (D a)) (h:aJ (bv (D a)) 32 % 2 ^ 255 < pP):N (.o3 2 (.f 2006 (.c (.f 2000 (.c (wK a) .n)) .n)) (wK a) bW)=1:=by
 have hm:=aZ0 E hb
 have bm:By (D (wK a)):=λi=>by
  have:=hb i; have:=hb 31
  rw[hm]
  split
  .exact hb i
  .split <;>omega
 have e1:aJ (bv (D (wK a))) 31=aJ (bv (D a)) 31:=Go.Sym.a0i λi hi=>by unfold Go.Sym.bv; rw[hm,if_pos hi]
 have e2:(bv (D (wK a)) 31).toNat=(bv (D a) 31).toNat % 128:=by
  have h1:=GB bm 31; have h2:=GB hb 31
  rw[hm,if_neg om,if_pos rfl,<- h2] at h1
  omega
 have e:aJ (bv (D (wK a))) 32=aJ (bv (D a)) 32 % 2 ^ 255:=by
  have l:=Go.Sym.HU (bv (D a)) 31
  rw[Go.Sym.ayV _ 31,Go.Sym.ayV (bv (D a)) 31,e1,e2]
  omega
 show tf (decide (∀i:Nat,i < (32:Int).toNat->D (.f 2006 _) i=D (wK a) i))=1
 rw[decide_eq_true]
 .rfl
 .intro i hi
  rw[aua,f20,Go.Sym.afD,e,wi,dE h,<- e,<- GB bm i]
  unfold Go.Sym.bV
  rw[Go.Sym.aQC _ 32 _ hi]
theorem a0K {a:X} (h:¬N (.o2 5 (.o2 14 a nG) ef)=0):decide (N (HZ a)≠0)=true:=by
 show decide (tf (decide (tf (decide (N (.o2 5 (.o2 14 a nG) ef)=0))=0))≠0)=true
 rw[decide_eq_false h]
 rfl
section
variable {a:X} (hd:decide (@N _ E (.f 1124 (.c a .n))≠0)=true)
include hd
theorem aeI:p9 (aJ (bv (D a)) 32)=true:=by
 have h:N (.f 1124 (.c a .n))=tf (p9 (aJ (bv (D a)) 32)):=congrFun (aR7 E a) 0
 rwa [h,gX] at hd
theorem aRk:decide (N (.f 2015 (.c (.f 2000 (.c a .n)) .n))≠0)=true:=by
 have e:N (.f 2015 (.c (.f 2000 (.c a .n)) .n))=tf (lr (D (.f 2000 (.c a .n)))).2:=congrFun (aud E _) 0
 rw[e,f20,gX,(Qz (Go.Sym.Tw.read _)).2]
 exact (UW (aeI E hd)).2.1
theorem aRl (hb:By (D a)):decide (N (.o3 2 (.f 2006 (.c (.f 2000 (.c (wK a) .n)) .n)) (wK a) bW)≠0)=true:=by
 rw[aQQ E hb (UW (aeI E hd)).1]
 rfl
theorem aRm (hb:By (D a)) (h:decide (N (HZ a)≠0)=true):decide (N (.o3 2 (.f 2006 (.c (.f 2014 (.c (.f 2000 (.c a .n)) .n)) .n)) Tk bW)≠0)=false:=by
 have h1:¬aJ (bv (D a)) 32 / 2 ^ 255 % 2=0:=λc=>of_decide_eq_true h ((azd E hb).2 ((Ww _).2 c))
 rw[uz,zT,gX,qb,f20]
 refine decide_eq_false λc=>(UW (aeI E hd)).2.2 om ?_
 rwa [(Qz (Go.Sym.Tw.read _)).1.eq] at c
end
section
variable {a:X} (hb:By (@D _ E a)) {q:Nat} (hq:q < 5)
include hq
theorem aRo:D (.f 2000 (.c a .n)) q=D (.o2 15 (.f 1123 (.c a .n)) g7) q:=by
 rw[m6,Dm,f20]
 unfold iy ob
 exact (D4 hq).symm
theorem aRp:D z4 q=D (.o2 15 (.f 1123 (.c a .n)) sd) q:=by
 rw[m6,Dm,rj]
 unfold iy ob
 exact (D2 hq).symm
include hb
theorem aRn:D (.o3 1 (HZ a) (.f 2004 (.c ae (.c (.f 2014 (.c (.f 2000 (.c a .n)) .n)) .n))) (.f 2014 (.c (.f 2000 (.c a .n)) .n))) q=D (.f 1123 (.c a .n)) q:=by
 rw[auY E hb,Dm,nh,qb,f20]
 unfold iy ob
 refine Eq.trans ?_ (D1 hq).symm
 split <;>rfl
theorem aRq:D (.o3 1 (HZ a) (.f 2005 (.c (.f 2004 (.c ae (.c (.f 2014 (.c (.f 2000 (.c a .n)) .n)) .n))) (.c (.f 2000 (.c a .n)) .n))) (.f 2005 (.c (.f 2014 (.c (.f 2000 (.c a .n)) .n)) (.c (.f 2000 (.c a .n)) .n)))) q=D (.o2 15 (.f 1123 (.c a .n)) vL) q:=by
 rw[auY E hb,m6,Dm,lV,lV,nh,qb,f20]
 unfold iy ob
 refine Eq.trans ?_ (D3 hq).symm
 split <;>rfl
end
theorem a_E:wv (λ_=>0)=0:=by decide+kernel
theorem ahh:dJ < Q5:=by
 rw[Kb]
 decide+kernel
theorem aD2 {n:Nat} (h:n < Q5):IA (za (wR n) (λ_=>0) 511)=Go.Sym.bV (n % dJ):=by
 have l:n % dJ < dJ:=gT _ Go.Sym.PG
 have l2:dJ < Q5:=ahh
 rw[IA,za,Bo,Bo,a_E,dE h,show (511+1:Int).toNat=64*8 from rfl,akw h,dE (Gn l l2)]
theorem aZR {a b c:Nat} (ha:a < 2 ^ 256) (hb:b < 2 ^ 256) (hc:c < 2 ^ 256):C6 (Is (wR a) (wR b)) (wR c)=wR (a*b+c)/\a*b+c < Q5:=by
 have h:a*b+c < Q5:=by
  have:=J7 (show a<=2 ^ 256 - 1 by omega) (show b<=2 ^ 256 - 1 by omega)
  have e:Q5=(2 ^ 256 - 1)*(2 ^ 256 - 1)+(2*2 ^ 256 - 1):=by rw[Kb]
  omega
 refine⟨?_,h⟩
 have h1:a*b < Q5:=Gm (ad0 _ _) h
 have h2:c < Q5:=Gm (Nat.le_add_left _ _) h
 rw[C6,Is,Wa,Wa,Bo,Bo,dE ha,dE hb,dE h1,dE h1,dE h2,dE h]
theorem a8P (d:X):D (.f 2049 (.c (.f 2045 (.c (.f 2040 (.c d (.c aU .n))) (.c ae (.c (.i 511) .n)))) .n))=D (.f 1126 (.c d .n)):=by
 rw[aeZ,GX,Vb,aR8,Cy.aDR]
 exact aD2 (by rw[CY,show 64*8=8*64 from rfl]; exact Go.Sym.HU (bv (D d)) 64)
theorem maD (a b c:X):D (.f 2049 (.c (.f 2045 (.c (.f 2044 (.c (.f 2046 (.c (.f 2040 (.c a (.c bW .n))) (.c (.f 2040 (.c b (.c bW .n))) .n))) (.c (.f 2040 (.c c (.c bW .n))) .n))) (.c ae (.c (.i 511) .n)))) .n))=D (.f 1128 (.c a (.c b (.c c .n)))):=by
 have l:∀x,aJ (bv (D x)) 32 < 2 ^ 256:=λx=>Go.Sym.HU _ 32
 have e:∀x,D (.f 2040 (.c x (.c bW .n)))=wR (aJ (bv (D x)) 32):=λx=>Vb E x bW
 obtain⟨h1,h2⟩:=aZR (l a) (l b) (l c)
 rw[aeZ,GX,aeY,auf,e,e,e,h1,aSa,Cy.agG]
 exact aD2 h2
def A4:X:=.o3 0 (.i 6346243789798364141) (.i 1) (.o3 0 (.i 1503914060200516822) (.i 1) (.o3 0 (.i 0) (.i 1) (.o3 0 (.i 1152921504606846976) (.i 1) (.i 0))))
def PH:R:=O3 0 (λ_=>6346243789798364141) (λ_=>1) (O3 0 (λ_=>1503914060200516822) (λ_=>1) (O3 0 (λ_=>0) (λ_=>1) (O3 0 (λ_=>1152921504606846976) (λ_=>1) (λ_=>0))))
theorem WE:D A4=PH:=by
 unfold A4
 rw[yg,yg,yg,yg]
 simp only[JT]
 rfl
theorem a_H (a:X) (k:Int):N (.o2 12 a (.i k))=tf (decide (N a=k)):=rfl
theorem WG:wv PH=dJ:=by decide+kernel
theorem aQP (a:X):N (.o2 12 (.f 2043 (.c (.f 2040 (.c a (.c bW .n))) (.c A4 .n))) aj)=N (.f 1129 (.c a .n)):=by
 have h1:N (.f 2043 (.c (.f 2040 (.c a (.c bW .n))) (.c A4 .n)))=tf (decide (wv (DL (D a) 32) < wv PH)):=by rw[<- WE E]; exact congrFun (Vc E _ _) 0
 have h2:N (.f 1129 (.c a .n))=Cy.GK (D a) 0:=congrFun (aSb E a) 0
 have l:aJ (bv (D a)) 32 < 2 ^ 256:=Go.Sym.HU _ 32
 have l2:aJ (bv (D a)) 32 < Q5:=by
  rw[Kb]
  exact lP l (ase _ dc)
 rw[a_H,h1,h2,Cy.aeA,WG,DL,Bo,show (32:Int).toNat=32 from rfl,dE l2]
 change _=tf (decide (aJ (bv (D a)) 32 < dJ))
 by_cases h:aJ (bv (D a)) 32 < dJ
 .rw[decide_eq_true h]; rfl
 .rw[decide_eq_false h]; rfl
theorem aD0 {w r s:R} {i j:Int} (hi:0<=i) (hj:j=i+-1) (hs:wv s=Ba (2*wv r % Q5+wv w / 2 ^ i.toNat % 2)):za w s j=za w r i:=by
 unfold za
 rw[hj,show (i+-1+1).toNat=i.toNat by omega,show (i+1).toNat=i.toNat+1 by omega,y9,hs]
def uZ (w r i:X):X:=.o3 0 (.o2 6 (.o2 14 (.f 2044 (.c r (.c r .n))) (.i 0)) (.o2 5 (.o2 10 (.o2 14 w (.o2 3 i (.i 64))) (.o2 4 i (.i 64))) (.i 1))) (.i 1) (.o2 15 (.f 2044 (.c r (.c r .n))) (.i 1))
theorem XI {w r i:X} (hw:Wd (D w) 8) (h:0<=N i) (h2:N i < 512):wv (D (uZ w r i))=2*wv (D r) % Q5+wv (D w) / 2 ^ (N i).toNat % 2:=by
 have e:N (.o2 5 (.o2 10 (.o2 14 w (.o2 3 i aU)) (.o2 4 i aU)) aj)=((wv (D w) / 2 ^ (N i).toNat % 2:Nat):Int):=by
  rw[LZ E _ 1 rfl,<- alo hw om]
  have d:=uQ E 64 64 rfl h; have m:=uR E 64 64 rfl h
  show (((((D w (N (.o2 3 i aU)).toNat).toNat>>>(N (.o2 4 i aU)).toNat:Nat):Int).toNat % 2 ^ 1:Nat):Int)=_
  rw[d,m,fg,fg,fg,qQ]
 have a:D (.f 2044 (.c r (.c r .n)))=wR (2*wv (D r) % Q5):=by rw[aeY,C6,<- ad9]
 rw[alw (s:=D (uZ w r i)) (n:=wv (D r)) (b:=N (.o2 5 (.o2 10 (.o2 14 w (.o2 3 i aU)) (.o2 4 i aU)) aj)) (by rw[e]; omega) ?_ ?_ λ_ _=>rfl,e,fg]
 .rw[uZ,cG,<- a]
  rfl
 .intro q h0 _
  obtain⟨q,rfl⟩:∃p,q=p+1:=⟨q - 1,by omega⟩
  rw[uZ,aB,m6,a]
  rfl
theorem a8R {w r i:X} (hw:Wd (D w) 8) (h:0<=N i) (h2:N i < 512) (c:N (.f 2043 (.c (uZ w r i) (.c A4 .n)))=0):D (.f 2045 (.c w (.c (.f 2042 (.c (uZ w r i) (.c A4 .n))) (.c (.o2 0 i nH) .n))))=D (.f 2045 (.c w (.c r (.c i .n)))):=by
 have h1:N (.f 2043 (.c (uZ w r i) (.c A4 .n)))=tf (decide (wv (D (uZ w r i)) < wv PH)):=by rw[<- WE E]; exact congrFun (Vc E _ _) 0
 rw[h1,XI E hw h h2,WG,s9] at c
 rw[GX,GX]
 refine aD0 h rfl ?_
 rw[aue,WE,K1,Bo,XI E hw h h2,WG,Ba]
 have l:2*wv (D r) % Q5+wv (D w) / 2 ^ (N i).toNat % 2 < Q5+2:=by
  have:=gT (2*wv (D r)) (Gn Go.Sym.PG ahh)
  omega
 have l2:=ahh
 have l3:=Go.Sym.PG
 have l4:2 < dJ:=by decide+kernel
 generalize 2*wv (D r) % Q5+wv (D w) / 2 ^ (N i).toNat % 2=t at*
 generalize Q5=M at*
 by_cases g:t < dJ
 .rw[if_pos g] at c; cases c
 .rw[if_neg g,wi,show t+(M - dJ)=t - dJ+M by omega,Nat.add_mod_right,dE om]
theorem a8S {w r i:X} (hw:Wd (D w) 8) (h:0<=N i) (h2:N i < 512) (c:¬N (.f 2043 (.c (uZ w r i) (.c A4 .n)))=0):D (.f 2045 (.c w (.c (uZ w r i) (.c (.o2 0 i nH) .n))))=D (.f 2045 (.c w (.c r (.c i .n)))):=by
 have h1:N (.f 2043 (.c (uZ w r i) (.c A4 .n)))=tf (decide (wv (D (uZ w r i)) < wv PH)):=by rw[<- WE E]; exact congrFun (Vc E _ _) 0
 rw[h1,XI E hw h h2,WG,s9] at c
 rw[GX,GX]
 refine aD0 h rfl ?_
 rw[XI E hw h h2,Ba]
 split
 .rfl
 .rename_i g
  exact absurd (if_neg g) c
theorem ar1 {r i x j:X} (hi:0<=N i) (hj:N j=N i+1):D (.o3 0 r i (.o3 0 x aj (.o2 15 r j)))=kF (D r) (N i).toNat (N x):=by
 funext q
 rw[cE,Kw]
 unfold kF
 by_cases h:q=(N i).toNat
 .rw[if_neg om,if_pos om,if_pos h]
 .rw[if_neg h]
  by_cases h2:(q:Int) < N i
  .rw[if_pos h2]
  .rw[if_neg h2,if_neg om]
   show D r (q - (N i).toNat - 1+(N j).toNat)=_
   congr 1
   omega
theorem tmE {x c c':Int} {b o o':R} {p j:Nat} (hj:j < 4) (ho:o'=kF o (p+j) ((x*b j+c+o (p+j)) % 18446744073709551616)) (hc:c'=(x*b j+c+o (p+j)) / 18446744073709551616):gL x b p (4 - (j+1)) o' c'=gL x b p (4 - j) o c:=by
 have e:gL x b p (3 - j+1) o c=gL x b p (3 - j) (kF o (p+(3 - (3 - j))) ((x*b (3 - (3 - j))+c+o (p+(3 - (3 - j)))) % 18446744073709551616)) ((x*b (3 - (3 - j))+c+o (p+(3 - (3 - j)))) / 18446744073709551616):=a9W ..
 rw[show 3 - (3 - j)=j by omega,<- ho,<- hc] at e
 rw[show 4 - j=3 - j+1 by omega,e,show 4 - (j+1)=3 - j by omega]
theorem aPT {P c o:Int} (hP:0<=P/\P<=340282366920938463426481119284349108225) (hc:0<=c/\c<=18446744073709551615) (ho:0<=o/\o<=18446744073709551615):(o+(P % 18446744073709551616+c+0) % 18446744073709551616+0) % 18446744073709551616=(P+c+o) % 18446744073709551616/\((P / 18446744073709551616+tf (decide (18446744073709551616<=P % 18446744073709551616+c+0))) % 18446744073709551616+tf (decide (18446744073709551616<=o+(P % 18446744073709551616+c+0) % 18446744073709551616+0))) % 18446744073709551616=(P+c+o) / 18446744073709551616:=by
 rw[s9,s9]
 refine⟨by omega,?_⟩
 split <;>split <;>omega
theorem tmV {x b o c p j:X} (hx:0<=N x/\N x<=18446744073709551615) (hb:0<=N (.o2 14 b j)/\N (.o2 14 b j)<=18446744073709551615) (hc:0<=N c/\N c<=18446744073709551615) (ho:∀q,0<=D o q/\D o q<=18446744073709551615) (hp:0<=N p) (hj:0<=N j/\N j < 4):gL (N x) (D b) (N p).toNat (4 - N (.o2 0 j aj)).toNat (D (.o3 0 o (.o2 0 j p) (.o3 0 (.f 2052 (.c (.o2 14 o (.o2 0 j p)) (.c (.f 2052 (.c (.f 2031 (.c (.o2 2 x (.o2 14 b j)) .n)) (.c c (.c ae .n)))) (.c ae .n)))) aj (.o2 15 o (.o2 0 j (.o2 0 p aj)))))) (N (.o1 0 (.o2 0 (.o1 0 (.o2 0 (.f 2032 (.c (.o2 2 x (.o2 14 b j)) .n)) (.f 2053 (.c (.f 2031 (.c (.o2 2 x (.o2 14 b j)) .n)) (.c c (.c ae .n)))))) (.f 2053 (.c (.o2 14 o (.o2 0 j p)) (.c (.f 2052 (.c (.f 2031 (.c (.o2 2 x (.o2 14 b j)) .n)) (.c c (.c ae .n)))) (.c ae .n)))))))=gL (N x) (D b) (N p).toNat (4 - N j).toNat (D o) (N c):=by
 have m:=agM hx hb
 have k:=aPT m hc (ho ((N p).toNat+(N j).toNat))
 have ei:(N (.o2 0 j p)).toNat=(N p).toNat+(N j).toNat:=by rw[bB]; omega
 have eo:N (.o2 14 o (.o2 0 j p))=D o ((N p).toNat+(N j).toNat):=by rw[<- ei]; rfl
 rw[@bB _ E j,bl,show (4 - (N j+1)).toNat=4 - ((N j).toNat+1) by omega,show (4 - N j).toNat=4 - (N j).toNat by omega]
 refine tmE om ?_ ?_
 .rw[ar1 E (by rw[bB]; omega) (by simp only[bB,bl]; omega),ei,Vf,Vf,eo,yP,dH]
  congr 1
  exact k.1
 .rw[Bp,bB,Bp,bB,h32,ae0,ae0,Vf,eo,yP,dH,Lz.a6 om om]
  exact k.2
theorem tpV {a b o i:X} (ha:∀q,0<=D a q/\D a q<=18446744073709551615) (hb:∀q,0<=D b q/\D b q<=18446744073709551615) (ho:∀q,0<=D o q/\D o q<=18446744073709551615) (hi:0<=N i/\N i < 4) {j:X} (hj:N j=N i+5):D (.f 2054 (.c a (.c b (.c (.o3 0 (.f 2047 (.c (.o2 14 a i) (.c b (.c o (.c ae (.c i (.c ae .n))))))) (.o2 0 i bM) (.o3 0 (.f 2048 (.c (.o2 14 a i) (.c b (.c o (.c ae (.c i (.c ae .n))))))) aj (.o2 15 (.f 2047 (.c (.o2 14 a i) (.c b (.c o (.c ae (.c i (.c ae .n))))))) j))) (.c (.o2 0 i aj) .n)))))=D (.f 2054 (.c a (.c b (.c o (.c i .n))))):=by
 have t:=λn (hn:8<=n)=>X0 (x:=N (.o2 14 a i)) (b:=D b) (p:=(N i).toNat) (ha _) (λq _=>hb q) om hn 4 (D o) 0 om (λq _=>ho q) ⟨aP _,by decide⟩
 rw[Vg,Vg,ar1 E (by rw[bB,bl]; omega) (by rw[bB,bl]; omega),Vd,Ve]
 simp only[bl,bB,show (4 - (0:Int)).toNat=4 from rfl]
 rw[Lz.a6 (t 8 (fv 8)).2.1.1 (t 8 (fv 8)).2.1.2,Hz.sK λq=>(t (q+8) om).1 q om,show (4 - N i).toNat=(4 - (N i+1)).toNat+1 by omega,a9V]
 have e:3 - (4 - (N i+1)).toNat=(N i).toNat:=by omega
 rw[e,show (N i+4).toNat=(N i).toNat+4 by omega]
 rfl
end
def aiB:Sp:=lC SX [acg,xA] aMM
def aBg:Sp:={aiB with v:=tz (tJ (.f 2032 Nu)) aMN,l':=aiB.l'}
theorem a4q:ab aa 274 aiB:=aG (t:=[]) (lt:=[]) (m:=8) trivial trivial .lf kr
theorem a4r:ab aa 274 aBg:=aL a4q [((ao aqe),(ao (.f 2032 Nu))),((ao aqf),aMO)] _ _ (al (λE hF=>(uU (by
 have b0:=hF.b 0 rfl
 have b1:=hF.b 1 rfl
 obtain⟨x,hx⟩:=yk b0.1
 obtain⟨y,hy⟩:=yk b1.1
 simp only[h32,bB,dH,z32,a32,hx,hy,<- gm,<- uc,fg]
 have hb:x*y<=340282366920938463426481119284349108225:=An (J7 (show x<=18446744073709551615 by omega) (show y<=18446744073709551615 by omega)) dc
 rw[Lz.a6 om om]
 have:=ayO x y
 omega)))<|al (λE hF=>uU (by simp only[yP,Bp]))<|aN) kr
abbrev aqJ:Nat×Int×Int:=(3,0,18446744073709551615)
abbrev Jz(a:X):Bl:=⟨280,[kp a],false,0⟩
abbrev Nz:Nat×Bl:=(0,Jz (.v 0))
abbrev acz:Nat×Bl:=(1,Jz (.v 1))
abbrev acA:Nat×Bl:=(2,Jz (.v 2))
abbrev aqK:Bl:=Jz (.v 3)
abbrev acB:X:=j7 (.v 5)
abbrev aqL:X:=cN 3 4 aJe
abbrev acC:X:=kK acB 1 aqL
def HL:Lp:=⟨jv [Fo,fe,gi,aqJ,(4,0,18446744073709551615),(5,0,4),(6,0,4)] (bz cq 5),[(2,bS),(3,ji),(4,lF),(5,qG),(6,vO),(7,IS 4),(12,vO),(15,Fj)],4,[Nz,acz,acA,(3,aqK)],.exit 2,[(2,bS),(3,ji),(4,lF),(5,qG),(6,vO),(7,tn (.f 2048 acC)),(12,vO)],4,[Nz,acz,acA,(3,Jz (.f 2047 acC))],bz bM 6⟩
abbrev aNB:X:=bj (.o2 2 acB (pK (.v 6)))
abbrev aNC:X:=kK (.f 2031 aNB) 4 qz
abbrev aND:X:=dG (fZ 3 (kI 6 5)) (.f 2052 aNC) qz
abbrev aNE:X:=eZ 5 IV
abbrev aNF:X:=pD acB 1 (bZ (.v 3) (kI 6 5) (.f 2052 aND) aj (eN 3 (nJ M2))) (vP (vP (.f 2032 aNB) (.f 2053 aNC)) (.f 2053 aND)) aNE
abbrev aNG:X:=ao (.f 2048 acC)
abbrev aNH:X:=ck (.f 2047 acC)
abbrev aqM:X:=ck (.v 3)
theorem aYI:cr aa Tryz.f213.ntmps (aI 7 (loops (aC Tryz.f213))) HL HL.fa:=eX (t:=[(274,aO aBg),(275,aO ahu)]) (lt:=[]) (m:=8) (f:=213) (k:=7) ⟨(aQ a4r),(aQ azF),trivial⟩ trivial (λ_=>rfl) rfl (.tf (lA 6 bM) (.same (ao (.f 2048 aNF)) aNG (.same (ck (.f 2047 aNF)) aNH .lf)) (.same Ji aNG (.same aqM aNH .lf))) ⟨⟨λE hF=>(uU (by
 rw[Ve,Ve]
 exact congrArg (λt=>Lz.az 0 18446744073709551615 t.2) (tmV E (x:=.o2 14 (.v 0) (.v 5)) (b:=.v 1) (o:=.v 3) (hF.1.vb 0 _ _ rfl _) (hF.1.vb 1 _ _ rfl _) (hF.1.b 4 rfl) (hF.1.vb 3 _ _ rfl) (hF.1.b 5 rfl).1 ⟨(hF.1.b 6 rfl).1,hF.2⟩))),⟨λE hF=>(aq (λq _=>by
 rw[Vd,Vd]
 exact congrArg (λt=>Hz.gH t.1 q) (tmV E (x:=.o2 14 (.v 0) (.v 5)) (b:=.v 1) (o:=.v 3) (hF.1.vb 0 _ _ rfl _) (hF.1.vb 1 _ _ rfl _) (hF.1.b 4 rfl) (hF.1.vb 3 _ _ rfl) (hF.1.b 5 rfl).1 ⟨(hF.1.b 6 rfl).1,hF.2⟩)) _),trivial⟩⟩,⟨λE hF=>(uU (by
 have h:4<=N (.v 6):=hF.2
 have b:=hF.1.b 4 rfl
 rw[Ve,show (4 - N (.v 6)).toNat=0 by omega,aET,Lz.a6 b.1 b.2])),⟨λE hF=>(aq (λq _=>by
 have h:4<=N (.v 6):=hF.2
 have b:=hF.1.b 4 rfl
 rw[Vd,show (4 - N (.v 6)).toNat=0 by omega,aET,Hz.sK (r:=D (.v 3)) (hF.1.vb 3 _ _ rfl)]) _),trivial⟩⟩⟩ kr
theorem aYG (E:Env) (hF:ah HL.fa.fx):0<=N HL.μ:=by
 have h:=(hF.b 6 rfl).2
 show 0<=4 - N (.v 6)
 omega
theorem aYH:ct aa Tryz.f213.ntmps (aI 7 (loops (aC Tryz.f213))) HL:=aYI.all aYG
theorem aUf:cA aa ((213,7),aW HL):=dZ Tryz.func213 kr aYH
abbrev aqN:X:=.f 2054 (zF 0 1 3 Jr)
def HM:Lp:=⟨cI [Fo,fe,gi,aqJ,(5,0,4)],[(2,bS),(3,ji),(4,lF),(5,qG),(12,vO)],4,[Nz,acz,acA,(3,aqK)],.exit 0,aqj,4,[Nz,acz,acA,(3,Jz aqN)],bz bM 5⟩
abbrev aqO:X:=kK acB 1 (xF 3 ae 5 qz)
abbrev FJ(a b c d e:X):X:=bZ a b c aj (.o2 15 d e)
theorem aY8:cr aa Tryz.f213.ntmps (aI 3 (loops (aC Tryz.f213))) HM HM.fa:=eX (t:=[]) (lt:=[((213,7),aW HL)]) (m:=8) (f:=213) (k:=3) trivial ⟨aUf,trivial⟩ (λ_=>rfl) rfl (.tf (lA 5 bM) (.ge (bz cq 5) (.same (ck (.f 2054 (cN 0 1 (di (FJ (.f 2047 aqO) (bQ 5 bM) (.f 2048 aqO) (.f 2047 aqO) (bQ 5 g7)) M2)))) (ck aqN) .lf)) (.same aqM (ck aqN) .lf)) ⟨⟨λE hF=>(by
 have h:N (.v 5) < 4:=hF.2
 rw[iY,bl]
 omega),⟨λE hF=>(aq (λq _=>congrFun (tpV E (a:=.v 0) (b:=.v 1) (o:=.v 3) (hF.1.vb 0 _ _ rfl) (hF.1.vb 1 _ _ rfl) (hF.1.vb 3 _ _ rfl) ⟨(hF.1.b 5 rfl).1,hF.2⟩ (by rw[bB,bl])) q) _),trivial⟩⟩,⟨λE hF=>(aq (λq _=>by
 have h:4<=N (.v 5):=hF.2
 rw[Vg,show (4 - N (.v 5)).toNat=0 by omega,a9U,Hz.sK (r:=D (.v 3)) (hF.1.vb 3 _ _ rfl)]) _),trivial⟩⟩ kr
theorem aY6 (E:Env) (hF:ah HM.fa.fx):0<=N HM.μ:=by
 have h:=(hF.b 5 rfl).2
 show 0<=4 - N (.v 5)
 omega
theorem aY7:ct aa Tryz.f213.ntmps (aI 3 (loops (aC Tryz.f213))) HM:=aY8.all aY6
theorem aUh:cA aa ((213,3),aW HM):=dZ Tryz.func213 kr aY7
abbrev aNI:X:=.f 2054 (cN 0 1 xQ)
def ajT:Sp:=g9 SX aqt [kp aNI]
def aCH:Sp:={ajT with v:=B7 (.f 2046 jJ),l':=ajT.l'}
theorem a6y:ab aa 213 ajT:=aG (t:=[]) (lt:=[((213,3),aW HM)]) (m:=8) trivial ⟨aUh,trivial⟩ .lf kr
theorem a6z:ab aa 213 aCH:=aL a6y [((ck aNI),(ck (.f 2046 jJ)))] _ _ (al (λE hF=>(aq (λq hq=>by
 have h0:Wd (D (.v 0)) 4:=λi _=>hF.vb 0 _ _ rfl i
 have h1:Wd (D (.v 1)) 4:=λi _=>hF.vb 1 _ _ rfl i
 have hq:(q:Int) < 8:=hq
 have b:=(XZ h0 h1 4 (fv 4)).1 q om
 rw[auf,Is,akX h0 h1 om,Vg]
 show Hz.gH (xf _ _ 4 λ_=>0) q=_
 rw[aES]
 exact Lz.a6 b.1 b.2) _))<|aN) kr
abbrev aNJ:X:=.f 2045 (cy 0 aco)
def HC:Lp:=⟨cI [Fo,(2,-1,511),aqJ,(9,0,255)],[(1,bS),(2,ji),(3,lF),(4,Jo)],3,[Nz,(1,acn),(2,aqK)],.exit 0,[(2,ji),(3,lF)],3,[Nz,(1,acn),(2,Jz aNJ)],kQ⟩
abbrev aqC:X:=.o2 3 (.v 2) aU
abbrev aqD:X:=.o2 4 (.v 2) aU
abbrev aqE:X:=r9 (.o2 6 (pM (.f 2044 Tg)) (zI (.o2 10 (j7 aqC) aqD))) (.o2 15 (.f 2044 Tg) aj)
abbrev aqF:X:=bj (cz (.i 6346243789798364141) (.i 1503914060200516822) ae apK ae)
abbrev aqG:X:=ck aNJ
theorem aXP:cr aa Tryz.f212.ntmps (aI 3 (loops (aC Tryz.f212))) HC HC.fa:=eX (t:=[(271,aO aiv),(214,aO ahz)]) (lt:=[]) (m:=8) (f:=212) (k:=3) ⟨(aQ aA7),(aQ azH),trivial⟩ trivial (λ_=>rfl) rfl (.tf acm (.ge aqC (.ge (Jv aqC) (.ge aqD (.ge (.o2 1 BZ aqD) (.tf (xC (.f 2043 (.c aqE aqF))) (.same (ck (.f 2045 (bL 0 (.f 2042 (.c aqE aqF)) Cl))) aqG .lf) (.same (ck (.f 2045 (bL 0 aqE Cl))) aqG .lf)))))) (.same aqM aqG .lf)) ⟨(HY (λE hF=>by
 have b:=(hF.1.b 2 rfl).2
 have h:0<=N (.v 2):=hF.2
 refine⟨?_,?_,?_,?_⟩
 .rw[uQ E 64 64 rfl h]
  omega
 .rw[iY,bl,uQ E 64 64 rfl h]
  omega
 .rw[uR E 64 64 rfl h]
  omega
 .rw[iY,bl,uR E 64 64 rfl h]
  omega) (⟨⟨λE hF=>(aq (λq _=>congrFun (a8R E (w:=.v 0) (λi _=>hF.1.1.vb 0 _ _ rfl i) hF.1.2 (by have:=(hF.1.1.b 2 rfl).2; omega) hF.2) q) _),trivial⟩,⟨λE hF=>(aq (λq _=>congrFun (a8S E (w:=.v 0) (λi _=>hF.1.1.vb 0 _ _ rfl i) hF.1.2 (by have:=(hF.1.1.b 2 rfl).2; omega) hF.2) q) _),trivial⟩⟩)),⟨λE hF=>(aq (λq hq=>by
 have h:N (.v 2) < 0:=hF.2
 have hq:(q:Int) < 8:=hq
 rw[GX,za,show (N (.v 2)+1).toNat=0 by omega,a8Q]
 exact (Yt (λi _=>hF.1.vb 3 _ _ rfl i) om).symm) _),trivial⟩⟩ kr
theorem aXN (E:Env) (hF:ah HC.fa.fx):0<=N HC.μ:=by
 have h:=(hF.b 2 rfl).1
 show 0<=N (.v 2)+1
 omega
theorem aXO:ct aa Tryz.f212.ntmps (aI 3 (loops (aC Tryz.f212))) HC:=aXP.all aXN
theorem aT7:cA aa ((212,3),aW HC):=dZ Tryz.func212 kr aXO
abbrev aqH:X:=di ae (.i 511)
def ajn:Sp:=g9 abB [abC] (z6 (.f 2049 (bj (.f 2045 (cy 0 aqH)))))
theorem aCc:ab aa 212 ajn:=aG (t:=[(273,aO pWb)]) (lt:=[((212,3),aW HC)]) (m:=8) ⟨(aQ a64),trivial⟩ ⟨aT7,trivial⟩ .lf kr
abbrev aNx:X:=.f 2049 (bj (.f 2045 (.c aqQ aqH)))
def ajm:Sp:=g9 Cn [Nq aU (.v 0)] (z6 aNx)
def ajl:Sp:={ajm with v:=z7 (.f 1126 fO),l':=ajm.l'}
theorem a5L:ab aa 134 ajm:=aG (t:=[(211,aO aBH),(212,aO ajn)]) (lt:=[]) (m:=8) ⟨(aQ a43),(aQ aCc),trivial⟩ trivial .lf kr
theorem aCb:ab aa 134 ajl:=aL a5L [((mY aNx),(mY (.f 1126 fO)))] _ _ (al (λE hF=>(aq (λq _=>congrFun (a8P E (.v 0)) q) _))<|aN) kr
abbrev aqI:Fa:=cI [oB,Cd,(2,0,255)]
abbrev aNy:V:=z7 (.v 2)
abbrev aNz:X:=.f 2049 (bj (.f 2045 (.c (.f 2044 (di (.f 2046 (di acE (.f 2040 (cy 1 acD)))) (.f 2040 (cy 2 acD)))) aqH)))
def aiF:Sp:=g9 aqI [x9,aMY,aNy] (z6 aNz)
def aBi:Sp:={aiF with v:=z7 (.f 1128 tE),l':=aiF.l'}
theorem a4v:ab aa 136 aiF:=aG (t:=[(214,aO ahz),(211,aO aiZ),(213,aO aCH),(212,aO ajn)]) (lt:=[]) (m:=8) ⟨(aQ azH),(aQ aBG),(aQ a6z),(aQ aCc),trivial⟩ trivial .lf kr
theorem a4w:ab aa 136 aBi:=aL a4v [((mY aNz),(mY (.f 1128 tE)))] _ _ (al (λE hF=>(aq (λq _=>congrFun (maD E (.v 0) (.v 1) (.v 2)) q) _))<|aN) kr
abbrev aOd:X:=rS (.f 2043 (.c acE aqF))
def ahU:Sp:=lC Cn [x9] (.c (.bx aOd))
def az0:Sp:={ahU with v:=.c (.bx (.f 1129 fO)),l':=ahU.l'}
theorem a2v:ab aa 302 ahU:=aG (t:=[(271,aO aiv),(211,aO aiZ)]) (lt:=[]) (m:=8) ⟨(aQ aA7),(aQ aBG),trivial⟩ trivial .lf kr
theorem a2w:ab aa 302 az0:=aL a2v [((ao aOd),(ao (.f 1129 fO)))] _ _ (al (λE hF=>uU (aQP E (.v 0)))<|aN) kr
abbrev acI:X:=.f 2021 jJ
abbrev Tt:X:=Ff (.v 1)
abbrev Tu:X:=z5 (.v 1)
abbrev acJ:X:=zI (.o2 10 (j7 Tt) Tu)
def ahD:Sp:=lC (nK [oB,(1,-1,255)] [.v 1] acI) [x9,IT] (gw acJ)
def pB1:Sp:={ahD with v:=gw aj,l':=ahD.l'}
theorem a18:ab aa 143 ahD:=dj (t:=[]) (lt:=[]) (m:=8) trivial trivial (.ge Tt (.ge (.o2 1 nG Tt) (.ge Tu (.ge (Jv Tu) .lf)))) (HY (λE hF=>by
 have b:=(hF.b 1 rfl).2
 have h:0<=N (.v 1):=hF.g mh
 refine⟨?_,?_,?_,?_⟩
 .rw[uQ E 8 8 rfl h]
  omega
 .rw[iY,bl,uQ E 8 8 rfl h]
  omega
 .rw[uR E 8 8 rfl h]
  omega
 .rw[iY,bl,uR E 8 8 rfl h]
  omega) (df rfl)) kr
theorem a19:ab aa 143 pB1:=aL a18 [((ao acJ),zV)] _ _ (al (λE hF=>(uU (by
 have b:=(hF.b 1 rfl).2
 have h:0<=N (.v 1):=hF.g mh
 rw[UD E (.v 0) (.v 1) (hF.vb 0 _ _ rfl) h om,sG E (.v 0) (.v 1) (hF.t (x:=acI) (b:=true) mh)]
 rfl)))<|aN) kr
def ahC:Sp:=lC (dT [oB,(1,-1,255)] [.v 1] [(acI,false)]) [x9,IT] (gw acJ)
def pB0:Sp:={ahC with v:=eJ,l':=ahC.l'}
theorem a16:ab aa 143 ahC:=dj (t:=[]) (lt:=[]) (m:=8) trivial trivial (.ge Tt (.ge (.o2 1 nG Tt) (.ge Tu (.ge (Jv Tu) .lf)))) (HY (λE hF=>by
 have b:=(hF.b 1 rfl).2
 have h:0<=N (.v 1):=hF.g mh
 refine⟨?_,?_,?_,?_⟩
 .rw[uQ E 8 8 rfl h]
  omega
 .rw[iY,bl,uQ E 8 8 rfl h]
  omega
 .rw[uR E 8 8 rfl h]
  omega
 .rw[iY,bl,uR E 8 8 rfl h]
  omega) (df rfl)) kr
abbrev FM:X:=ao ae
theorem a17:ab aa 143 pB0:=aL a16 [((ao acJ),FM)] _ _ (al (λE hF=>(uU (by
 have b:=(hF.b 1 rfl).2
 have h:0<=N (.v 1):=hF.g mh
 rw[UD E (.v 0) (.v 1) (hF.vb 0 _ _ rfl) h om,sG E (.v 0) (.v 1) (hF.t (x:=acI) (b:=false) mh)]
 rfl)))<|aN) kr
abbrev acK:Nat×Bl:=(0,⟨27,acq,false,0⟩)
abbrev Tv(a b c d e:ai):Bl:=⟨97,[a,b,c,d,e],false,0⟩
abbrev acL:Nat×Bl:=(1,Tv de Ns aqA aqB aqu)
abbrev bC:ai:=.c (.bool false)
abbrev acM:Bl:=Tv bC Tl Tl Tl Tl
abbrev aOe:Bl:=Tv de (cZ (.v 3)) (pQ (.v 3)) (pR (.v 3)) (qJ (.v 3))
abbrev JF:X:=.f 2025 aqk
def Hq:Lp:=⟨cI [oB,acb,(2,-1,255),aqi],aMU,4,[acK,acL,(2,acM),(3,aOe)],.exit 0,aqj,4,[acK,acL,(2,acM),(3,Tv de (cZ JF) (pQ JF) (pR JF) (qJ JF))],kQ⟩
def ahj:OT:=[(143,bG (aO pB1) (aO pB0)),(144,aO ai5)]
theorem asm:dB (aY aa) ahj:=⟨(cS (aQ a19) (aQ a17)),(aQ aBM),trivial⟩
abbrev aOf:X:=.f 2021 (cy 0 oH)
abbrev Tx:X:=.f 2020 Tg
abbrev aOg:X:=.c (.f 2020 (.c Tx vo)) Cl
theorem aWP:cr aa Tryz.f82.ntmps (aI 3 (loops (aC Tryz.f82))) Hq Hq.fa:=eX (t:=ahj) (lt:=[]) (m:=8) (f:=82) (k:=3) asm trivial (λ_=>rfl) rfl (.tf acm (.tf aOf (.same (.f 2025 (cN 0 1 aOg)) JF .lf) (.same (.f 2025 (tD 0 1 Tx Cl)) JF .lf)) (.same (.v 3) JF .lf)) ⟨⟨⟨λE hF=>ayK E hF.1.2 hF.2 (by rw[qc,qc]; rfl),trivial⟩,⟨λE hF=>ayK E hF.1.2 hF.2 (by rw[qc]; rfl),trivial⟩⟩,⟨λE hF=>(by
 have h:N (.v 2) < 0:=hF.2
 rw[U9,show (N (.v 2)+1).toNat=0 by omega,aZ6,o5 (r:=D (.v 3)) (hF.1.vb 3 _ _ rfl)]),trivial⟩⟩ kr
theorem aWN (E:Env) (hF:ah Hq.fa.fx):0<=N Hq.μ:=by
 have h:=(hF.b 2 rfl).1
 show 0<=N (.v 2)+1
 omega
theorem aWO:ct aa Tryz.f82.ntmps (aI 3 (loops (aC Tryz.f82))) Hq:=aWP.all aWN
theorem aTX:cA aa ((82,3),aW Hq):=dZ Tryz.func82 kr aWO
abbrev JG:Nat×Int×Int:=(4,0,255)
abbrev aOh:Nat×Bl:=(2,Nx bW (.v 4))
abbrev Ty:X:=.f 2020 (eZ 1 se)
abbrev aOi:Nat×Bl:=(5,⟨397,[de,cZ sf,aNu,aNv,aNw,de,Ns,aqA,aqB,aqu,de,cZ se,aNl,aNm,aNn,de,cZ Ty,pQ Ty,pR Ty,qJ Ty],false,0⟩)
abbrev Cr:X:=.f 2026 (zF 0 1 4 aco)
def HN:Lp:=⟨cI [oB,acb,(2,-1,255),aqi,JG],[BT,(4,ji),(5,lF),(6,qG),(7,tt 4),(8,tt 5),(9,tt 6),(10,Jo)],7,[acK,acL,aOh,(3,acM),(4,⟨97,aqx,false,0⟩),aOi,(6,aOe)],.exit 0,[(6,qG),(9,tt 6)],7,[acK,acL,aOh,(3,acM),(4,⟨97,aqx,false,0⟩),aOi,(6,Tv de (cZ Cr) (pQ Cr) (pR Cr) (qJ Cr))],kQ⟩
abbrev aOj:X:=.f 2021 (cy 4 oH)
theorem aZp:cr aa Tryz.f303.ntmps (aI 5 (loops (aC Tryz.f303))) HN HN.fa:=eX (t:=ahj) (lt:=[]) (m:=8) (f:=303) (k:=5) asm trivial (λ_=>rfl) rfl (.tf acm (.tf aOf (.tf aOj (.same (.f 2026 (rZ 0 1 4 (.f 2020 (di Tx Ty)) Cl)) Cr .lf) (.same (.f 2026 (zF 0 1 4 aOg)) Cr .lf)) (.tf aOj (.same (.f 2026 (rZ 0 1 4 (.f 2020 (di Tx se)) Cl)) Cr .lf) (.same (.f 2026 (rZ 0 1 4 Tx Cl)) Cr .lf))) (.same (.v 3) Cr .lf)) ⟨⟨⟨⟨λE hF=>Yc E hF.1.1.2 hF.1.2 hF.2 (by rw[qc,qc,qc,GW]; rfl),trivial⟩,⟨λE hF=>Yc E hF.1.1.2 hF.1.2 hF.2 (by rw[qc,qc]; rfl),trivial⟩⟩,⟨⟨λE hF=>Yc E hF.1.1.2 hF.1.2 hF.2 (by rw[qc,qc,GW]; rfl),trivial⟩,⟨λE hF=>Yc E hF.1.1.2 hF.1.2 hF.2 (by rw[qc]; rfl),trivial⟩⟩⟩,⟨λE hF=>(by
 have h:N (.v 2) < 0:=hF.2
 rw[Va,show (N (.v 2)+1).toNat=0 by omega,a_i,o5 (r:=D (.v 3)) (hF.1.vb 3 _ _ rfl)]),trivial⟩⟩ kr
theorem aZn (E:Env) (hF:ah HN.fa.fx):0<=N HN.μ:=by
 have h:=(hF.b 2 rfl).1
 show 0<=N (.v 2)+1
 omega
theorem aZo:ct aa Tryz.f303.ntmps (aI 5 (loops (aC Tryz.f303))) HN:=aZp.all aZn
theorem aUi:cA aa ((303,5),aW HN):=dZ Tryz.func303 kr aZo
abbrev Tz:X:=.f 2025 (bL 0 se (di sf dV))
def ahF:Sp:=g9 Cn [x9] [de,cZ Tz,pQ Tz,pR Tz,qJ Tz]
abbrev Cs:X:=.f 1120 fO
abbrev aOk:V:=.agg [de,cZ Cs,pQ Cs,pR Cs,qJ Cs]
def ahE:Sp:={ahF with v:=aOk,l':=ahF.l'}
theorem a2a:ab aa 37 ahF:=aG (t:=[(141,aO aka),(83,aO ahG)]) (lt:=[((82,3),aW Hq)]) (m:=8) ⟨(aQ aC7),(aQ azK),trivial⟩ ⟨aTX,trivial⟩ .lf kr
theorem azL:ab aa 37 ahE:=aL a2a [(Tz,Cs)] _ _ (al (λE hF=>aP4 E (.v 0))<|aN) kr
abbrev aOl:X:=bj (.f 2011 (bj (.o2 15 Cs sd)))
abbrev aN0:X:=rS (zI (pM (x8 (Jw Cs aOl))))
abbrev aqT:X:=x8 (Jw (.o2 15 Cs g7) aOl)
abbrev aN1:X:=.o3 1 aN0 (bZ aqT nG (.o2 6 (.o2 14 aqT nG) ef) aj ae) aqT
def aia:Sp:=g9 Cn [aOk] (z6 aN1)
def ah9:Sp:={aia with v:=z7 (.f 1121 fO),l':=aia.l'}
def ahk:OT:=[(145,aO A6),(147,aO WZ),(85,aO PN)]
theorem asn:dB (aY aa) ahk:=⟨(aQ DQ),(aQ aiq),(aQ WN),trivial⟩
theorem a24:ab aa 38 aia:=aG (t:=ahk) (lt:=[]) (m:=8) asn trivial (.tf aN0 .lf .lf) kr
theorem aAb:ab aa 38 ah9:=aL a24 [((mY aN1),(mY (.f 1121 fO)))] _ _ (al (λE hF=>(aq (λq hq=>by
 have hq:(q:Int) < 32:=hq
 have h:=atU E (a:=Cs) (by rw[at7,Cy.aeg]; exact asv (PW.mul _ .base)) (show q < 32 by omega)
 exact h.trans (congrFun ((aR6 E _).trans (Cy.UB _)) q).symm) _))<|aN) kr
abbrev Cq:X:=.f 1125 tE
abbrev aN2:V:=.agg [de,cZ Cq,pQ Cq,pR Cq,qJ Cq]
abbrev aN3:X:=bj (.f 2011 (bj (.o2 15 Cq sd)))
abbrev aN4:X:=rS (zI (pM (x8 (Jw Cq aN3))))
abbrev aqU:X:=x8 (Jw (.o2 15 Cq g7) aN3)
abbrev aN5:X:=.o3 1 aN4 (bZ aqU nG (.o2 6 (.o2 14 aqU nG) ef) aj ae) aqU
def aib:Sp:=g9 aqI [aN2] (z6 aN5)
def aAc:Sp:={aib with v:=z7 (.f 1127 tE),l':=aib.l'}
theorem a25:ab aa 38 aib:=aG (t:=ahk) (lt:=[]) (m:=8) asn trivial (.tf aN4 .lf .lf) kr
theorem a26:ab aa 38 aAc:=aL a25 [((mY aN5),(mY (.f 1127 tE)))] _ _ (al (λE hF=>(aq (λq hq=>by
 have hq:(q:Int) < 32:=hq
 have h:=atU E (a:=Cq) (by rw[at8,Cy.ak7]; exact asv (PW.two _ _ (PW.neg (PW.dec _)))) (show q < 32 by omega)
 exact h.trans (congrFun ((aR9 E _ _ _).trans (Cy.ak6 _ _ _)) q).symm) _))<|aN) kr
abbrev FK:X:=.f 1123 fO
abbrev aN6:ai:=pQ FK
abbrev aN7:ai:=pR FK
abbrev aqV:X:=.o2 15 FK vL
abbrev aN8:List ai:=[de,cZ FK,aN6,aN7,cZ aqV]
abbrev aN9:X:=Ny ae FK
abbrev aOa:X:=Ny ae aqV
def aiW:Sp:=g9 Cn [.agg aN8] [de,cZ aN9,aN6,aN7,cZ aOa]
abbrev FL:X:=.f 1122 fO
def aBr:Sp:={aiW with v:=.agg [de,cZ FL,pQ FL,pR FL,qJ FL],l':=aiW.l'}
theorem a4H:ab aa 304 aiW:=aG (t:=[(215,aO Lr)]) (lt:=[]) (m:=8) ⟨(aQ Qc),trivial⟩ trivial .lf kr
abbrev aOb:X:=sg FK g7
abbrev aOc:X:=sg FK sd
theorem a4I:ab aa 304 aBr:=aL a4H [((dY aN9),(dY FL)),(aOb,(sg FL g7)),(aOc,(sg FL sd)),((dY aOa),(sg FL vL))] _ _ (al (λE hF=>(aq (λq hq=>by
 have hq:(q:Int) < 5:=hq
 rw[nh,ON,Dm]
 unfold mL
 exact (D1 (show q < 5 by omega)).symm) _))<|al (λE hF=>(aq (λq hq=>by
 have hq:(q:Int) < 5:=hq
 rw[m6,m6,ON,Dm]
 unfold mL
 exact (D4 (b:=sh (iy (bv (D (.v 0)))) 5) (show q < 5 by omega)).symm) _))<|al (λE hF=>(aq (λq hq=>by
 have hq:(q:Int) < 5:=hq
 rw[m6,m6,ON,Dm]
 unfold mL
 exact (D2 (c:=sh (iy (bv (D (.v 0)))) 10) (show q < 5 by omega)).symm) _))<|al (λE hF=>(aq (λq hq=>by
 have hq:(q:Int) < 5:=hq
 rw[nh,m6,pW,ON,Dm]
 unfold mL
 exact (D3 (show q < 5 by omega)).symm) _))<|aN) kr
abbrev To:X:=.f 1122 vo
abbrev Tp:X:=.f 2026 (bL 0 To (j8 sf dV))
def ajZ:Sp:=g9 aqI [x9,.agg [de,cZ To,pQ To,pR To,qJ To],aNy] [de,cZ Tp,pQ Tp,pR Tp,qJ Tp]
def aCM:Sp:={ajZ with v:=aN2,l':=ajZ.l'}
theorem a6R:ab aa 303 ajZ:=aG (t:=[(144,aO ai5),(141,aO aka),(83,aO ahG)]) (lt:=[((303,5),aW HN)]) (m:=8) ⟨(aQ aBM),(aQ aC7),(aQ azK),trivial⟩ ⟨aUi,trivial⟩ .lf kr
theorem a6S:ab aa 303 aCM:=aL a6R [(Tp,Cq)] _ _ (al (λE hF=>a_f E (.v 0) (.v 1) (.v 2))<|aN) kr
abbrev Tq:X:=.f 1124 fO
abbrev acG:X:=.o1 8 (xC (.o2 5 aqh ef))
abbrev acH:X:=bj Tf
abbrev Ts:X:=.f 2014 acH
abbrev aqW:X:=Ny ae Ts
abbrev aNW:X:=.o3 1 acG (Jw aqW acH) (Jw Ts acH)
def ah5:Sp:=lC (nK [oB] [] Tq) [x9] (mj [de,cZ (.o3 1 acG aqW Ts),cZ Tf,acx,cZ aNW])
def az8:Sp:={ah5 with v:=mj aN8,l':=ah5.l'}
abbrev aNX:X:=bZ (.v 0) nG (.o2 8 aqh ef) aj ae
theorem a2Y:ab aa 301 ah5:=dj (t:=[(145,aO A6),(85,aO PN),(215,aO Lr),(276,aO aAu),(148,aO ajp)]) (lt:=[]) (m:=8) ⟨(aQ DQ),(aQ WN),(aQ Qc),(aQ a3t),(aQ aCd),trivial⟩ trivial (.is (.f 2015 acH) true (.is (Ju (x8 (.f 2000 (bj aNX))) aNX) true (.tf acG (.is (Ju (x8 Ts) Tk) false .lf) .lf))) ⟨λE hF=>aRk E (hF.t (x:=Tq) (b:=true) mh),⟨λE hF=>aRl E (hF.t (x:=Tq) (b:=true) mh) (hF.vb 0 _ _ rfl),⟨⟨λE hF=>aRm E (hF.1.t (x:=Tq) (b:=true) mh) (hF.1.vb 0 _ _ rfl) (a0K E hF.2),trivial⟩,trivial⟩⟩⟩ kr
theorem a2Z:ab aa 301 az8:=aL a2Y [((dY (.o3 1 acG aqW Ts)),(dY FK)),((dY Tf),aOb),(acy,aOc),((dY aNW),(dY aqV))] _ _ (al (λE hF=>(aq (λq hq=>aRn E (a:=.v 0) (hF.vb 0 _ _ rfl) (by have hq:(q:Int) < 5:=hq; omega)) _))<|al (λE hF=>(aq (λq hq=>aRo E (by have hq:(q:Int) < 5:=hq; omega)) _))<|al (λE hF=>(aq (λq hq=>aRp E (by have hq:(q:Int) < 5:=hq; omega)) _))<|al (λE hF=>(aq (λq hq=>aRq E (a:=.v 0) (hF.vb 0 _ _ rfl) (by have hq:(q:Int) < 5:=hq; omega)) _))<|aN) kr
end
end Go.Proofs.Y
namespace Go.Proofs.Y
open Go Go.Z
section
open Hz
theorem aRc (s m:R):O2 15 (lS s m) (kR 32)=Cy.wJ (yE (lS s m) (qU s) m) (LN s) (p8 s m)/\∀q:Nat,q < 32->lS s m q=Cy.oc (p8 s m) q:=by
 have a:∀q:Nat,q < 32->lS s m q=Cy.oc (p8 s m) q:=λq hq=>by
  show (if (q:Int) < 32 then Bj [p8 s m] q else _)=_
  rw[if_pos om]; rfl
 have b:O3 0 (Cy.oc (p8 s m)) (kR 32)=O3 0 (lS s m) (kR 32):=by
  funext c q
  show (if (q:Int) < 32 then _ else _)=(if (q:Int) < 32 then _ else _)
  by_cases h:(q:Int) < 32
  .rw[if_pos h,if_pos h,a q om]
  .rw[if_neg h,if_neg h]
 have e:yE (Cy.oc (p8 s m)) (qU s) m=yE (lS s m) (qU s) m:=by unfold yE; rw[b]
 refine⟨?_,a⟩
 funext q
 show lS s m (q+32)=_
 rw[<- e]
 show (if ((q+32:Nat):Int) < 32 then Bj [p8 s m] (q+32) else QZ [yE (Bj [p8 s m]) (qU s) m,LN s,p8 s m] (q+32 - 32))=_
 rw[if_neg om,show q+32 - 32=q by omega]
 rfl
theorem aRb (s m:R):US (qU s) m (lS s m) 0=1:=by
 obtain⟨h1,h2⟩:=aRc s m
 obtain⟨g1,g2,g3⟩:=Cy.aEp (LN s) (yE (lS s m) (qU s) m) (p8 s m)
 have e1:Yg [O2 15 (lS s m) (kR 32)]=Cy.cB true:=by rw[h1]; exact g2
 have e2:Yf [yE (lS s m) (qU s) m,qU s,O2 15 (lS s m) (kR 32)]=Cy.oc (p8 s m):=by rw[h1]; exact g3
 show (if O1 8 (Yg [O2 15 (lS s m) (kR 32)]) 0=0 then O3 2 (Yf [yE (lS s m) (qU s) m,qU s,O2 15 (lS s m) (kR 32)]) (lS s m) (kR 32) 0 else kR 0 0)=_
 rw[e1,e2,if_pos (show O1 8 (Cy.cB true) 0=0 from rfl)]
 exact (congrArg tf (decide_eq_true (p:=∀i:Nat,i < (32:Int).toNat->Cy.oc (p8 s m) i=lS s m i) λi hi=>(h2 i hi).symm)).trans rfl
theorem aeC (E:Env) (s:X):N (.f 1124 (.c (.f 1131 (.c s .n)) .n))=1:=congrFun (Cy.aEp (LN (D s)) (λ_=>0) (λ_=>0)).1 0
theorem OA (E:Env) (s m:X):N (.f 1132 (.c (.f 1131 (.c s .n)) (.c m (.c (.f 1130 (.c s (.c m .n))) .n))))=1:=aRb (D s) (D m)
abbrev acF:X:=kt (mY (.v 0)) acD
abbrev aNY:X:=bZ (.o2 8 (pM acF) jh) aj (.o2 15 acF aj) Nw (lD (.o2 6 (.o2 8 (.o2 14 acF nG) ef) aU))
abbrev aqR:X:=.f 1121 (bj aNY)
def aje:Sp:=g9 Cn [x9] (z6 aqR)
def W4:Sp:={aje with v:=z7 (.f 1131 fO),l':=aje.l'}
theorem a5x:ab aa 9 aje:=aG (t:=[(63,aO uW),(64,aO wX),(52,aO rp),(37,aO ahE),(38,aO ah9)]) (lt:=[]) (m:=8) ⟨(aQ wV),(aQ y6),(aQ sY),(aQ azL),(aQ aAb),trivial⟩ trivial .lf kr
theorem ajf:ab aa 9 W4:=aL a5x [((mY aqR),(mY (.f 1131 fO)))] _ _ (al (λE hF=>(aq (λq _=>congrFun kr q) _))<|aN) kr
abbrev Tn:gj:=.k aH
abbrev aqS:C:=.sl 0 0 ae aH Tn
abbrev aNZ:V:=Nq aU (.v 1)
abbrev si:X:=.i 111
abbrev JE:X:=.i 99
abbrev acP:List (Nat×Bl):=[z8 0 aH (cz (.i 98) si si (.i 116) (cz (.i 106) (.i 97) JE (.i 107) ae))]
abbrev Cv:X:=.i 105
abbrev ND:X:=.i 69
abbrev NF:X:=.i 100
abbrev NG:X:=.i 110
abbrev NH:X:=.i 115
abbrev aq1:X:=kP (.v 1)
abbrev tP(a b c:X):X:=bZ a bA b aj c
abbrev NI(a b:X):X:=.f 1015 (di a b)
abbrev aq2:X:=bj (.f 1126 (bj (NI (cz (.i 83) Cv (.i 103) ND (bZ NF aj JB aj (tP JC jw (oW JD bW NG si bW ND NF JB (tP JC jw (cz JD bW JE si (tP (.i 108) Cv (oW NH Cv si NG NH aj aH (.i 98) (tP si (.i 116) (cz (.i 106) (.i 97) JE (.i 107) (.o3 0 (.o2 15 acF bW) bW aq1))))))))))) (.i 138))))
abbrev aOw:X:=.o3 0 (.f 1121 aq2) bW (.f 1128 (dG (.f 1126 (bj (NI (cz (.i 83) Cv (.i 103) ND (bZ NF aj JB aj (tP JC jw (oW JD bW NG si bW ND NF JB (tP JC jw (cz JD bW JE si (tP (.i 108) Cv (oW NH Cv si NG NH aj aH (.i 98) (tP si (.i 116) (cz (.i 106) (.i 97) JE (.i 107) (bZ (.f 1121 aq2) bW aqR bW aq1))))))))))) (.i 170)))) aNY aq2))
def ajE:Sp:=⟨cI [oB,Cd],[x9,.c aqS,aNZ],1,acP,vz (qH aU aOw) oM,1,acP⟩
def aCs:Sp:={ajE with v:=vz (qH aU (.f 1130 jJ)) oM,l':=ajE.l'}
theorem a55:ab aa 69 ajE:=aG (t:=[(63,aO uW),(64,aO wX),(52,aO rp),(37,aO ahE),(38,aO ah9),(134,aO ajl),(136,aO aBi)]) (lt:=[]) (m:=8) ⟨(aQ wV),(aQ y6),(aQ sY),(aQ azL),(aQ aAb),(aQ aCb),(aQ a4w),trivial⟩ trivial .lf kr
theorem a56:ab aa 69 aCs:=aL a55 [((kP aOw),(kP (.f 1130 jJ)))] _ _ (al (λE hF=>(aq (λq _=>congrFun kr q) _))<|aN) kr
abbrev aq3:X:=bj (eN 2 bW)
abbrev oY(a:Nat)(b c d e:X):X:=bZ (.v a) b c d e
abbrev aOx:X:=pz (.o1 8 (.f 1129 aq3)) (Ju (.f 1127 (kK (.f 1126 (bj (NI (cz (.i 83) Cv (.i 103) ND (bZ NF aj JB aj (tP JC jw (oW JD bW NG si bW ND NF JB (tP JC jw (cz JD bW JE si (tP (.i 108) Cv (oW NH Cv si NG NH aj aH (.i 98) (tP si (.i 116) (cz (.i 106) (.i 97) JE (.i 107) (oY 2 bW (.v 0) bW aq1))))))))))) (.i 170)))) 0 aq3)) (.v 2))
def aj4:Sp:=⟨nK [oB,Cd,(2,0,255)] [] Tq,[x9,.c aqS,aNZ,Nq aU (.v 2)],1,acP,.c (.bx aOx),1,acP⟩
def aj3:Sp:={aj4 with v:=.c (.bx (.f 1132 tE)),l':=aj4.l'}
theorem a6Z:ab aa 252 aj4:=aG (t:=[(63,aO uW),(64,aO wX),(52,aO rp),(38,aO aAc),(301,aO az8),(304,aO aBr),(303,aO aCM),(134,aO ajl),(302,aO az0)]) (lt:=[]) (m:=8) ⟨(aQ wV),(aQ y6),(aQ sY),(aQ a26),(aQ a2Z),(aQ a4I),(aQ a6S),(aQ aCb),(aQ a2w),trivial⟩ trivial (.tf (.o1 8 (.f 1129 aq3)) .lf .lf) kr
theorem aCW:ab aa 252 aj3:=aL a6Z [((ao aOx),(ao (.f 1132 tE)))] _ _ (al (λE hF=>kr)<|aN) kr
def ay:X:=(.o3 0 (.o1 3 (.o2 10 (.v 1) (.i 0))) (.i 1) (.o3 0 (.o1 3 (.o2 10 (.v 1) (.i 8))) (.i 1) (.o3 0 (.o1 3 (.o2 10 (.v 1) (.i 16))) (.i 1) (.o3 0 (.o1 3 (.o2 10 (.v 1) (.i 24))) (.i 1) (.o3 0 (.o1 3 (.o2 10 (.v 1) (.i 32))) (.i 1) (.o3 0 (.o1 3 (.o2 10 (.v 1) (.i 40))) (.i 1) (.o3 0 (.o1 3 (.o2 10 (.v 1) (.i 48))) (.i 1) (.o3 0 (.o2 10 (.v 1) (.i 56)) (.i 1) (.i 0)))))))))
def Q4:X:=(.o2 6 (.o2 6 (.o2 6 (.o2 6 (.o2 6 (.o2 6 (.o2 6 (.o2 6 (.i 0) (.o2 14 (.v 3) (.v 4))) (.o2 2 (.o2 14 (.v 3) (.o2 0 (.v 4) (.i 1))) (.i 256))) (.o2 2 (.o2 14 (.v 3) (.o2 0 (.v 4) (.i 2))) (.i 65536))) (.o2 2 (.o2 14 (.v 3) (.o2 0 (.v 4) (.i 3))) (.i 16777216))) (.o2 2 (.o2 14 (.v 3) (.o2 0 (.v 4) (.i 4))) (.i 4294967296))) (.o2 2 (.o2 14 (.v 3) (.o2 0 (.v 4) (.i 5))) (.i 1099511627776))) (.o2 2 (.o2 14 (.v 3) (.o2 0 (.v 4) (.i 6))) (.i 281474976710656))) (.o2 2 (.o2 14 (.v 3) (.o2 0 (.v 4) (.i 7))) (.i 72057594037927936)))
theorem fW (E:Env) (x:X):D (.f 1031 (.c x .n))=G7 (N x):=rfl
theorem U7 (E:Env) (x:X):N (.f 1030 (.c x .n))=Iy (D x):=rfl
abbrev my:X:=.f 1031 vo
theorem avl {E:Env} {q:Nat} (h:q < 8) (h0:0<=N (.v 1)) (h1:N (.v 1)<=18446744073709551615):D ay q=D my q:=by
 rw[fW]
 have:q=0\/q=1\/q=2\/q=3\/q=4\/q=5\/q=6\/q=7:=by omega
 rcases this with rfl | rfl | rfl | rfl | rfl | rfl | rfl | rfl
 .unfold ay; rw[aR,if_pos dc]; exact qY E _ 0 h0
 .unfold ay; rw[aR,if_neg dc,aR,if_pos dc]; exact qY E _ 8 h0
 .unfold ay; rw[aR,if_neg dc,aR,if_neg dc,aR,if_pos dc]; exact qY E _ 16 h0
 .unfold ay; rw[aR,if_neg dc,aR,if_neg dc,aR,if_neg dc,aR,if_pos dc]; exact qY E _ 24 h0
 .unfold ay; rw[aR,if_neg dc,aR,if_neg dc,aR,if_neg dc,aR,if_neg dc,aR,if_pos dc]; exact qY E _ 32 h0
 .unfold ay; rw[aR,if_neg dc,aR,if_neg dc,aR,if_neg dc,aR,if_neg dc,aR,if_neg dc,aR,if_pos dc]; exact qY E _ 40 h0
 .unfold ay; rw[aR,if_neg dc,aR,if_neg dc,aR,if_neg dc,aR,if_neg dc,aR,if_neg dc,aR,if_neg dc,aR,if_pos dc]; exact qY E _ 48 h0
 .have e0:N (nI 1 Fs)=N (.v 1) / ((2 ^ 56:Nat):Int):=@uk _ E (.v 1) 56 h0
  unfold ay; rw[aR,if_neg dc,aR,if_neg dc,aR,if_neg dc,aR,if_neg dc,aR,if_neg dc,aR,if_neg dc,aR,if_neg dc,aR,if_pos dc,e0]
  show N (.v 1) / ((2 ^ 56:Nat):Int)=N (.v 1) / 2 ^ 56 % 256
  have e1:((2 ^ 56:Nat):Int)=72057594037927936:=by decide
  have e2:(2:Int) ^ 56=72057594037927936:=by decide
  rw[e1,e2]
  omega
theorem Yr (E:Env) (r:X):N (.f 1030 (.c (.o3 0 r aH ae) .n))=N (.f 1030 (.c r .n)):=by
 rw[U7,U7]
 rfl
theorem a1S {a b:Nat} {k:Nat} (ha:a < 2 ^ k):a ||| b*2 ^ k=a+b*2 ^ k:=by
 rw[n9,Nat.or_comm,<- Ur ha,Nat.add_comm]
theorem pj {E:Env} {x c:X} {k:Nat} {m a b:Int} (hm:m=((2 ^ k:Nat):Int)) (hx:N x=a) (hc:N c=b) (ha:0<=a) (hl:a < m) (hb:0<=b):N (.o2 6 x (.o2 2 c (.i m)))=a+b*m:=by
 subst hm
 show ((((N x).toNat ||| (N c*((2 ^ k:Nat):Int)).toNat:Nat)):Int)=_
 rw[hx,hc]
 obtain⟨n,rfl⟩:=yk ha
 obtain⟨p,rfl⟩:=yk hb
 have h1:n < 2 ^ k:=by omega
 rw[show ((p:Int)*((2 ^ k:Nat):Int)).toNat=p*2 ^ k by rw[<- gm]; rfl,fg,a1S h1,uc,gm]
abbrev acQ:X:=fZ 3 (.v 4)
theorem aln {E:Env} (h3:∀q,0<=D (.v 3) q/\D (.v 3) q<=255) (h4:0<=N (.v 4)):N Q4=N (.f 1030 (bj qF)):=by
 rw[U7]
 unfold Iy
 have c:∀k:Nat,D qF k=D (.v 3) (k+(N (.v 4)).toNat):=λk=>rfl
 have c0:N acQ=D qF 0:=by rw[c,Nat.zero_add]; rfl
 have cs:∀k:Nat,N (.o2 14 (.v 3) (.o2 0 (.v 4) (.i (k:Int))))=D qF k:=λk=>by
  rw[c]
  show D (.v 3) (N (.v 4)+(k:Int)).toNat=_
  congr 1
  omega
 have b:∀k:Nat,0<=D qF k/\D qF k<=255:=λk=>by rw[c]; exact h3 _
 generalize D qF=r at*
 have b0:=b 0; have b1:=b 1; have b2:=b 2; have b3:=b 3; have b4:=b 4; have b5:=b 5; have b6:=b 6; have b7:=b 7
 have s0:N (.o2 6 ae acQ)=r 0:=by
  show ((((0:Int).toNat ||| (N acQ).toNat:Nat)):Int)=_
  rw[c0,show (0:Int).toNat=0 from rfl,Nat.zero_or]
  omega
 have s1:=pj (k:=8) (m:=256) dc s0 (cs 1) om om b1.1
 have s2:=pj (k:=16) (m:=65536) dc s1 (cs 2) om om b2.1
 have s3:=pj (k:=24) (m:=16777216) dc s2 (cs 3) om om b3.1
 have s4:=pj (k:=32) (m:=4294967296) dc s3 (cs 4) om om b4.1
 have s5:=pj (k:=40) (m:=1099511627776) dc s4 (cs 5) om om b5.1
 have s6:=pj (k:=48) (m:=281474976710656) dc s5 (cs 6) om om b6.1
 have s7:=pj (k:=56) (m:=72057594037927936) dc s6 (cs 7) om om b7.1
 unfold Q4
 refine (show _=_ from s7).trans ?_
 rw[Lz.a6] <;>omega
abbrev aOy:Sp:=⟨cI [fe],[xA],0,[],S3,1,[cj 0 aH ay]⟩
def aBB:Sp:=aOy
abbrev aOz:List (Nat×Bl):=[cj 0 aH my]
def y4:Sp:={aBB with v:=S3,l':=aOz}
theorem a4U:ab aa 177 aBB:=aG (t:=[]) (lt:=[]) (m:=8) trivial trivial .lf kr
abbrev aq4:X:=ck my
theorem A7:ab aa 177 y4:=aL a4U [((ck ay),aq4)] _ _ (al (λE hF=>(aq (λq hq=>avl (by have h:(q:Int) < 8:=hq; omega) (hF.b 1 rfl).1 (hF.b 1 rfl).2) _))<|aN) kr
abbrev aq5:Fa:=jv [lL,r6,(5,8,1048576),tF] Nl
abbrev acR:List V:=[tA 0 (.v 4) (.v 5) .a]
abbrev acS:List (Nat×Bl):=[vQ 0 S4]
abbrev aOA:Sp:=⟨aq5,acR,1,acS,tn Q4,1,acS⟩
def aCQ:Sp:=aOA
abbrev aq6:X:=bj (ck qF)
abbrev aq7:V:=tn (.f 1030 aq6)
def aj2:Sp:={aCQ with v:=aq7,l':=acS}
theorem a6U:ab aa 282 aCQ:=aG (t:=[]) (lt:=[]) (m:=8) trivial trivial .lf kr
abbrev aq8:X:=ao Q4
abbrev aqX:X:=ao (.f 1030 aq6)
theorem aCR:ab aa 282 aj2:=aL a6U [(aq8,aqX)] _ _ (al (λE hF=>aD ((aln (hF.vb 3 _ _ rfl) (hF.b 4 rfl).1).trans (Yr E _).symm))<|aN) kr
def aBD:Sp:=aOy
def aBC:Sp:={aBD with v:=S3,l':=aOz}
theorem a4V:ab aa 185 aBD:=aG (t:=[]) (lt:=[]) (m:=8) trivial trivial .lf kr
theorem a4W:ab aa 185 aBC:=aL a4V [((ck ay),aq4)] _ _ (al (λE hF=>(aq (λq hq=>avl (by have h:(q:Int) < 8:=hq; omega) (hF.b 1 rfl).1 (hF.b 1 rfl).2) _))<|aN) kr
def aCT:Sp:=aOA
def aCS:Sp:={aCT with v:=aq7,l':=acS}
theorem a6V:ab aa 305 aCT:=aG (t:=[]) (lt:=[]) (m:=8) trivial trivial .lf kr
theorem a6Y:ab aa 305 aCS:=aL a6V [(aq8,aqX)] _ _ (al (λE hF=>aD ((aln (hF.vb 3 _ _ rfl) (hF.b 4 rfl).1).trans (Yr E _).symm))<|aN) kr
abbrev aqY:List (Nat×Bl):=[Jn 0 [mT,fK,fu,gh,qD,ab2,oQ,oR,oS,oT,oN,lI,oP,lJ,ko,lK,a8,mV,fc,kS,cK,cK]]
def aCV:Sp:=⟨jv [lL,r6,(5,8,1048576),zZ,z1,z2,xW,xX,xY,xZ,x5,tI,qI,x7,tH,zY,xS,xT,xU,xV] ab1,[.c (.sl 0 5 (.v 4) (.v 5) .a)],3,aqY,tn Q4,3,aqY⟩
def aCU:Sp:={aCV with v:=aq7,l':=aqY}
theorem a6W:ab aa 305 aCV:=aG (t:=[]) (lt:=[]) (m:=8) trivial trivial .lf kr
theorem a6X:ab aa 305 aCU:=aL a6W [(aq8,aqX)] _ _ (al (λE hF=>aD ((aln (hF.vb 3 _ _ rfl) (hF.b 4 rfl).1).trans (Yr E _).symm))<|aN) kr
abbrev NC:Nat×Int×Int:=(3,1,131072)
abbrev FO:Nat×Int×Int:=(5,0,255)
abbrev gP:X:=ir 1 2
abbrev TA:ai:=oO (.v 4)
abbrev Ct:ai:=oO (.v 5)
abbrev oX:X:=.i 152
abbrev jk:X:=.f 1031 oH
abbrev FP:X:=.f 1031 I7
abbrev gF(a b c:X):X:=bZ a aH b aH c
abbrev sj(a b c d e f:X):X:=gF a b (bZ c d e aU f)
def Qb:Sp:=⟨jv [fe,gi,NC,JG,FO] gP,[.agg [dQ,ed,B2,TA,Ct]],0,[],lH 0 oX,1,[cj 0 oX (sj my jk FP aH (.v 4) (.v 5))]⟩
theorem W5:ab aa 116 Qb:=aG (t:=[(185,aO aBC)]) (lt:=[]) (m:=8) ⟨(aQ a4W),trivial⟩ trivial .lf kr
abbrev nT:X:=.i 66
abbrev nU:X:=.i 74
abbrev nW:X:=.i 75
abbrev tO(a b:X):X:=.o3 0 a aU b
abbrev aOr:X:=tO (.v 5) (.v 8)
abbrev aOs:X:=sj my jk FP aH (.v 4) aOr
abbrev aqZ:X:=cz nT nU nW jw (bZ (.v 6) aj (.v 7) aj (.o3 0 ae bA aOs))
def lbX:X:=aqZ
theorem cM (E:Env) (x:X) (h0:0<=N x) (h1:N x<=18446744073709551615):N (.f 1030 (.c (.o3 0 (.f 1031 (.c x .n)) aH ae) .n))=N x:=by
 rw[Yr,U7,fW]
 exact a_s h0 h1
abbrev iW:Nat×Int×Int:=(6,0,7)
abbrev aOt:Fa:=jv [fe,gi,NC,JG,FO,iW,(7,1,16),jg,zZ,z1,z2,xW,xX,xY,xZ,x5,tI,qI,x7,tH,zY,xS,xT,xU,xV] gP
abbrev acN:List (Nat×Bl):=[Jn 0 [mT,fK,fu,gh,qD,qE lbX,oQ,oR,oS,oT,oN,lI,oP,lJ,ko,lK,a8,mV,fc,kS,cK,cK]]
abbrev acO:X:=fZ 6 ae
abbrev aOu:V:=mj [aF acO,aF (fZ 7 ae)]
def aAF:Sp:=⟨aOt,[.c (.sl 0 5 ae aH .a)],3,acN,aOu,3,acN⟩
abbrev aq0:ai:=fQ 7
abbrev aOv:V:=mj [eO,aq0]
abbrev FN:ai:=qE aqZ
abbrev aOm:List (Nat×Bl):=[Jn 0 [mT,fK,fu,gh,qD,FN,oQ,oR,oS,oT,oN,lI,oP,lJ,ko,lK,a8,mV,fc,kS,cK,cK]]
def aAE:Sp:={aAF with v:=aOv,l':=aOm}
theorem a3B:ab aa 160 aAF:=aG (t:=[]) (lt:=[]) (m:=8) trivial trivial .lf kr
theorem a3C:ab aa 160 aAE:=aL a3B [] _ _ (λ_ _ _ hq=>(gn hq).elim) kr
abbrev JH:X:=.f 1030 (bj aq4)
abbrev JI(a:X):X:=.f 1030 (bj (ck a))
abbrev JJ:X:=JI jk
abbrev z9:X:=JI FP
abbrev aOn:V:=mj [nF JH,nF JJ,aF z9,TA,Ct]
def aAJ:Sp:=⟨aOt,[.c (.sl 0 5 aH oX .a)],3,acN,aOn,3,acN⟩
abbrev aOo:V:=mj [dQ,ed,B2,TA,Ct]
def aAI:Sp:={aAJ with v:=aOo,l':=aOm}
abbrev aOp:X:=rO 131072 z9
theorem a3F:ab aa 253 aAJ:=dj (t:=[(305,aO aCU)]) (lt:=[]) (m:=8) ⟨(aQ a6X),trivial⟩ trivial (.ge aOp (.ge (fJ z9) (.ge (.o2 1 JH JJ) .lf))) ⟨λE hF=>(by show (0:Int)<=131072 - N z9; rw[(cM E (.v 3) (by have:=(hF.b 3 rfl); omega) (by have:=(hF.b 3 rfl); omega))]; have:=(hF.b 3 rfl); omega),⟨λE hF=>(by show (0:Int)<=N z9 - 1; rw[(cM E (.v 3) (by have:=(hF.b 3 rfl); omega) (by have:=(hF.b 3 rfl); omega))]; have:=(hF.b 3 rfl); omega),⟨λE hF=>(by show (0:Int)<=N JH - N JJ; rw[(cM E (.v 1) (by have:=(hF.b 1 rfl); omega) (by have:=(hF.b 1 rfl); omega)),(cM E (.v 2) (by have:=(hF.b 2 rfl); omega) (by have:=(hF.b 2 rfl); omega))]; have h:=hF.g (x:=.o2 1 (.v 1) (.v 2)) mh; exact h),df rfl⟩⟩⟩ kr
theorem a3G:ab aa 253 aAI:=aL a3F [((ao JH),St),((ao JJ),M0),((ao z9),apd)] _ _ (al (λE hF=>aD (cM E (.v 1) (by have:=(hF.b 1 rfl); omega) (by have:=(hF.b 1 rfl); omega)))<|al (λE hF=>aD (cM E (.v 2) (by have:=(hF.b 2 rfl); omega) (by have:=(hF.b 2 rfl); omega)))<|al (λE hF=>aD (cM E (.v 3) (by have:=(hF.b 3 rfl); omega) (by have:=(hF.b 3 rfl); omega)))<|aN) kr
abbrev aOq:Fa:=jv [fe,gi,NC,JG,FO,iW,(7,1,16),jg] gP
abbrev aOK:List V:=[oI 0 aH .a]
abbrev acW:List (Nat×Bl):=[z8 0 ff lbX]
def aAD:Sp:=⟨aOq,aOK,1,acW,aOu,1,acW⟩
def aAC:Sp:={aAD with v:=aOv,l':=[vQ 0 [FN]]}
theorem a3z:ab aa 160 aAD:=aG (t:=[]) (lt:=[]) (m:=8) trivial trivial .lf kr
theorem a3A:ab aa 160 aAC:=aL a3z [] _ _ (λ_ _ _ hq=>(gn hq).elim) kr
def aAH:Sp:=⟨aOq,[tA 0 aH oX .a],1,acW,aOn,1,acW⟩
def aAG:Sp:={aAH with v:=aOo,l':=[vQ 0 [FN]]}
theorem a3D:ab aa 253 aAH:=dj (t:=[(305,aO aCS)]) (lt:=[]) (m:=8) ⟨(aQ a6Y),trivial⟩ trivial (.ge aOp (.ge (fJ z9) (.ge (.o2 1 JH JJ) .lf))) ⟨λE hF=>(by show (0:Int)<=131072 - N z9; rw[(cM E (.v 3) (by have:=(hF.b 3 rfl); omega) (by have:=(hF.b 3 rfl); omega))]; have:=(hF.b 3 rfl); omega),⟨λE hF=>(by show (0:Int)<=N z9 - 1; rw[(cM E (.v 3) (by have:=(hF.b 3 rfl); omega) (by have:=(hF.b 3 rfl); omega))]; have:=(hF.b 3 rfl); omega),⟨λE hF=>(by show (0:Int)<=N JH - N JJ; rw[(cM E (.v 1) (by have:=(hF.b 1 rfl); omega) (by have:=(hF.b 1 rfl); omega)),(cM E (.v 2) (by have:=(hF.b 2 rfl); omega) (by have:=(hF.b 2 rfl); omega))]; have h:=hF.g (x:=.o2 1 (.v 1) (.v 2)) mh; exact h),df rfl⟩⟩⟩ kr
theorem a3E:ab aa 253 aAG:=aL a3D [((ao JH),St),((ao JJ),M0),((ao z9),apd)] _ _ (al (λE hF=>aD (cM E (.v 1) (by have:=(hF.b 1 rfl); omega) (by have:=(hF.b 1 rfl); omega)))<|al (λE hF=>aD (cM E (.v 2) (by have:=(hF.b 2 rfl); omega) (by have:=(hF.b 2 rfl); omega)))<|al (λE hF=>aD (cM E (.v 3) (by have:=(hF.b 3 rfl); omega) (by have:=(hF.b 3 rfl); omega)))<|aN) kr
abbrev nY:Nat×Int×Int:=(20,0,255)
abbrev ku:Nat×Int×Int:=(21,1,8)
abbrev arj:X:=ir 21 6
abbrev ye:X:=fJ arj
abbrev acX:X:=eN 20 (mP 6 bW)
abbrev Cx:X×Bool:=(.f 1124 (bj acX),true)
abbrev bab:X:=bj (.i 160)
abbrev FT(a:X):X:=kt a bab
abbrev acY:X×Bool:=(.f 1132 (dG acX (FT (cz nT nU nW jw (bZ (.v 6) aj (.v 7) aj (bZ ae bA my aH (sj jk FP (.v 4) aU (.v 5) ae))))) IX),true)
abbrev aOL:V:=oI 0 (.v 21) .a
abbrev aOM:Nat×Bl:=cP [fu,fK,nR,gh,qD,FN,oQ,oR,oS,oT,oN,lI,oP,lJ,ko,lK,a8,mV,fc,kS,cK,cK]
abbrev FU:Bl:=⟨27,qH (mP 21 bW) (.v 20),false,32⟩
abbrev fS:ai:=oO (.v 8)
abbrev aON:V:=vz [eO,aq0,dQ,ed,B2,TA,Ct,fS] oM
def ahW:Sp:=⟨dT [fe,gi,NC,JG,FO,iW,(7,1,16),jg,nY,ku,zZ,z1,z2,xW,xX,xY,xZ,x5,tI,qI,x7,tH,zY,xS,xT,xU,xV] [gP,ye] [Cx,acY],[aOL,.c (.sl 1 5 ae ff .a)],4,[aOM,(0,FU)],aON,4,[(0,FU),aOM]⟩
abbrev aOO:X:=.o2 1 (.o2 1 (mP 21 bW) (.o2 2 (.v 6) bW)) bW
theorem az4:ab aa 183 ahW:=dj (t:=[(160,aO aAE),(253,aO aAI),(252,aO aj3),(63,aO uW),(64,aO aC0),(52,aO rp)]) (lt:=[]) (m:=8) ⟨(aQ a3C),(aQ a3G),(aQ aCW),(aQ wV),(aQ a69),(aQ sY),trivial⟩ trivial (.ge aOO .lf) ⟨λE hF=>(by have h:=hF.g (x:=.o2 1 arj aj) (mt mh); have e:(0:Int)<=(N (.v 21) - N (.v 6)) - 1:=h; show (0:Int)<=(N (.v 21)*32 - N (.v 6)*32) - 32; omega),df rfl⟩ kr
abbrev aOP:List V:=[aOL,oI 1 ff .a]
def az1:Sp:=⟨dT [fe,gi,NC,JG,FO,iW,(7,1,16),jg,nY,ku] [gP,ye] [Cx,acY],aOP,2,[vQ 1 [FN],(0,FU)],aON,2,[(0,FU),vQ 1 [FN]]⟩
theorem a2y:ab aa 183 az1:=dj (t:=[(160,aO aAC),(253,aO aAG),(252,aO aj3),(63,aO uW),(64,aO wX),(52,aO rp)]) (lt:=[]) (m:=8) ⟨(aQ a3A),(aQ a3E),(aQ aCW),(aQ wV),(aQ y6),(aQ sY),trivial⟩ trivial (.ge aOO .lf) ⟨λE hF=>(by have h:=hF.g (x:=.o2 1 arj aj) (mt mh); have e:(0:Int)<=(N (.v 21) - N (.v 6)) - 1:=h; show (0:Int)<=(N (.v 21)*32 - N (.v 6)*32) - 32; omega),df rfl⟩ kr
end
end Go.Proofs.Y
namespace Go.Proofs.Y
open Go Go.Z
section
variable [kv]
noncomputable def lss (a b:X):X:=.o2 1 (.o2 1 b a) (.i 1)
namespace Nb
def row:X:=.o2 15 (.v 0) (.v 1)
noncomputable def ig:Bl:=⟨5,[.a [.u8] (.v 3) (.v 0)],true,0⟩
def kA:Fa:=⟨[(1,0,1048576),(2,0,1048576),(3,0,1048576)],[.o2 1 (.o2 1 (.v 3) (.v 1)) (.v 2)],[],[]⟩
def iz:Fa:=⟨(4,0,1048576)::kA.vb,.o2 1 (.v 2) (.v 4)::kA.fs,[],[]⟩
noncomputable def QE:V:=.c (.sl 0 0 (.v 1) (.v 2) .a)
def wA:X:=.f 0 (.c row (.c (.v 2) .n))
def dg:X:=.f 1 (.c row (.c (.v 2) .n))
def fV:X:=.o2 14 (.v 0) (.o2 0 (.v 1) (.v 4))
def K4:Lp:=⟨iz.is wA true,
 [(0,QE),(1,.c (.fn 281 [])),(7,.c (.int .i64 (.v 2))),(8,.c (.int .i64 (.v 4)))],1,[(0,ig)],
 .exit 0,[],1,[(0,ig)],.o2 1 (.v 2) (.v 4)⟩
def AV:Lp:=⟨((iz.is wA false).ge (.o2 1 dg (.v 4))).ge (lss dg (.v 2)),
 [(0,QE),(1,.c (.fn 281 [])),(7,.c (.int .i64 (.v 2))),(8,.c (.int .i64 (.v 4)))],1,[(0,ig)],
 .ret,[(4,.c (.int .i64 dg))],1,[(0,ig)],.o2 1 (.v 2) (.v 4)⟩
def XP:Sp:=⟨kA.is wA true,[QE,.c (.fn 281 [])],1,[(0,ig)],.c (.int .i64 (.i (-1))),1,[(0,ig)]⟩
def XQ:Sp:=⟨((kA.is wA false).ge dg).ge (lss dg (.v 2)),[QE,.c (.fn 281 [])],1,[(0,ig)],.c (.int .i64 dg),1,[(0,ig)]⟩
def zc:Sp:=⟨kA,[QE],1,[(0,ig)],.c (.bx wA),1,[(0,ig)]⟩
end Nb
open Nb
section
variable {E:Env}
theorem Gz {a o i:X} (ho:0<=N o) (hi:0<=N i):N (.o2 14 a (.o2 0 o i))=D (.o2 15 a o) (N i).toNat:=by
 show D a (N o+N i).toNat=D a ((N i).toNat+(N o).toNat)
 congr 1; omega
theorem Ps (hF:ah iz.fx):0<=N (.v 1)/\0<=N (.v 2)/\0<=N (.v 4)/\N (.v 4)<=N (.v 2):=
 ⟨(hF.b 1 rfl).1,(hF.b 2 rfl).1,(hF.b 4 rfl).1,by
  have:0<=N (.v 2) - N (.v 4):=hF.g mh
  omega⟩
theorem agR {x:X} {b:Bool} (hF:ah (iz.is x b).fx):ah iz.fx:=⟨hF.vb,hF.fs,λ_ h=>(gn h).elim,hF.eq⟩
theorem ayX {b:Bool} (hF:ah (iz.is wA b).fx):decide (yes (Ah (D row) (N (.v 2)) 255)≠0)=b:=hF.t mh
theorem agS:decide (N (.o2 12 fV (.i 255))≠0)=decide (N fV=255):=by
 show decide (tf (decide (N fV=255))≠0)=_
 by_cases h:N fV=255 <;>simp[h,tf]
end
theorem aWn:ct aa Tryz.f320.ntmps (aI 2 (loops (aC Tryz.f320))) K4:=
 cr.all (.or (.of (rr (t:=[]) (lt:=[]) (m:=3) (f:=320) (k:=2) (fa:=(K4.fa.ge (lss (.v 4) (.v 2))).is (.o2 12 fV (.i 255)) true) trivial trivial rfl rfl kr) (λE hF=>by
  have hI:ah K4.fa.fx:=⟨hF.vb,λl hl=>hF.fs l (mt hl),hF.tr,hF.eq⟩
  have h1:=jI (of_decide_eq_true (ayX hI))
  obtain⟨b1,b2,b3,b4⟩:=Ps (agR hI)
  have h2:0<=N (.v 2) - N (.v 4) - 1:=hF.g mh
  refine hF.is ?_
  rw[agS]
  refine decide_eq_true ?_
  rw[fV,Gz b1 b3]
  exact h1 _ om))
  (rr (t:=[]) (lt:=[]) (m:=3) (f:=320) (k:=2) trivial trivial rfl rfl kr) λE hF=>hF.lt (.v 4) (.v 2)) λE hF=>by
  obtain⟨b1,b2,b3,b4⟩:=Ps (agR hF)
  show 0<=N (.v 2) - N (.v 4)
  omega
theorem agT {E:Env} (hF:ah AV.fa.fx):ah iz.fx/\¬Ah (D row) (N (.v 2)) 255/\N dg=o8 (D row) 255 (N (.v 2)).toNat 0/\N (.v 4)<=N dg/\N dg < N (.v 2):=by
 have hI:ah (iz.is wA false).fx:=⟨hF.vb,λl hl=>hF.fs l (mt (mt hl)),hF.tr,hF.eq⟩
 refine⟨agR hI,xo (of_decide_eq_false (ayX hI)),rfl,?_,?_⟩
 .have:0<=N dg - N (.v 4):=hF.g (mt mh)
  omega
 .have:0<=N (.v 2) - N dg - 1:=hF.g mh
  omega
theorem aWo:ct aa Tryz.f320.ntmps (aI 2 (loops (aC Tryz.f320))) AV:=
 cr.all (.or
  (.of (rr (t:=[]) (lt:=[]) (m:=3) (f:=320) (k:=2) (fa:=((AV.fa.is (.o2 12 fV (.i 255)) true).ge (lss (.v 4) (.v 2))).ge (lss (.v 4) dg)) trivial trivial rfl rfl kr) λE hF=>by
   have hI:ah AV.fa.fx:=⟨hF.vb,hF.fs,λp hp=>hF.tr p (mt hp),hF.eq⟩
   obtain⟨h1,h2,h3,h4,h5⟩:=agT hI
   obtain⟨b1,b2,b3,b4⟩:=Ps h1
   have e:=hF.t mh
   rw[agS] at e
   have e:=of_decide_eq_true e
   rw[fV,Gz b1 b3] at e
   refine (hF.ge (x:=lss (.v 4) (.v 2)) (show 0<=N (.v 2) - N (.v 4) - 1 by omega)).ge ?_
   show 0<=N dg - N (.v 4) - 1
   rcases NZ h4 with h | h
   .omega
   .rw[h,h3] at e
    exact absurd e (aus _ _ om))
  (.of (rr (t:=[]) (lt:=[]) (m:=3) (f:=320) (k:=2) (fa:=((AV.fa.is (.o2 12 fV (.i 255)) false).ge (lss (.v 4) (.v 2))).ge (.o2 1 (.v 4) dg)) trivial trivial rfl rfl kr) λE hF=>by
   have hI:ah AV.fa.fx:=⟨hF.vb,hF.fs,λp hp=>hF.tr p (mt hp),hF.eq⟩
   obtain⟨h1,h2,h3,h4,h5⟩:=agT hI
   obtain⟨b1,b2,b3,b4⟩:=Ps h1
   have e:=hF.t mh
   rw[agS] at e
   have e:=of_decide_eq_false e
   rw[fV,Gz b1 b3] at e
   refine (hF.ge (x:=lss (.v 4) (.v 2)) (show 0<=N (.v 2) - N (.v 4) - 1 by omega)).ge ?_
   show 0<=N (.v 4) - N dg
   rcases NZ h4 with h | h
   .rw[h3] at h
    exact absurd (afb (a:=D row) (c:=255) (N (.v 2)).toNat 0 _ (Aq _) om) e
   .omega)
  λE hF=>hF.tf (.o2 12 fV (.i 255))) λE hF=>by
  obtain⟨h1,h2,h3,h4,h5⟩:=agT hF
  obtain⟨b1,b2,b3,b4⟩:=Ps h1
  show 0<=N (.v 2) - N (.v 4)
  omega
theorem lIx:cA aa ((320,2),gC (aW K4) (aW AV)):=jE (dZ Tryz.func320 kr aWn) (dZ Tryz.func320 kr aWo)
theorem a9o:ab aa 320 XP:=Xj (t:=[]) (lt:=[((320,2),gC (aW K4) (aW AV))]) (m:=3) trivial ⟨lIx,trivial⟩ kr
theorem a9p:ab aa 320 XQ:=Xj (t:=[]) (lt:=[((320,2),gC (aW K4) (aW AV))]) (m:=3) trivial ⟨lIx,trivial⟩ kr
theorem oIx:aY aa (320,bG (av XP) (av XQ)):=cS (cf a9o) (cf a9p)
theorem aSu {E:Env} (h:¬Ah (D row) (N (.v 2)) 255):0<=N dg/\N dg < N (.v 2):=by
 have h1:=auq (a:=D row) (c:=255) (N (.v 2)).toNat 0
 have h2:=aur (a:=D row) (c:=255) (N (.v 2)).toNat 0
 have e:N dg=o8 (D row) 255 (N (.v 2)).toNat 0:=rfl
 rw[e]
 refine⟨by omega,Int.lt_of_not_ge λq=>h λj hj=>?_⟩
 exact afb (c:=255) (N (.v 2)).toNat 0 j (Aq _) om
theorem LO : ab aa 226 zc := .or
    (Ic (sp := zc) (fa := kA.is wA true) (t := [(320, bG (av XP) (av XQ))]) (lt := []) (m := 5) ⟨oIx, trivial⟩ trivial kr)
    (.of (sp := { zc with fa := kA.is wA false }) (Ic (sp := zc) (fa := ((kA.is wA false).ge dg).ge (lss dg (.v 2))) (t := [(320, bG (av XP) (av XQ))]) (lt := []) (m := 5) ⟨oIx, trivial⟩ trivial kr) fun E hF => by
      have h := xo (of_decide_eq_false (show decide (yes (Ah (D row) (N (.v 2)) 255) ≠ 0) = false from hF.t mh))
      obtain ⟨h1, h2⟩ := aSu h
      refine (hF.ge h1).ge ?_
      show 0 ≤ N (.v 2) - N dg - 1
      omega)
    fun E hF => hF.tf wA
end
end Go.Proofs.Y
namespace Go.Proofs.Y
open Go Go.Z
section
variable [kv]
namespace Ca
def ro:X:=.o2 15 (.v 0) (.v 1)
def rn:X:=.o2 15 (.v 5) (.v 6)
noncomputable def bo:Bl:=⟨5,[.a [.u8] (.v 3) (.v 0)],true,0⟩
noncomputable def bn:Bl:=⟨5,[.a [.u8] (.v 7) (.v 5)],true,0⟩
def kA:Fa:=⟨[(0,0,255),(5,0,255),(1,0,1048576),(2,0,1048576),(3,0,1048576),(6,0,1048576),(7,0,1048576)],[.o2 1 (.o2 1 (.v 3) (.v 1)) (.v 2),.o2 1 (.o2 1 (.v 7) (.v 6)) (.v 2)],[],[]⟩
def iz:Fa:=⟨(4,0,1048576)::kA.vb,.o2 1 (.v 2) (.v 4)::kA.fs,[],[]⟩
noncomputable def so:V:=.c (.sl 0 0 (.v 1) (.v 2) .a)
noncomputable def sn:V:=.c (.sl 1 0 (.v 6) (.v 2) .a)
def mE:X:=.f 2 (.c ro (.c rn (.c (.v 2) .n)))
def dg:X:=.f 3 (.c ro (.c rn (.c (.v 2) .n)))
def b1:X:=.o2 14 (.v 0) (.o2 0 (.v 1) (.v 4))
def b2:X:=.o2 14 (.v 5) (.o2 0 (.v 6) (.v 4))
def fA:X:=.o2 12 (.o2 8 b2 b1) (.i 0)
noncomputable def hp:List (Nat×Bl):=[(0,bo),(1,bn)]
def sR:Lp:=⟨iz.is mE true,[(0,so),(1,sn),(12,.c (.int .i64 (.v 2))),(13,.c (.int .i64 (.v 4)))],2,hp,.exit 0,[],2,hp,.o2 1 (.v 2) (.v 4)⟩
def sS:Lp:=⟨((iz.is mE false).ge (.o2 1 dg (.v 4))).ge (lss dg (.v 2)),[(0,so),(1,sn),(12,.c (.int .i64 (.v 2))),(13,.c (.int .i64 (.v 4)))],2,hp,.ret,[(4,.c (.bool false))],2,hp,.o2 1 (.v 2) (.v 4)⟩
def sp:Sp:=⟨kA,[so,sn],2,hp,.c (.bx mE),2,hp⟩
end Ca
namespace Ca
section
variable {E:Env}
theorem wo (hF:ah iz.fx):0<=N (.v 1)/\0<=N (.v 2)/\0<=N (.v 4)/\N (.v 4)<=N (.v 2)/\0<=N (.v 6):=
 ⟨(hF.b 1 rfl).1,(hF.b 2 rfl).1,(hF.b 4 rfl).1,by
  have:0<=N (.v 2) - N (.v 4):=hF.g mh
  omega,(hF.b 6 rfl).1⟩
theorem Bg {x:X} {b:Bool} (hF:ah (iz.is x b).fx):ah iz.fx:=⟨hF.vb,hF.fs,λ_ h=>(gn h).elim,hF.eq⟩
theorem isC {b:Bool} (hF:ah (iz.is mE b).fx):decide (yes (∀j:Nat,(j:Int) < N (.v 2)->Go.Z.fA (D ro) (D rn) j)≠0)=b:=hF.t mh
theorem GP (hF:ah iz.fx) {b:Bool} (h:decide (Go.Z.fA (D ro) (D rn) (N (.v 4)).toNat)=b):decide (N fA≠0)=b:=by
 obtain⟨h1,h2,h3,h4,h5⟩:=wo hF
 have e:Go.Z.fA (D ro) (D rn) (N (.v 4)).toNat↔N (.o2 8 b2 b1)=0:=by
  unfold Go.Z.fA
  rw[ro,rn,<- Gz h1 h3,<- Gz h5 h3]
  exact Iff.rfl
 have g:N fA=tf (decide (N (.o2 8 b2 b1)=0)):=rfl
 rw[<- h,g]
 by_cases q:N (.o2 8 b2 b1)=0
 .rw[decide_eq_true (e.2 q),decide_eq_true q]; rfl
 .rw[decide_eq_false (λh=>q (e.1 h)),decide_eq_false q]; rfl
end
theorem agy:ct aa Tryz.f341.ntmps (aI 4 (loops (aC Tryz.f341))) sR:=
 cr.all (.or (.of (rr (t:=[]) (lt:=[]) (m:=3) (f:=341) (k:=4) (fa:=(sR.fa.ge (lss (.v 4) (.v 2))).is fA true) trivial trivial rfl rfl kr) (λE hF=>by
  have hI:ah sR.fa.fx:=⟨hF.vb,λl hl=>hF.fs l (mt hl),hF.tr,hF.eq⟩
  have h1:=jI (of_decide_eq_true (isC hI))
  obtain⟨_,_,b3,_⟩:=wo (Bg hI)
  have h2:0<=N (.v 2) - N (.v 4) - 1:=hF.g mh
  exact hF.is (GP (Bg hI) (decide_eq_true (h1 _ om)))))
  (rr (t:=[]) (lt:=[]) (m:=3) (f:=341) (k:=4) trivial trivial rfl rfl kr) λE hF=>hF.lt (.v 4) (.v 2)) λE hF=>by
  obtain⟨b1,b2,b3,b4,_⟩:=wo (Bg hF)
  show 0<=N (.v 2) - N (.v 4)
  omega
theorem PB {E:Env} (hF:ah sS.fa.fx):ah iz.fx/\N dg=ni (Go.Z.fA (D ro) (D rn)) (N (.v 2)).toNat 0/\N (.v 4)<=N dg/\N dg < N (.v 2):=by
 have hI:ah (iz.is mE false).fx:=⟨hF.vb,λl hl=>hF.fs l (mt (mt hl)),hF.tr,hF.eq⟩
 refine⟨Bg hI,rfl,?_,?_⟩
 .have:0<=N dg - N (.v 4):=hF.g (mt mh)
  omega
 .have:0<=N (.v 2) - N dg - 1:=hF.g mh
  omega
theorem agz:ct aa Tryz.f341.ntmps (aI 4 (loops (aC Tryz.f341))) sS:=
 cr.all (.or
  (rr (t:=[]) (lt:=[]) (m:=3) (f:=341) (k:=4) (fa:=((sS.fa.is fA true).ge (lss (.v 4) (.v 2))).ge (lss (.v 4) dg)) trivial trivial rfl rfl kr)
  (rr (t:=[]) (lt:=[]) (m:=3) (f:=341) (k:=4) (fa:=((sS.fa.is fA false).ge (lss (.v 4) (.v 2))).ge (.o2 1 (.v 4) dg)) trivial trivial rfl rfl kr)
  λE hF=>by
   obtain⟨h1,h3,h4,h5⟩:=PB hF
   obtain⟨b1,b2,b3,b4,_⟩:=wo h1
   have h6:0<=N (lss (.v 4) (.v 2)):=show 0<=N (.v 2) - N (.v 4) - 1 by omega
   by_cases e:Go.Z.fA (D ro) (D rn) (N (.v 4)).toNat
   .refine .inl (((hF.is (GP h1 (decide_eq_true e))).ge h6).ge ?_)
    show 0<=N dg - N (.v 4) - 1
    rcases NZ h4 with h | h
    .omega
    .rw[h,h3] at e
     exact absurd e (afc _ _ om)
   .refine .inr (((hF.is (GP h1 (decide_eq_false e))).ge h6).ge ?_)
    show 0<=N (.v 4) - N dg
    rcases NZ h4 with h | h
    .rw[h3] at h
     exact absurd (Vm (p:=Go.Z.fA (D ro) (D rn)) (N (.v 2)).toNat 0 _ (Aq _) om) e
    .omega) λE hF=>by
  obtain⟨h1,h3,h4,h5⟩:=PB hF
  obtain⟨b1,b2,b3,b4,_⟩:=wo h1
  show 0<=N (.v 2) - N (.v 4)
  omega
theorem Pa:cA aa ((341,4),gC (aW sR) (aW sS)):=jE (dZ Tryz.func341 kr agy) (dZ Tryz.func341 kr agz)
theorem Iq : ab aa 341 sp := .or
    (Ic (sp := sp) (fa := kA.is mE true) (t := []) (lt := [((341, 4), gC (aW sR) (aW sS))]) (m := 5) trivial ⟨Pa, trivial⟩ kr)
    (.of (sp := { sp with fa := kA.is mE false }) (Ic (sp := sp) (fa := ((kA.is mE false).ge dg).ge (lss dg (.v 2))) (t := []) (lt := [((341, 4), gC (aW sR) (aW sS))]) (m := 5) trivial ⟨Pa, trivial⟩ kr) fun E hF => by
      have h := xo (of_decide_eq_false (show decide (yes (∀ j : Nat, (j : Int) < N (.v 2) → Go.Z.fA (D ro) (D rn) j) ≠ 0) = false from hF.t mh))
      obtain ⟨h1, h2⟩ := aut h
      refine (hF.ge (x := dg) h1).ge ?_
      show 0 ≤ N (.v 2) - N dg - 1
      have : N dg < N (.v 2) := h2
      omega)
    fun E hF => hF.tf mE
end Ca
end
end Go.Proofs.Y
namespace Go.Proofs.Y
open Go Go.Z
section
open Hz
namespace CaGT
def ro:X:=.o2 15 (.v 0) (.v 1)
def rn:X:=.o2 15 (.v 5) (.v 6)
noncomputable def bo:Bl:=⟨5,[.a [.u8] (.v 3) (.v 0)],true,0⟩
noncomputable def bn:Bl:=⟨126,[.c (.ptr 2 0 (.i 0)),.c (.int .i64 (.v 101)),.c (.ptr 3 0 (.i 0)),.c (.int .i64 (.v 102)),.c (.int .i64 (.v 103)),.a [.u8] (.i 224) (.v 5),.c (.int .i64 (.v 105)),.c (.int .i64 (.v 106)),.c (.int .u64 (.v 107)),.c (.int .u64 (.v 108)),.c (.int .i64 (.v 109)),.a [.u8] (.i 64) (.v 110),.a [.u8] (.i 64) (.v 115),.a [.u8] (.i 64) (.v 116),.a [.u8] (.i 1024) (.v 111),.a [.u8] (.i 4) (.v 117),.c (.int .i64 (.v 50)),.c (.int .i64 (.v 112)),.c (.int .i64 (.v 113)),.c (.int .i64 (.v 114)),.c .db,.c .db],false,0⟩
def kA:Fa:=⟨[(0,0,255),(5,0,255),(1,0,1048576),(2,0,1048576),(3,0,1048576),(6,0,1048576)],[.o2 1 (.o2 1 (.v 3) (.v 1)) (.v 2),.o2 1 (.o2 1 (.i 224) (.v 6)) (.v 2)],[],[]⟩
def iz:Fa:=⟨(4,0,1048576)::kA.vb,.o2 1 (.v 2) (.v 4)::kA.fs,[],[]⟩
noncomputable def so:V:=.c (.sl 0 0 (.v 1) (.v 2) .a)
noncomputable def sn:V:=.c (.sl 1 5 (.v 6) (.v 2) .a)
def mE:X:=.f 2 (.c ro (.c rn (.c (.v 2) .n)))
def dg:X:=.f 3 (.c ro (.c rn (.c (.v 2) .n)))
def b1:X:=.o2 14 (.v 0) (.o2 0 (.v 1) (.v 4))
def b2:X:=.o2 14 (.v 5) (.o2 0 (.v 6) (.v 4))
def fA:X:=.o2 12 (.o2 8 b2 b1) (.i 0)
noncomputable def hp:List (Nat×Bl):=[(0,bo),(1,bn)]
def sR:Lp:=⟨iz.is mE true,[(0,so),(1,sn),(12,.c (.int .i64 (.v 2))),(13,.c (.int .i64 (.v 4)))],4,hp,.exit 0,[],4,hp,.o2 1 (.v 2) (.v 4)⟩
def sS:Lp:=⟨((iz.is mE false).ge (.o2 1 dg (.v 4))).ge (lss dg (.v 2)),[(0,so),(1,sn),(12,.c (.int .i64 (.v 2))),(13,.c (.int .i64 (.v 4)))],4,hp,.ret,[(4,.c (.bool false))],4,hp,.o2 1 (.v 2) (.v 4)⟩
def sp:Sp:=⟨kA,[so,sn],4,hp,.c (.bx mE),4,hp⟩
end CaGT
namespace CaGT
section
variable {E:Env}
theorem wo (hF:ah iz.fx):0<=N (.v 1)/\0<=N (.v 2)/\0<=N (.v 4)/\N (.v 4)<=N (.v 2)/\0<=N (.v 6):=
 ⟨(hF.b 1 rfl).1,(hF.b 2 rfl).1,(hF.b 4 rfl).1,by
  have:0<=N (.v 2) - N (.v 4):=hF.g mh
  omega,(hF.b 6 rfl).1⟩
theorem Bg {x:X} {b:Bool} (hF:ah (iz.is x b).fx):ah iz.fx:=⟨hF.vb,hF.fs,λ_ h=>(gn h).elim,hF.eq⟩
theorem isC {b:Bool} (hF:ah (iz.is mE b).fx):decide (yes (∀j:Nat,(j:Int) < N (.v 2)->Go.Z.fA (D ro) (D rn) j)≠0)=b:=hF.t mh
theorem GP (hF:ah iz.fx) {b:Bool} (h:decide (Go.Z.fA (D ro) (D rn) (N (.v 4)).toNat)=b):decide (N fA≠0)=b:=by
 obtain⟨h1,h2,h3,h4,h5⟩:=wo hF
 have e:Go.Z.fA (D ro) (D rn) (N (.v 4)).toNat↔N (.o2 8 b2 b1)=0:=by
  unfold Go.Z.fA
  rw[ro,rn,<- Gz h1 h3,<- Gz h5 h3]
  exact Iff.rfl
 have g:N fA=tf (decide (N (.o2 8 b2 b1)=0)):=rfl
 rw[<- h,g]
 by_cases q:N (.o2 8 b2 b1)=0
 .rw[decide_eq_true (e.2 q),decide_eq_true q]; rfl
 .rw[decide_eq_false (λh=>q (e.1 h)),decide_eq_false q]; rfl
end
theorem agy:ct aa Tryz.f341.ntmps (aI 4 (loops (aC Tryz.f341))) sR:=
 cr.all (.or (.of (rr (t:=[]) (lt:=[]) (m:=3) (f:=341) (k:=4) (fa:=(sR.fa.ge (lss (.v 4) (.v 2))).is fA true) trivial trivial rfl rfl kr) (λE hF=>by
  have hI:ah sR.fa.fx:=⟨hF.vb,λl hl=>hF.fs l (mt hl),hF.tr,hF.eq⟩
  have h1:=jI (of_decide_eq_true (isC hI))
  obtain⟨_,_,b3,_⟩:=wo (Bg hI)
  have h2:0<=N (.v 2) - N (.v 4) - 1:=hF.g mh
  exact hF.is (GP (Bg hI) (decide_eq_true (h1 _ om)))))
  (rr (t:=[]) (lt:=[]) (m:=3) (f:=341) (k:=4) trivial trivial rfl rfl kr) λE hF=>hF.lt (.v 4) (.v 2)) λE hF=>by
  obtain⟨b1,b2,b3,b4,_⟩:=wo (Bg hF)
  show 0<=N (.v 2) - N (.v 4)
  omega
theorem PB {E:Env} (hF:ah sS.fa.fx):ah iz.fx/\N dg=ni (Go.Z.fA (D ro) (D rn)) (N (.v 2)).toNat 0/\N (.v 4)<=N dg/\N dg < N (.v 2):=by
 have hI:ah (iz.is mE false).fx:=⟨hF.vb,λl hl=>hF.fs l (mt (mt hl)),hF.tr,hF.eq⟩
 refine⟨Bg hI,rfl,?_,?_⟩
 .have:0<=N dg - N (.v 4):=hF.g (mt mh)
  omega
 .have:0<=N (.v 2) - N dg - 1:=hF.g mh
  omega
theorem agz:ct aa Tryz.f341.ntmps (aI 4 (loops (aC Tryz.f341))) sS:=
 cr.all (.or
  (rr (t:=[]) (lt:=[]) (m:=3) (f:=341) (k:=4) (fa:=((sS.fa.is fA true).ge (lss (.v 4) (.v 2))).ge (lss (.v 4) dg)) trivial trivial rfl rfl kr)
  (rr (t:=[]) (lt:=[]) (m:=3) (f:=341) (k:=4) (fa:=((sS.fa.is fA false).ge (lss (.v 4) (.v 2))).ge (.o2 1 (.v 4) dg)) trivial trivial rfl rfl kr)
  λE hF=>by
   obtain⟨h1,h3,h4,h5⟩:=PB hF
   obtain⟨b1,b2,b3,b4,_⟩:=wo h1
   have h6:0<=N (lss (.v 4) (.v 2)):=show 0<=N (.v 2) - N (.v 4) - 1 by omega
   by_cases e:Go.Z.fA (D ro) (D rn) (N (.v 4)).toNat
   .refine .inl (((hF.is (GP h1 (decide_eq_true e))).ge h6).ge ?_)
    show 0<=N dg - N (.v 4) - 1
    rcases NZ h4 with h | h
    .omega
    .rw[h,h3] at e
     exact absurd e (afc _ _ om)
   .refine .inr (((hF.is (GP h1 (decide_eq_false e))).ge h6).ge ?_)
    show 0<=N (.v 4) - N dg
    rcases NZ h4 with h | h
    .rw[h3] at h
     exact absurd (Vm (p:=Go.Z.fA (D ro) (D rn)) (N (.v 2)).toNat 0 _ (Aq _) om) e
    .omega) λE hF=>by
  obtain⟨h1,h3,h4,h5⟩:=PB hF
  obtain⟨b1,b2,b3,b4,_⟩:=wo h1
  show 0<=N (.v 2) - N (.v 4)
  omega
theorem Pa:cA aa ((341,4),gC (aW sR) (aW sS)):=jE (dZ Tryz.func341 kr agy) (dZ Tryz.func341 kr agz)
theorem Iq : ab aa 341 sp := .or
    (Ic (sp := sp) (fa := kA.is mE true) (t := []) (lt := [((341, 4), gC (aW sR) (aW sS))]) (m := 5) trivial ⟨Pa, trivial⟩ kr)
    (.of (sp := { sp with fa := kA.is mE false }) (Ic (sp := sp) (fa := ((kA.is mE false).ge dg).ge (lss dg (.v 2))) (t := []) (lt := [((341, 4), gC (aW sR) (aW sS))]) (m := 5) trivial ⟨Pa, trivial⟩ kr) fun E hF => by
      have h := xo (of_decide_eq_false (show decide (yes (∀ j : Nat, (j : Int) < N (.v 2) → Go.Z.fA (D ro) (D rn) j) ≠ 0) = false from hF.t mh))
      obtain ⟨h1, h2⟩ := aut h
      refine (hF.ge (x := dg) h1).ge ?_
      show 0 ≤ N (.v 2) - N dg - 1
      have : N dg < N (.v 2) := h2
      omega)
    fun E hF => hF.tf mE
end CaGT
end
end Go.Proofs.Y
namespace Go.Proofs.Y
open Go Go.Z
section
variable [kv]
abbrev ark:V:=oI 0 (.v 0) (.k (.v 0))
abbrev aOQ:List (Nat×Bl):=[EL 0 (qH (.v 0) dV)]
def afH:Lp:=⟨jv [(0,0,65536),(1,0,65536)] aal,[(3,ark),(10,R2),(11,IT)],1,[EL 0 (qH (.v 0) (iU dV 1))],.exit 0,[(3,ark)],1,aOQ,aal⟩
def QF:Sp:=⟨cI [(0,0,65536)],[R2],0,[],ark,1,aOQ⟩
theorem aUu:ct aa Tryz.f39.ntmps (aI 3 (loops (aC Tryz.f39))) afH:=
 cr.all (.or (rr (t:=[]) (lt:=[]) (m:=1) (f:=39) (k:=3) trivial trivial rfl rfl kr) (rr (t:=[]) (lt:=[]) (m:=1) (f:=39) (k:=3) trivial trivial rfl rfl kr) λE hF=>hF.lt (.v 1) (.v 0)) λE hF=>by
  have:=hF.fs _ mh
  rw[@pb _ E] at this
  exact this
theorem a1P:cA aa ((39,3),aW afH):=dZ Tryz.func39 kr aUu
theorem akK:ab aa 39 QF:=Xj (t:=[]) (lt:=[((39,3),aW afH)]) (m:=3) trivial ⟨a1P,trivial⟩ kr
theorem a1O:aY aa (39,av QF):=cf akK
end
end Go.Proofs.Y
namespace Go.Proofs.Y
open Go Go.Z
section
variable [kv]
abbrev tQ(a:X):Bl:=⟨3,[.a [.i64] aH a],false,0⟩
abbrev NK:Bl:=tQ ae
abbrev fE:ai:=.c .cT
abbrev jm(a:Nat)(b:List ai):Nat×Bl:=(a,⟨101,b,false,0⟩)
abbrev Cz:X:=.i 7168
abbrev arl:Bl:=oC mW (.o3 0 dV Cz dV)
def akL:Sp:=⟨oE,[gw aH],0,[],ji,18,[(0,NK),jm 1 [dM 17 mW,.c aqS,ag,bC,bC,ag,fE],(17,arl)]⟩
theorem aEr:ab aa 10 akL:=Xj (t:=[(39,av QF)]) (lt:=[]) (m:=5) ⟨a1O,trivial⟩ trivial kr
end
end Go.Proofs.Y
namespace Go.Proofs.Y
open Go Go.Z
section
open Hz
abbrev iG:Nat×Int×Int:=(80,0,255)
abbrev iH:Nat×Int×Int:=(84,0,1099511627776)
abbrev are:X:=bz mW 4
abbrev acT:X:=bz are 5
abbrev aOC:X:=bz (ir 7 6) 5
abbrev Aa:X:=ir 5 10
abbrev acU:X:=bQ 84 Aa
abbrev Cw(a:X):X:=xC (z5 a)
abbrev aOD:X×Bool:=(Cw (.v 4),true)
abbrev aOE:X×Bool:=(Cw (.v 5),true)
abbrev aOF:X:=kI 4 10
abbrev jl(a:X):X:=eN 80 a
abbrev acV:X:=eN 3 (kI 6 10)
abbrev aOG:X:=.f 2 (lE (jl aOF) acV Aa)
abbrev aOH:List (X×Bool):=[aOD,aOE,(Cw (.v 10),true),(aOG,true)]
def ae7:Fa:=dT [iG,iH,lL,(4,0,8192),(5,0,8192),Fi,tF,(10,0,8192)] [acT,aOC,Aa,.o2 1 tN acU] aOH
abbrev aOI:X:=bz (bz ff 6) 5
def auo:Fa:=dT [iG,iH,lL,(4,0,8192),(5,0,8192),Fi,(10,0,8192)] [acT,aOI,Aa,.o2 1 tN acU] aOH
section
variable {E:Env}
theorem Lb {x:X} (h:decide (N (.o2 12 (.o2 4 x aH) ae)≠0)=true) (h0:0<=N x):N x % 8=0:=by
 have e:N (.o2 12 (.o2 4 x aH) ae)=tf (decide (N (.o2 4 x aH)=0)):=rfl
 rw[e,gX,@uj _ E _ _ h0] at h
 exact of_decide_eq_true h
theorem ri {x:X} (h0:0<=N x) (h:N x % 8=0):decide (N (.o2 12 (.o2 4 x aH) ae)≠0)=true:=by
 have e:N (.o2 12 (.o2 4 x aH) ae)=tf (decide (N (.o2 4 x aH)=0)):=rfl
 rw[e,gX,@uj _ E _ _ h0]
 exact decide_eq_true h
theorem aQS {a b n:X} (h:decide (N (.f 2 (.c a (.c b (.c n .n))))≠0)=true):∀j:Nat,(j:Int) < N n->fA (D a) (D b) j:=jI (of_decide_eq_true h)
theorem XW {a b n:X} (h:∀j:Nat,(j:Int) < N n->fA (D a) (D b) j):decide (N (.f 2 (.c a (.c b (.c n .n))))≠0)=true:=dS h
theorem Ax {a b n a' b' n':X} (h:decide (N (.f 2 (.c a (.c b (.c n .n))))≠0)=true) (k:Nat) (hk:∀j:Nat,(j:Int) < N n'->((j+k:Nat):Int) < N n/\D a' j=D a (j+k)/\D b' j=D b (j+k)):decide (N (.f 2 (.c a' (.c b' (.c n' .n))))≠0)=true:=XW λj hj=>by
 obtain⟨h1,h2,h3⟩:=hk j hj
 have:=aQS h _ h1
 unfold fA at this ⊢
 rw[h2,h3]
 exact this
theorem aQR {a b n:X} (ha:∀j:Nat,(j:Int) < N n->D a j=255) (hb:∀j:Nat,(j:Int) < N n->0<=D b j/\D b j<=255):decide (N (.f 2 (.c a (.c b (.c n .n))))≠0)=true:=XW λj hj=>by
 unfold fA
 rw[ha j hj]
 have h:=hb j hj
 have e:(D b j).toNat &&& (255:Int).toNat=(D b j).toNat:=by
  rw[show (255:Int).toNat=2 ^ 8 - 1 from rfl,Uk]
  exact dE om
 rw[e,J8]
 rfl
structure FPF (E:Env):Prop where
 at0:0<=@N _ E (.v 4)
 n0:0<=@N _ E (.v 5)
 i0:0<=@N _ E (.v 10)
 o0:0<=@N _ E (.v 6)
 a1:@N _ E (.v 4)+@N _ E (.v 5)<=8192
 le:@N _ E (.v 10)<=@N _ E (.v 5)
 ma:@N _ E (.v 4) % 8=0
 mn:@N _ E (.v 5) % 8=0
 mi:@N _ E (.v 10) % 8=0
 st:0<=@N _ E (.v 84)
 st1:@N _ E (.v 84)+(@N _ E (.v 5) - @N _ E (.v 10))<=1099511627776
 can:decide (@N _ E aOG≠0)=true
theorem lW (hF:ah ae7.fx):FPF E:=by
 have a:=(hF.b 4 rfl).1
 have b:=(hF.b 5 rfl).1
 have c:=(hF.b 10 rfl).1
 have h1:=hF.g (x:=.o2 1 are (.v 5)) mh
 have h3:=hF.g (x:=.o2 1 (.v 5) (.v 10)) (mt (mt mh))
 have h4:=hF.g (x:=.o2 1 tN acU) (mt (mt (mt mh)))
 have e1:(0:Int)<=8192 - N (.v 4) - N (.v 5):=h1
 have e3:(0:Int)<=N (.v 5) - N (.v 10):=h3
 have e4:(0:Int)<=1099511627776 - (N (.v 84)+(N (.v 5) - N (.v 10))):=h4
 exact⟨a,b,c,(hF.b 6 rfl).1,by omega,by omega,Lb (hF.t mh) a,Lb (hF.t (mt mh)) b,Lb (hF.t (mt (mt mh))) c,(hF.b 84 rfl).1,by omega,hF.t (mt (mt (mt mh)))⟩
theorem yK (hF:ah auo.fx):FPF E:=by
 have a:=(hF.b 4 rfl).1
 have b:=(hF.b 5 rfl).1
 have c:=(hF.b 10 rfl).1
 have h1:=hF.g (x:=.o2 1 are (.v 5)) mh
 have h3:=hF.g (x:=.o2 1 (.v 5) (.v 10)) (mt (mt mh))
 have h4:=hF.g (x:=.o2 1 tN acU) (mt (mt (mt mh)))
 have e1:(0:Int)<=8192 - N (.v 4) - N (.v 5):=h1
 have e3:(0:Int)<=N (.v 5) - N (.v 10):=h3
 have e4:(0:Int)<=1099511627776 - (N (.v 84)+(N (.v 5) - N (.v 10))):=h4
 exact⟨a,b,c,(hF.b 6 rfl).1,by omega,by omega,Lb (hF.t mh) a,Lb (hF.t (mt mh)) b,Lb (hF.t (mt (mt mh))) c,(hF.b 84 rfl).1,by omega,hF.t (mt (mt (mt mh)))⟩
theorem uE (h:FPF E) (hlt:N (.v 10) < N (.v 5)):0<=N (.v 5) - N (.v 10) - 8:=by have:=h.mn; have:=h.mi; omega
end
abbrev arf:V:=tA 3 (.v 6) (.v 5) .a
abbrev aOJ:gk:=[tm,(1,vp),(2,arf),(7,MJ)]
abbrev yc:ai:=dM 1 mW
abbrev yd:ai:=vv 2 aH Tn
abbrev arh:ai:=fQ 84
abbrev NJ:Nat×Bl:=jm 0 [yc,yd,arh,bC,bC,ag,fE]
abbrev FQ:Bl:=oC mW (.v 80)
abbrev ari:Bl:=tQ (.v 83)
abbrev qK:Nat×Bl:=(2,ari)
abbrev TC:Nat×Bl:=EL 3 S4
abbrev sm:X:=Ff Aa
abbrev vU(a:X):ai:=aF (bQ 84 a)
abbrev aq9:Nat×Bl:=jm 0 [yc,yd,vU sm,bC,bC,ag,fE]
abbrev TB:X:=kI 4 5
abbrev ara:X:=jl TB
abbrev aOB:X:=oY 80 aOF acV Aa ara
abbrev sq(a:Nat)(b:X):Nat×Bl:=cj a mW b
abbrev arb:Nat×Bl:=sq 1 aOB
def Hg:Lp:=⟨ae7,aOJ,4,[NJ,(1,FQ),qK,TC],.exit 1,[],4,[aq9,arb,qK,TC],Aa⟩
abbrev arc:X:=xE 10 5
abbrev ard:X:=.o2 1 Aa aH
abbrev aO5:X:=kI 10 4
abbrev art:X:=.f 2 (dG (jl aO5) acV FA)
abbrev TG:X:=bQ 10 aH
abbrev aru:X:=Cw TG
abbrev arv:X:=.f 2 (lE (.o2 15 (bZ (.v 80) aO5 acV aH (jl (bQ 10 (bQ 4 aH)))) (bQ 4 TG)) (eN 3 (nJ TG)) (cJ 5 TG))
abbrev JP:X:=Ff (cJ 5 TG)
abbrev arw:X:=ao (.o2 0 (nE 84) JP)
abbrev NN:X:=ao (bQ 84 sm)
abbrev ac2:X:=fP 84
abbrev m4(a:X):X:=bk a mW
abbrev ac3:X:=m4 (.v 80)
abbrev arx:X:=m4 aOB
theorem aUM:cr aa Tryz.f286.ntmps (aI 10 (loops (aC Tryz.f286))) Hg Hg.fa:=eX (t:=[(341,aO Ca.sp)]) (lt:=[]) (m:=8) (f:=286) (k:=10) ⟨(aQ Ca.Iq),trivial⟩ trivial (λ_=>rfl) rfl (.tf arc (.ge ard (.is art true (.is aru true (.is arv true (.same arw NN .lf))))) (.same ac2 NN (.same ac3 arx .lf))) ⟨⟨λE hF=>(by have:=uE (lW hF.1) hF.2; exact this),⟨λE hF=>(by have q:=uE (lW hF.1) hF.2; have p:=(lW hF.1); exact Ax p.can 0 λj hj=>⟨by have hj:(j:Int) < 8:=hj; show ((j+0:Nat):Int) < N (.v 5) - N (.v 10); omega,by show D (.v 80) (j+(N (.v 10)+N (.v 4)).toNat)=D (.v 80) (j+0+(N (.v 4)+N (.v 10)).toNat); congr 1; omega,by show D (.v 3) (j+(N (.v 6)+N (.v 10)).toNat)=D (.v 3) (j+0+(N (.v 6)+N (.v 10)).toNat); congr 1⟩),⟨λE hF=>(by have p:=(lW hF.1); have:=p.i0; have:=p.mi; exact ri (x:=.o2 0 (.v 10) aH) (by show (0:Int)<=N (.v 10)+8; omega) (by show (N (.v 10)+8) % 8=0; omega)),⟨λE hF=>(by
 have q:=uE (lW hF.1) hF.2
 have p:=(lW hF.1)
 obtain⟨a0,n0,i0,o0,a1,le,ma,mn,mi,s0,s1,c⟩:=p
 refine Ax c 8 λj hj=>?_
 have hj:(j:Int) < N (.v 5) - (N (.v 10)+8):=hj
 refine⟨by show ((j+8:Nat):Int) < N (.v 5) - N (.v 10); omega,?_,by show D (.v 3) (j+(N (.v 6)+(N (.v 10)+8)).toNat)=D (.v 3) (j+8+(N (.v 6)+N (.v 10)).toNat); congr 1; omega⟩
 show (if ((j+(N (.v 4)+(N (.v 10)+8)).toNat:Nat):Int) < N (.v 10)+N (.v 4) then _ else (if ((j+(N (.v 4)+(N (.v 10)+8)).toNat - (N (.v 10)+N (.v 4)).toNat:Nat):Int) < 8 then _ else D (.v 80) (j+(N (.v 4)+(N (.v 10)+8)).toNat - (N (.v 10)+N (.v 4)).toNat - (8:Int).toNat+(N (.v 10)+(N (.v 4)+8)).toNat)))=D (.v 80) (j+8+(N (.v 4)+N (.v 10)).toNat)
 rw[if_neg om,if_neg om]
 congr 1
 omega),⟨λE hF=>(aD (by
 have q:=uE (lW hF.1) hF.2
 have e1:N JP=(N (.v 5) - (N (.v 10)+8)) / 8:=@gQ _ E _ _ (by show (0:Int)<=N (.v 5) - (N (.v 10)+8); omega)
 have e2:N sm=(N (.v 5) - N (.v 10)) / 8:=@gQ _ E _ _ (by show (0:Int)<=N (.v 5) - N (.v 10); omega)
 show N (.v 84)+1+N JP=N (.v 84)+N sm
 rw[e1,e2]
 omega)),trivial⟩⟩⟩⟩⟩,⟨λE hF=>(aD (by
 have p:=(lW hF.1).le
 have q:N (.v 5)<=N (.v 10):=hF.2
 have e2:N sm=(N (.v 5) - N (.v 10)) / 8:=@gQ _ E _ _ (by show (0:Int)<=N (.v 5) - N (.v 10); omega)
 show N (.v 84)=N (.v 84)+N sm
 rw[e2]
 omega)),⟨λE hF=>(aq (λq hq=>by
 have p:=(lW hF.1)
 have p1:=p.le; have p2:=p.at0; have p3:=p.i0
 have r:N (.v 5)<=N (.v 10):=hF.2
 show _=(if (q:Int) < N (.v 4)+N (.v 10) then D (.v 80) q else (if ((q - (N (.v 4)+N (.v 10)).toNat:Nat):Int) < N (.v 5) - N (.v 10) then _ else D (.v 80) (q - (N (.v 4)+N (.v 10)).toNat - (N (.v 5) - N (.v 10)).toNat+(N (.v 4)+N (.v 5)).toNat)))
 by_cases h:(q:Int) < N (.v 4)+N (.v 10)
 .rw[if_pos h]
 .rw[if_neg h,if_neg om]
  congr 1
  omega) _),trivial⟩⟩⟩ kr
theorem aUK (E:Env) (hF:ah Hg.fa.fx):0<=N Hg.μ:=(lW hF).le|>λh=>by show (0:Int)<=N (.v 5) - N (.v 10); omega
theorem aUL:ct aa Tryz.f286.ntmps (aI 10 (loops (aC Tryz.f286))) Hg:=aUM.all aUK
theorem aTR:cA aa ((286,10),aW Hg):=dZ Tryz.func286 kr aUL
abbrev aO6:X:=.o2 1 tN (kI 84 5)
abbrev aO7:X:=eN 3 (.v 6)
abbrev aO8:List (X×Bool):=[aOD,aOE,(.f 2 (dG (jl (.v 4)) aO7 Jr),true)]
abbrev aO9:Fa:=dT [iG,iH,lL,(4,0,8192),(5,0,8192),Fi,tF] [acT,aOC,aO6] aO8
abbrev ary:Nat×Bl:=jm 0 [yc,yd,vU (Ff B8),bC,bC,ag,fE]
abbrev arz:Nat×Bl:=sq 1 (oY 80 Ji (eN 3 zH) B8 ara)
def aAi:Sp:=⟨aO9,[bS,vp,arf],4,[NJ,(1,FQ),qK,TC],eJ,4,[ary,arz,qK,TC]⟩
abbrev arA:Nat×Bl:=jm 0 [yc,yd,vU (Ff (.v 5)),bC,bC,ag,fE]
abbrev arB:Nat×Bl:=sq 1 (oY 80 (.v 4) aO7 (.v 5) ara)
def pFP:Sp:={aAi with v:=eJ,l':=[arA,arB,qK,TC]}
abbrev arC:X:=Cw ae
abbrev arD:X:=.f 2 (lE (jl Ji) (eN 3 zH) B8)
theorem a3c:ab aa 286 aAi:=dj (t:=[(341,aO Ca.sp)]) (lt:=[((286,10),aW Hg)]) (m:=8) ⟨(aQ Ca.Iq),trivial⟩ ⟨aTR,trivial⟩ (.is arC true (.is arD true .lf)) ⟨λE hF=>ri (x:=.i 0) (aP 0) rfl,⟨λE hF=>(Ax (hF.t (mt (mt mh))) 0 λj hj=>⟨by have hj:(j:Int) < N (.v 5) - 0:=hj; show ((j+0:Nat):Int) < N (.v 5); omega,by show D (.v 80) (j+(N (.v 4)+0).toNat)=D (.v 80) (j+0+(N (.v 4)).toNat); congr 1; omega,by show D (.v 3) (j+(N (.v 6)+0).toNat)=D (.v 3) (j+0+(N (.v 6)).toNat); congr 1; omega⟩),df rfl⟩⟩ kr
theorem aAm:ab aa 286 pFP:=aL a3c [] _ _ (λ_ _ _ hq=>(gn hq).elim) kr
abbrev vV:Bl:=⟨5,S4,false,1⟩
def Hh:Lp:=⟨ae7,aOJ,4,[NJ,(1,FQ),qK,(3,vV)],.exit 1,[],4,[aq9,arb,qK,(3,vV)],Aa⟩
theorem aUG:cr aa Tryz.f286.ntmps (aI 10 (loops (aC Tryz.f286))) Hh Hh.fa:=eX (t:=[(341,aO Ca.sp)]) (lt:=[]) (m:=8) (f:=286) (k:=10) ⟨(aQ Ca.Iq),trivial⟩ trivial (λ_=>rfl) rfl (.tf arc (.ge ard (.is art true (.is aru true (.is arv true (.same arw NN .lf))))) (.same ac2 NN (.same ac3 arx .lf))) ⟨⟨λE hF=>(by have:=uE (lW hF.1) hF.2; exact this),⟨λE hF=>(by have q:=uE (lW hF.1) hF.2; have p:=(lW hF.1); exact Ax p.can 0 λj hj=>⟨by have hj:(j:Int) < 8:=hj; show ((j+0:Nat):Int) < N (.v 5) - N (.v 10); omega,by show D (.v 80) (j+(N (.v 10)+N (.v 4)).toNat)=D (.v 80) (j+0+(N (.v 4)+N (.v 10)).toNat); congr 1; omega,by show D (.v 3) (j+(N (.v 6)+N (.v 10)).toNat)=D (.v 3) (j+0+(N (.v 6)+N (.v 10)).toNat); congr 1⟩),⟨λE hF=>(by have p:=(lW hF.1); have:=p.i0; have:=p.mi; exact ri (x:=.o2 0 (.v 10) aH) (by show (0:Int)<=N (.v 10)+8; omega) (by show (N (.v 10)+8) % 8=0; omega)),⟨λE hF=>(by
 have q:=uE (lW hF.1) hF.2
 have p:=(lW hF.1)
 obtain⟨a0,n0,i0,o0,a1,le,ma,mn,mi,s0,s1,c⟩:=p
 refine Ax c 8 λj hj=>?_
 have hj:(j:Int) < N (.v 5) - (N (.v 10)+8):=hj
 refine⟨by show ((j+8:Nat):Int) < N (.v 5) - N (.v 10); omega,?_,by show D (.v 3) (j+(N (.v 6)+(N (.v 10)+8)).toNat)=D (.v 3) (j+8+(N (.v 6)+N (.v 10)).toNat); congr 1; omega⟩
 show (if ((j+(N (.v 4)+(N (.v 10)+8)).toNat:Nat):Int) < N (.v 10)+N (.v 4) then _ else (if ((j+(N (.v 4)+(N (.v 10)+8)).toNat - (N (.v 10)+N (.v 4)).toNat:Nat):Int) < 8 then _ else D (.v 80) (j+(N (.v 4)+(N (.v 10)+8)).toNat - (N (.v 10)+N (.v 4)).toNat - (8:Int).toNat+(N (.v 10)+(N (.v 4)+8)).toNat)))=D (.v 80) (j+8+(N (.v 4)+N (.v 10)).toNat)
 rw[if_neg om,if_neg om]
 congr 1
 omega),⟨λE hF=>(aD (by
 have q:=uE (lW hF.1) hF.2
 have e1:N JP=(N (.v 5) - (N (.v 10)+8)) / 8:=@gQ _ E _ _ (by show (0:Int)<=N (.v 5) - (N (.v 10)+8); omega)
 have e2:N sm=(N (.v 5) - N (.v 10)) / 8:=@gQ _ E _ _ (by show (0:Int)<=N (.v 5) - N (.v 10); omega)
 show N (.v 84)+1+N JP=N (.v 84)+N sm
 rw[e1,e2]
 omega)),trivial⟩⟩⟩⟩⟩,⟨λE hF=>(aD (by
 have p:=(lW hF.1).le
 have q:N (.v 5)<=N (.v 10):=hF.2
 have e2:N sm=(N (.v 5) - N (.v 10)) / 8:=@gQ _ E _ _ (by show (0:Int)<=N (.v 5) - N (.v 10); omega)
 show N (.v 84)=N (.v 84)+N sm
 rw[e2]
 omega)),⟨λE hF=>(aq (λq hq=>by
 have p:=(lW hF.1)
 have p1:=p.le; have p2:=p.at0; have p3:=p.i0
 have r:N (.v 5)<=N (.v 10):=hF.2
 show _=(if (q:Int) < N (.v 4)+N (.v 10) then D (.v 80) q else (if ((q - (N (.v 4)+N (.v 10)).toNat:Nat):Int) < N (.v 5) - N (.v 10) then _ else D (.v 80) (q - (N (.v 4)+N (.v 10)).toNat - (N (.v 5) - N (.v 10)).toNat+(N (.v 4)+N (.v 5)).toNat)))
 by_cases h:(q:Int) < N (.v 4)+N (.v 10)
 .rw[if_pos h]
 .rw[if_neg h,if_neg om]
  congr 1
  omega) _),trivial⟩⟩⟩ kr
theorem aUE (E:Env) (hF:ah Hh.fa.fx):0<=N Hh.μ:=(lW hF).le|>λh=>by show (0:Int)<=N (.v 5) - N (.v 10); omega
theorem aUF:ct aa Tryz.f286.ntmps (aI 10 (loops (aC Tryz.f286))) Hh:=aUG.all aUE
theorem aTS:cA aa ((286,10),aW Hh):=dZ Tryz.func286 kr aUF
def aAj:Sp:=⟨aO9,[bS,vp,arf],4,[NJ,(1,FQ),qK,(3,vV)],eJ,4,[ary,arz,qK,(3,vV)]⟩
def DO:Sp:={aAj with v:=eJ,l':=[arA,arB,qK,(3,vV)]}
theorem a3d:ab aa 286 aAj:=dj (t:=[(341,aO Ca.sp)]) (lt:=[((286,10),aW Hh)]) (m:=8) ⟨(aQ Ca.Iq),trivial⟩ ⟨aTS,trivial⟩ (.is arC true (.is arD true .lf)) ⟨λE hF=>ri (x:=.i 0) (aP 0) rfl,⟨λE hF=>(Ax (hF.t (mt (mt mh))) 0 λj hj=>⟨by have hj:(j:Int) < N (.v 5) - 0:=hj; show ((j+0:Nat):Int) < N (.v 5); omega,by show D (.v 80) (j+(N (.v 4)+0).toNat)=D (.v 80) (j+0+(N (.v 4)).toNat); congr 1; omega,by show D (.v 3) (j+(N (.v 6)+0).toNat)=D (.v 3) (j+0+(N (.v 6)).toNat); congr 1; omega⟩),df rfl⟩⟩ kr
theorem H6:ab aa 286 DO:=aL a3d [] _ _ (λ_ _ _ hq=>(gn hq).elim) kr
abbrev aPa:V:=.c (.sl 3 5 (.v 6) (.v 5) .a)
abbrev TH:Nat×Bl:=Jn 3 [bg,fK,jL,gh,qD,ab2,oQ,oR,oS,oT,oN,lI,oP,lJ,ko,lK,a8,mV,fc,kS,cK,cK]
def Hi:Lp:=⟨auo,[tm,(1,vp),(2,aPa),(7,MJ)],5,[NJ,(1,FQ),qK,TH],.exit 1,[],5,[aq9,arb,qK,TH],Aa⟩
theorem aUJ:cr aa Tryz.f286.ntmps (aI 10 (loops (aC Tryz.f286))) Hi Hi.fa:=eX (t:=[(341,aO CaGT.sp)]) (lt:=[]) (m:=8) (f:=286) (k:=10) ⟨(aQ CaGT.Iq),trivial⟩ trivial (λ_=>rfl) rfl (.tf arc (.ge ard (.is art true (.is aru true (.is arv true (.same arw NN .lf))))) (.same ac2 NN (.same ac3 arx .lf))) ⟨⟨λE hF=>(by have:=uE (yK hF.1) hF.2; exact this),⟨λE hF=>(by have q:=uE (yK hF.1) hF.2; have p:=(yK hF.1); exact Ax p.can 0 λj hj=>⟨by have hj:(j:Int) < 8:=hj; show ((j+0:Nat):Int) < N (.v 5) - N (.v 10); omega,by show D (.v 80) (j+(N (.v 10)+N (.v 4)).toNat)=D (.v 80) (j+0+(N (.v 4)+N (.v 10)).toNat); congr 1; omega,by show D (.v 3) (j+(N (.v 6)+N (.v 10)).toNat)=D (.v 3) (j+0+(N (.v 6)+N (.v 10)).toNat); congr 1⟩),⟨λE hF=>(by have p:=(yK hF.1); have:=p.i0; have:=p.mi; exact ri (x:=.o2 0 (.v 10) aH) (by show (0:Int)<=N (.v 10)+8; omega) (by show (N (.v 10)+8) % 8=0; omega)),⟨λE hF=>(by
 have q:=uE (yK hF.1) hF.2
 have p:=(yK hF.1)
 obtain⟨a0,n0,i0,o0,a1,le,ma,mn,mi,s0,s1,c⟩:=p
 refine Ax c 8 λj hj=>?_
 have hj:(j:Int) < N (.v 5) - (N (.v 10)+8):=hj
 refine⟨by show ((j+8:Nat):Int) < N (.v 5) - N (.v 10); omega,?_,by show D (.v 3) (j+(N (.v 6)+(N (.v 10)+8)).toNat)=D (.v 3) (j+8+(N (.v 6)+N (.v 10)).toNat); congr 1; omega⟩
 show (if ((j+(N (.v 4)+(N (.v 10)+8)).toNat:Nat):Int) < N (.v 10)+N (.v 4) then _ else (if ((j+(N (.v 4)+(N (.v 10)+8)).toNat - (N (.v 10)+N (.v 4)).toNat:Nat):Int) < 8 then _ else D (.v 80) (j+(N (.v 4)+(N (.v 10)+8)).toNat - (N (.v 10)+N (.v 4)).toNat - (8:Int).toNat+(N (.v 10)+(N (.v 4)+8)).toNat)))=D (.v 80) (j+8+(N (.v 4)+N (.v 10)).toNat)
 rw[if_neg om,if_neg om]
 congr 1
 omega),⟨λE hF=>(aD (by
 have q:=uE (yK hF.1) hF.2
 have e1:N JP=(N (.v 5) - (N (.v 10)+8)) / 8:=@gQ _ E _ _ (by show (0:Int)<=N (.v 5) - (N (.v 10)+8); omega)
 have e2:N sm=(N (.v 5) - N (.v 10)) / 8:=@gQ _ E _ _ (by show (0:Int)<=N (.v 5) - N (.v 10); omega)
 show N (.v 84)+1+N JP=N (.v 84)+N sm
 rw[e1,e2]
 omega)),trivial⟩⟩⟩⟩⟩,⟨λE hF=>(aD (by
 have p:=(yK hF.1).le
 have q:N (.v 5)<=N (.v 10):=hF.2
 have e2:N sm=(N (.v 5) - N (.v 10)) / 8:=@gQ _ E _ _ (by show (0:Int)<=N (.v 5) - N (.v 10); omega)
 show N (.v 84)=N (.v 84)+N sm
 rw[e2]
 omega)),⟨λE hF=>(aq (λq hq=>by
 have p:=(yK hF.1)
 have p1:=p.le; have p2:=p.at0; have p3:=p.i0
 have r:N (.v 5)<=N (.v 10):=hF.2
 show _=(if (q:Int) < N (.v 4)+N (.v 10) then D (.v 80) q else (if ((q - (N (.v 4)+N (.v 10)).toNat:Nat):Int) < N (.v 5) - N (.v 10) then _ else D (.v 80) (q - (N (.v 4)+N (.v 10)).toNat - (N (.v 5) - N (.v 10)).toNat+(N (.v 4)+N (.v 5)).toNat)))
 by_cases h:(q:Int) < N (.v 4)+N (.v 10)
 .rw[if_pos h]
 .rw[if_neg h,if_neg om]
  congr 1
  omega) _),trivial⟩⟩⟩ kr
theorem aUH (E:Env) (hF:ah Hi.fa.fx):0<=N Hi.μ:=(yK hF).le|>λh=>by show (0:Int)<=N (.v 5) - N (.v 10); omega
theorem aUI:ct aa Tryz.f286.ntmps (aI 10 (loops (aC Tryz.f286))) Hi:=aUJ.all aUH
theorem aTT:cA aa ((286,10),aW Hi):=dZ Tryz.func286 kr aUI
def aAl:Sp:=⟨dT [iG,iH,lL,(4,0,8192),(5,0,8192),Fi] [acT,aOI,aO6] aO8,[bS,vp,aPa],5,[NJ,(1,FQ),qK,TH],eJ,5,[ary,arz,qK,TH]⟩
def aAk:Sp:={aAl with v:=eJ,l':=[arA,arB,qK,TH]}
theorem a3e:ab aa 286 aAl:=dj (t:=[(341,aO CaGT.sp)]) (lt:=[((286,10),aW Hi)]) (m:=8) ⟨(aQ CaGT.Iq),trivial⟩ ⟨aTT,trivial⟩ (.is arC true (.is arD true .lf)) ⟨λE hF=>ri (x:=.i 0) (aP 0) rfl,⟨λE hF=>(Ax (hF.t (mt (mt mh))) 0 λj hj=>⟨by have hj:(j:Int) < N (.v 5) - 0:=hj; show ((j+0:Nat):Int) < N (.v 5); omega,by show D (.v 80) (j+(N (.v 4)+0).toNat)=D (.v 80) (j+0+(N (.v 4)).toNat); congr 1; omega,by show D (.v 3) (j+(N (.v 6)+0).toNat)=D (.v 3) (j+0+(N (.v 6)).toNat); congr 1; omega⟩),df rfl⟩⟩ kr
theorem a3f:ab aa 286 aAk:=aL a3e [] _ _ (λ_ _ _ hq=>(gn hq).elim) kr
end
end Go.Proofs.Y
namespace Go.Proofs.Y
open Go Go.Z
section
open Hz
theorem att {x:Int} {i:Int} (h0:0<=i) (h:i < 8):p7 (8 - (i+1)).toNat (GN x)=p7 (8 - i).toNat x:=by
 rw[show (8 - i).toNat=(8 - (i+1)).toNat+1 by omega]
 rfl
theorem aQ6 {b c:R} {k:Int} (hk:0 < k) (x:Int) (h:∀q,c q=b (q+1)):ld c (k - 1).toNat 0 (KA x (b 0))=ld b k.toNat 0 x:=by
 rw[show k.toNat=(k - 1).toNat+1 by omega,atv b c 1 h]
 rfl
attribute [local irreducible] Hz.p7 Hz.ld Hz.GN Hz.yD
theorem KI (E:Env) (x k:X):N (.f 1041 (.c x (.c k .n)))=lb (p7 (N k).toNat (N x)):=rfl
theorem U8 (E:Env) (x b n:X):N (.f 1043 (.c x (.c b (.c n .n))))=lb (ld (D b) (N n).toNat 0 (N x)):=rfl
theorem aQ4 {x:Int} (h:(((x.toNat &&& (1:Int).toNat:Nat):Int))=1):GN x=((((((x.toNat>>>(1:Int).toNat:Nat):Int)).toNat ^^^ (3988292384:Int).toNat:Nat):Int)):=by unfold GN; rw[if_pos h]
theorem aR4 (E:Env) (b n:X):N (.f 1044 (.c b (.c n .n)))=4294967295 - lb (ld (D b) (N n).toNat 0 4294967295):=rfl
theorem aQ5 {x c:Int} (h0:0<=x) (h1:x<=4294967295):KA x c=((((((x.toNat>>>(8:Int).toNat:Nat):Int)).toNat ^^^ (yD ((((x % 256).toNat ^^^ c.toNat:Nat):Int)).toNat).toNat:Nat):Int)):=by
 unfold KA
 refine Lz.a6 om ?_
 have a:x.toNat>>>(8:Int).toNat < 2 ^ 32:=by
  rw[qQ]
  exact Gm (adZ _ _) om
 have b:=Oz (p7 8 ((((x % 256).toNat ^^^ c.toNat:Nat):Int)).toNat)
 have b:0<=yD ((((x % 256).toNat ^^^ c.toNat:Nat):Int)).toNat/\yD ((((x % 256).toNat ^^^ c.toNat:Nat):Int)).toNat<=4294967295:=by unfold yD; exact b
 have:=N8 (n:=32) a (y:=(yD ((((x % 256).toNat ^^^ c.toNat:Nat):Int)).toNat).toNat) om
 have e:(((x.toNat>>>(8:Int).toNat:Nat):Int)).toNat=x.toNat>>>(8:Int).toNat:=rfl
 rw[e]
 omega
theorem aQ3 {x:Int} (h:¬(((x.toNat &&& (1:Int).toNat:Nat):Int))=1):GN x=((x.toNat>>>(1:Int).toNat:Nat):Int):=by unfold GN; rw[if_neg h]
abbrev JQ(a:X):V:=.c (.int .u32 a)
abbrev aOT:V:=JQ (.v 1)
abbrev aOU:X:=.f 1041 (eZ 1 (bz aH 2))
def Hr:Lp:=⟨cI [vt,(2,0,8)],[(3,aOT),(7,Jo)],0,[],.exit 0,[(3,JQ aOU)],0,[],bz aH 2⟩
abbrev aOV:X:=bj (.o2 1 aH kQ)
abbrev arn:X:=ao aOU
theorem aWV:cr aa Tryz.f340.ntmps (aI 3 (loops (aC Tryz.f340))) Hr Hr.fa:=eX (t:=[]) (lt:=[]) (m:=8) (f:=340) (k:=3) trivial trivial (λ_=>rfl) rfl (.tf (lA 2 aH) (.tf (rS (zI (.v 1))) (.same (ao (.f 1041 (.c (.o2 7 (nI 1 aj) (.i 3988292384)) aOV))) arn .lf) (.same (ao (.f 1041 (.c (nI 1 aj) aOV))) arn .lf)) (.same St arn .lf)) ⟨⟨⟨λE hF=>(aD (by
 have b2:=(hF.1.1.b 2 rfl).1
 have l2:N (.v 2) < 8:=hF.1.2
 rw[KI,KI]
 show lb (p7 (8 - (N (.v 2)+1)).toNat _)=lb (p7 (8 - N (.v 2)).toNat (N (.v 1)))
 rw[<- att b2 l2,aQ4 (x:=N (.v 1)) hF.2]
 rfl)),trivial⟩,⟨λE hF=>(aD (by
 have b2:=(hF.1.1.b 2 rfl).1
 have l2:N (.v 2) < 8:=hF.1.2
 rw[KI,KI]
 show lb (p7 (8 - (N (.v 2)+1)).toNat _)=lb (p7 (8 - N (.v 2)).toNat (N (.v 1)))
 rw[<- att b2 l2,aQ3 (x:=N (.v 1)) hF.2]
 rfl)),trivial⟩⟩,⟨λE hF=>(aD (by
 have l2:(8:Int)<=N (.v 2):=hF.2
 rw[KI]
 show _=lb (p7 (8 - N (.v 2)).toNat (N (.v 1)))
 rw[show (8 - N (.v 2)).toNat=0 by omega]
 unfold p7
 exact (Lz.a6 (hF.1.b 1 rfl).1 (hF.1.b 1 rfl).2).symm)),trivial⟩⟩ kr
theorem aWT (E:Env) (hF:ah Hr.fa.fx):0<=N Hr.μ:=by have:=(hF.b 2 rfl).2; show (0:Int)<=8 - N (.v 2); omega
theorem aWU:ct aa Tryz.f340.ntmps (aI 3 (loops (aC Tryz.f340))) Hr:=aWV.all aWT
theorem aTY:cA aa ((340,3),aW Hr):=dZ Tryz.func340 kr aWU
abbrev aOW:X:=.f 1041 (eZ 1 (rY aH))
def ai2:Sp:=lC (cI [(1,0,1000)]) [IT] (JQ aOW)
abbrev NM:X:=.f 1042 .n
def aBI:Sp:={ai2 with v:=JQ (.o2 14 NM (.v 1)),l':=ai2.l'}
theorem a45:ab aa 340 ai2:=aG (t:=[]) (lt:=[((340,3),aW Hr)]) (m:=8) trivial ⟨aTY,trivial⟩ .lf kr
theorem a46:ab aa 340 aBI:=aL a45 [((ao aOW),(ao (.o2 14 NM (.v 1))))] _ _ (al (λE hF=>(aD (by
 have b1:=(hF.b 1 rfl).1
 rw[KI,Gh]
 show lb (p7 (8 - 0:Int).toNat (N (.v 1)))=yD (N (.v 1)).toNat
 unfold yD
 rw[show (((N (.v 1)).toNat:Nat):Int)=N (.v 1) by omega]
 rfl)))<|aN) kr
abbrev aro:Nat×Bl:=(0,⟨381,[.a [.u32] cV NM],false,0⟩)
def HK:Lp:=⟨cI [(2,0,256)],[(0,ji),(1,bS),(3,Jo)],2,[(0,⟨381,[.a [.u32] cV (iU NM 2)],false,0⟩)],.exit 0,[(0,ji),(1,bS)],2,[aro],bz cV 2⟩
theorem aYF:cr aa Tryz.f321.ntmps (aI 3 (loops (aC Tryz.f321))) HK HK.fa:=eX (t:=[(340,aO aBI)]) (lt:=[]) (m:=8) (f:=321) (k:=3) ⟨(aQ a46),trivial⟩ trivial (λ_=>rfl) rfl (.tf (lA 2 cV) .lf .lf) ⟨trivial,trivial⟩ kr
theorem aYD (E:Env) (hF:ah HK.fa.fx):0<=N HK.μ:=by have:=(hF.b 2 rfl).2; show (0:Int)<=256 - N (.v 2); omega
theorem aYE:ct aa Tryz.f321.ntmps (aI 3 (loops (aC Tryz.f321))) HK:=aYF.all aYD
theorem aUe:cA aa ((321,3),aW HK):=dZ Tryz.func321 kr aYE
def aCG:Sp:=g9 oE [] [.a [.u32] cV NM]
theorem a6x:ab aa 321 aCG:=aG (t:=[]) (lt:=[((321,3),aW HK)]) (m:=8) trivial ⟨aUe,trivial⟩ .lf kr
abbrev arp:X:=.f 1043 (rR 1 Fk kq)
def He:Lp:=⟨fj [vt,lL,r6,vN,tF,Fi] [Nl,kq],[BT,(4,aOT),(8,abA),(9,vO),(10,Fj)],2,[aro,(1,vV)],.exit 0,[(4,JQ arp)],2,[aro,(1,vV)],kq⟩
abbrev JM(a:Nat):X:=.o1 3 (.v a)
theorem aUA:cr aa Tryz.f285.ntmps (aI 4 (loops (aC Tryz.f285))) He He.fa:=eX (t:=[]) (lt:=[]) (m:=8) (f:=285) (k:=4) trivial trivial (λ_=>rfl) rfl (.tf Fu (.same (ao (.f 1043 (.c (.o2 7 (nI 1 aH) (.o2 14 NM (.o2 7 (JM 1) Jp))) apW))) (ao arp) .lf) (.same St (ao arp) .lf)) ⟨⟨λE hF=>(aD (by
 have b5:=(hF.1.b 5 rfl).1; have b6:=(hF.1.b 6 rfl).1; have b4:=(hF.1.b 4 rfl).1; have b1:=hF.1.b 1 rfl
 have l:N (.v 6) < N (.v 5):=hF.2
 rw[U8,U8]
 have e:=aQ6 (b:=D Fk) (c:=D SY) (k:=N (.v 5) - N (.v 6)) om (N (.v 1)) (λq=>by show D (.v 3) (q+(N (.v 4)+(N (.v 6)+1)).toNat)=D (.v 3) (q+1+(N (.v 4)+N (.v 6)).toNat); congr 1; omega)
 have e2:D Fk 0=N Jp:=by show D (.v 3) (0+(N (.v 4)+N (.v 6)).toNat)=D (.v 3) (N (.v 4)+N (.v 6)).toNat; rw[Nat.zero_add]
 rw[e2,aQ5 b1.1 b1.2] at e
 refine congrArg lb ((congrArg (λk=>ld (D SY) (Int.toNat k) 0 _) (show N (.v 5) - (N (.v 6)+1)=N (.v 5) - N (.v 6) - 1 by omega)).trans e))),trivial⟩,⟨λE hF=>(aD (by
 have l:N (.v 5)<=N (.v 6):=hF.2
 have b1:=hF.1.b 1 rfl
 rw[U8]
 show _=lb (ld _ (N (.v 5) - N (.v 6)).toNat 0 (N (.v 1)))
 rw[show (N (.v 5) - N (.v 6)).toNat=0 by omega]
 unfold ld
 exact (Lz.a6 b1.1 b1.2).symm)),trivial⟩⟩ kr
theorem aUy (E:Env) (hF:ah He.fa.fx):0<=N He.μ:=by
 have h:=hF.g (x:=.o2 1 (.v 5) (.v 6)) (mt mh)
 exact h
theorem aUz:ct aa Tryz.f285.ntmps (aI 4 (loops (aC Tryz.f285))) He:=aUA.all aUy
theorem aTP:cA aa ((285,4),aW He):=dZ Tryz.func285 kr aUz
abbrev aOX:X:=.f 1043 (lE qx abE B8)
abbrev aOY:X:=vq aOX qx
def ah0:Sp:=pB (jv [lL,r6,vN,tF] Nl) acR (0,vV) (JQ aOY) [(0,vV)]
abbrev aOZ:X:=iU qF 5
abbrev aO0:X:=.f 1044 (.c aOZ Jr)
def WQ:Sp:={ah0 with v:=JQ aO0,l':=ah0.l'}
theorem a2E:ab aa 285 ah0:=aG (t:=[(321,aO aCG)]) (lt:=[((285,4),aW He)]) (m:=8) ⟨(aQ a6x),trivial⟩ ⟨aTP,trivial⟩ .lf kr
theorem ah1:ab aa 285 WQ:=aL a2E [((ao aOY),(ao aO0))] _ _ (al (λE hF=>(aD (by
 rw[aR4]
 show N aOX*(-1)+4294967295=_
 rw[U8]
 have e:ld (D abE) (N B8).toNat 0 4294967295=ld (D aOZ) (N (.v 5)).toNat 0 4294967295:=by
  rw[show N B8=N (.v 5) from Int.sub_zero _]
  refine atu _ _ _ λq hq=>?_
  show D (.v 3) (0+q+(N (.v 4)+0).toNat)=if ((0+q:Nat):Int) < N (.v 5) then D (.v 3) (0+q+(N (.v 4)).toNat) else _
  rw[if_pos om,Int.add_zero]
 show lb (ld _ _ 0 4294967295)*(-1)+4294967295=_
 rw[e]
 omega)))<|aN) kr
end
end Go.Proofs.Y
namespace Go.Proofs.Y
open Go Go.Z
section
open Hz
def Kq:X:=(.o2 6 (.o2 2 (.o2 6 (.o2 2 (.o2 6 (.o2 2 (.o2 6 (.o2 2 (.o2 6 (.o2 2 (.o2 6 (.o2 2 (.o2 6 (.o2 2 (.o2 6 (.i 0) (.o2 14 (.v 3) (.v 4))) (.i 256)) (.o2 14 (.v 3) (.o2 0 (.v 4) (.i 1)))) (.i 256)) (.o2 14 (.v 3) (.o2 0 (.v 4) (.i 2)))) (.i 256)) (.o2 14 (.v 3) (.o2 0 (.v 4) (.i 3)))) (.i 256)) (.o2 14 (.v 3) (.o2 0 (.v 4) (.i 4)))) (.i 256)) (.o2 14 (.v 3) (.o2 0 (.v 4) (.i 5)))) (.i 256)) (.o2 14 (.v 3) (.o2 0 (.v 4) (.i 6)))) (.i 256)) (.o2 14 (.v 3) (.o2 0 (.v 4) (.i 7))))
def Ko:X:=(.o2 6 (.o2 2 (.o2 6 (.o2 2 (.o2 6 (.o2 2 (.o2 6 (.o2 2 (.o2 6 (.o2 2 (.o2 6 (.o2 2 (.o2 6 (.o2 2 (.o2 6 (.i 0) (.o2 14 (.f 1014 (.c (.v 2) .n)) (.i 0))) (.i 256)) (.o2 14 (.f 1014 (.c (.v 2) .n)) (.i 1))) (.i 256)) (.o2 14 (.f 1014 (.c (.v 2) .n)) (.i 2))) (.i 256)) (.o2 14 (.f 1014 (.c (.v 2) .n)) (.i 3))) (.i 256)) (.o2 14 (.f 1014 (.c (.v 2) .n)) (.i 4))) (.i 256)) (.o2 14 (.f 1014 (.c (.v 2) .n)) (.i 5))) (.i 256)) (.o2 14 (.f 1014 (.c (.v 2) .n)) (.i 6))) (.i 256)) (.o2 14 (.f 1014 (.c (.v 2) .n)) (.i 7)))
attribute [local irreducible] Hz.Kp Hz.e8
theorem aR5 (E:Env) (x:X):N (.f 1046 (.c x .n))=Kp (D x):=rfl
section
variable {E:Env}
theorem or0 {c:X} {b:Int} (hc:N c=b) (hb:0<=b/\b<=255):N (.o2 6 ae c)=b:=by
 show ((((0:Int).toNat ||| (N c).toNat:Nat)):Int)=_
 rw[hc,show (0:Int).toNat=0 from rfl,Nat.zero_or]
 omega
theorem rk {x c:X} {a b:Int} (hx:N x=a) (hc:N c=b) (ha:0<=a) (hb:0<=b/\b<=255):N (.o2 6 (.o2 2 x cV) c)=a*256+b:=by
 show (((N x*256).toNat ||| (N c).toNat:Nat):Int)=_
 rw[hx,hc]
 obtain⟨n,rfl⟩:=yk ha
 obtain⟨p,rfl⟩:=yk hb.1
 have h:=Ur (i:=8) (b:=p) om n
 rw[show ((n:Int)*256).toNat=2 ^ 8*n by rw[show ((n:Int)*256)=((n*256:Nat):Int) from rfl,fg,n9],fg,<- h]
 omega
abbrev TE:X:=.f 1046 aq6
theorem as0 (h3:∀q,0<=D (.v 3) q/\D (.v 3) q<=255) (h4:0<=N (.v 4)):N Kq=N TE:=by
 rw[aR5]
 unfold Kp
 have e:∀k:Nat,k < 8->D (ck qF) k=D (.v 3) (k+(N (.v 4)).toNat):=λk hk=>by rw[cE,if_pos (by show (k:Int) < 8; omega)]; rfl
 have c0:N acQ=D (.v 3) (0+(N (.v 4)).toNat):=by rw[Nat.zero_add]; rfl
 have cs:∀k:Nat,N (.o2 14 (.v 3) (.o2 0 (.v 4) (.i (k:Int))))=D (.v 3) (k+(N (.v 4)).toNat):=λk=>by
  show D (.v 3) (N (.v 4)+(k:Int)).toNat=_
  congr 1
  omega
 have b:∀k:Nat,0<=D (.v 3) (k+(N (.v 4)).toNat)/\D (.v 3) (k+(N (.v 4)).toNat)<=255:=λk=>h3 _
 obtain⟨r,hr⟩:∃r:Nat->Int,∀k:Nat,D (.v 3) (k+(N (.v 4)).toNat)=r k:=⟨λk=>D (.v 3) (k+(N (.v 4)).toNat),λ_=>rfl⟩
 rw[e 0 dc,e 1 dc,e 2 dc,e 3 dc,e 4 dc,e 5 dc,e 6 dc,e 7 dc,hr,hr,hr,hr,hr,hr,hr,hr]
 rw[hr] at c0
 have cs:∀k:Nat,N (.o2 14 (.v 3) (.o2 0 (.v 4) (.i (k:Int))))=r k:=λk=>(cs k).trans (hr k)
 have b:∀k:Nat,0<=r k/\r k<=255:=λk=>by rw[<- hr k]; exact b k
 have b0:=b 0; have b1:=b 1; have b2:=b 2; have b3:=b 3; have b4:=b 4; have b5:=b 5; have b6:=b 6; have b7:=b 7
 clear e hr b
 have s0:=or0 c0 b0
 have s1:=rk s0 (cs 1) om b1
 have s2:=rk s1 (cs 2) om b2
 have s3:=rk s2 (cs 3) om b3
 have s4:=rk s3 (cs 4) om b4
 have s5:=rk s4 (cs 5) om b5
 have s6:=rk s5 (cs 6) om b6
 have s7:=rk s6 (cs 7) om b7
 unfold Kq
 refine (show _=_ from s7).trans ?_
 rw[Lz.a6] <;>omega
theorem as1 (h0:0<=N (.v 2)) (h1:N (.v 2)<=1152921504606846976):N Ko=N (.v 2):=by
 have cs:∀k:Nat,N (.o2 14 ap4 (.i (k:Int)))=e8 (N (.v 2)) k:=λk=>by rw[Gh,aeX]; rfl
 have b:∀k:Nat,0<=e8 (N (.v 2)) k/\e8 (N (.v 2)) k<=255:=λk=>atL _ _
 have d0:e8 (N (.v 2)) 0=N (.v 2) / 72057594037927936 % 256:=by unfold e8; rw[show (2:Int) ^ (56 - 8*0)=72057594037927936 by decide]
 have d1:e8 (N (.v 2)) 1=N (.v 2) / 281474976710656 % 256:=by unfold e8; rw[show (2:Int) ^ (56 - 8*1)=281474976710656 by decide]
 have d2:e8 (N (.v 2)) 2=N (.v 2) / 1099511627776 % 256:=by unfold e8; rw[show (2:Int) ^ (56 - 8*2)=1099511627776 by decide]
 have d3:e8 (N (.v 2)) 3=N (.v 2) / 4294967296 % 256:=by unfold e8; rw[show (2:Int) ^ (56 - 8*3)=4294967296 by decide]
 have d4:e8 (N (.v 2)) 4=N (.v 2) / 16777216 % 256:=by unfold e8; rw[show (2:Int) ^ (56 - 8*4)=16777216 by decide]
 have d5:e8 (N (.v 2)) 5=N (.v 2) / 65536 % 256:=by unfold e8; rw[show (2:Int) ^ (56 - 8*5)=65536 by decide]
 have d6:e8 (N (.v 2)) 6=N (.v 2) / 256 % 256:=by unfold e8; rw[show (2:Int) ^ (56 - 8*6)=256 by decide]
 have d7:e8 (N (.v 2)) 7=N (.v 2) / 1 % 256:=by unfold e8; rw[show (2:Int) ^ (56 - 8*7)=1 by decide]
 generalize N (.v 2)=x at*
 have t0:e8 x 0=x / 72057594037927936:=by rw[d0]; omega
 have t1:x / 72057594037927936*256+e8 x 1=x / 281474976710656:=by rw[d1]; omega
 have t2:x / 281474976710656*256+e8 x 2=x / 1099511627776:=by rw[d2]; omega
 have t3:x / 1099511627776*256+e8 x 3=x / 4294967296:=by rw[d3]; omega
 have t4:x / 4294967296*256+e8 x 4=x / 16777216:=by rw[d4]; omega
 have t5:x / 16777216*256+e8 x 5=x / 65536:=by rw[d5]; omega
 have t6:x / 65536*256+e8 x 6=x / 256:=by rw[d6]; omega
 have t7:x / 256*256+e8 x 7=x / 1:=by rw[d7]; omega
 have s0:=or0 (cs 0) (b 0)
 rw[t0] at s0
 have s1:=rk s0 (cs 1) om (b 1)
 rw[t1] at s1
 have s2:=rk s1 (cs 2) om (b 2)
 rw[t2] at s2
 have s3:=rk s2 (cs 3) om (b 3)
 rw[t3] at s3
 have s4:=rk s3 (cs 4) om (b 4)
 rw[t4] at s4
 have s5:=rk s4 (cs 5) om (b 5)
 rw[t5] at s5
 have s6:=rk s5 (cs 6) om (b 6)
 rw[t6] at s6
 have s7:=rk s6 (cs 7) om (b 7)
 rw[t7] at s7
 unfold Ko
 exact (show _=_ from s7).trans (JV x)
end
abbrev arq:List (Nat×Bl):=[EL 0 S4]
def aBy:Sp:=⟨aq5,acR,1,arq,tn Kq,1,arq⟩
def aBx:Sp:={aBy with v:=tn TE,l':=arq}
theorem a4Q:ab aa 175 aBy:=aG (t:=[]) (lt:=[]) (m:=8) trivial trivial .lf kr
theorem a4T:ab aa 175 aBx:=aL a4Q [((ao Kq),(ao TE))] _ _ (al (λE hF=>aD (as0 (hF.vb 3 _ _ rfl) (hF.b 4 rfl).1))<|aN) kr
abbrev ac0:Fa:=cI [fe,tG,lL]
abbrev aO1:List V:=[tA 0 aU (.i 136) .a]
abbrev CA:X:=.f 1013 vo
abbrev aO2:X:=zU 3 Js
abbrev ac1:List ai:=qH jM (bZ CA aU ap4 aH aO2)
abbrev JN:List (Nat×Bl):=[EL 0 ac1]
def aBu:Sp:=⟨ac0,aO1,1,JN,tn Ko,1,JN⟩
def aBt:Sp:={aBu with v:=Jx,l':=JN}
theorem a4M:ab aa 175 aBu:=aG (t:=[]) (lt:=[]) (m:=8) trivial trivial .lf kr
theorem a4P:ab aa 175 aBt:=aL a4M [((ao Ko),M0)] _ _ (al (λE hF=>aD (as1 (hF.b 2 rfl).1 (hF.b 2 rfl).2))<|aN) kr
abbrev JO:X:=vq Js ef
abbrev ars:X:=bz JO 6
abbrev aO3:Fa:=jv [fe,tG,lL,(6,0,128)] ars
abbrev TF:V:=oI 0 jM .a
abbrev aO4:gk:=[(0,TF),(4,ji),(30,tA 0 (xP Js 72) JO .a),(31,gw JO),(32,Fj)]
def Hn:Lp:=⟨aO3,aO4,2,JN,.exit 0,[(0,TF),(4,ji)],2,JN,ars⟩
theorem aWM:cr aa Tryz.f106.ntmps (aI 5 (loops (aC Tryz.f106))) Hn Hn.fa:=eX (t:=[]) (lt:=[]) (m:=8) (f:=106) (k:=5) trivial trivial (λ_=>rfl) rfl (.tf (lA 6 JO) .lf .lf) ⟨trivial,trivial⟩ kr
theorem aWK (E:Env) (hF:ah Hn.fa.fx):0<=N Hn.μ:=by
 have h:=hF.g (x:=.o2 1 JO (.v 6)) mh
 exact h
theorem aWL:ct aa Tryz.f106.ntmps (aI 5 (loops (aC Tryz.f106))) Hn:=aWM.all aWK
theorem aTV:cA aa ((106,5),aW Hn):=dZ Tryz.func106 kr aWL
abbrev acZ:V:=xK aaz vw
abbrev JK(a b:X):X:=.f 1046 (bj (ck (.o2 15 a b)))
abbrev aOR:Nat×Bl:=(1,⟨196,[de,kp (oW (.f 1046 (bj (ck CA))) (JK CA aH) (JK CA dA) (JK CA oV) (JK CA bW) (JK CA NA) (JK CA NB) (JK CA Fs) ae),apV,.a [.u8] ef aO2],false,0⟩)
def aBa:Sp:=kT ac0 [TF] JN acZ (EL 0 ac1) aOR
def PV:Sp:={aBa with v:=acZ,l':=JN}
theorem a4k:ab aa 106 aBa:=aG (t:=[(175,bG (aO aBt) (aO aBx))]) (lt:=[((106,5),aW Hn)]) (m:=8) ⟨(cS (aQ a4P) (aQ a4T)),trivial⟩ ⟨aTV,trivial⟩ .lf kr
theorem W0:ab aa 106 PV:=aL a4k [] _ _ (λ_ _ _ hq=>(gn hq).elim) kr
def aBA:Sp:=pB aq5 acR (0,vV) (tn Kq) [(0,vV)]
def aBz:Sp:={aBA with v:=tn TE,l':=[(0,vV)]}
theorem a4R:ab aa 175 aBA:=aG (t:=[]) (lt:=[]) (m:=8) trivial trivial .lf kr
theorem a4S:ab aa 175 aBz:=aL a4R [((ao Kq),(ao TE))] _ _ (al (λE hF=>aD (as0 (hF.vb 3 _ _ rfl) (hF.b 4 rfl).1))<|aN) kr
abbrev JL:List (Nat×Bl):=[(0,⟨5,ac1,false,1⟩)]
def aBw:Sp:=⟨ac0,aO1,1,JL,tn Ko,1,JL⟩
def aBv:Sp:={aBw with v:=Jx,l':=JL}
theorem a4N:ab aa 175 aBw:=aG (t:=[]) (lt:=[]) (m:=8) trivial trivial .lf kr
theorem a4O:ab aa 175 aBv:=aL a4N [((ao Ko),M0)] _ _ (al (λE hF=>aD (as1 (hF.b 2 rfl).1 (hF.b 2 rfl).2))<|aN) kr
def Ho:Lp:=⟨aO3,aO4,2,JL,.exit 0,[(0,TF),(4,ji)],2,JL,ars⟩
theorem aWJ:cr aa Tryz.f106.ntmps (aI 5 (loops (aC Tryz.f106))) Ho Ho.fa:=eX (t:=[]) (lt:=[]) (m:=8) (f:=106) (k:=5) trivial trivial (λ_=>rfl) rfl (.tf (lA 6 JO) .lf .lf) ⟨trivial,trivial⟩ kr
theorem aWH (E:Env) (hF:ah Ho.fa.fx):0<=N Ho.μ:=by
 have h:=hF.g (x:=.o2 1 JO (.v 6)) mh
 exact h
theorem aWI:ct aa Tryz.f106.ntmps (aI 5 (loops (aC Tryz.f106))) Ho:=aWJ.all aWH
theorem aTW:cA aa ((106,5),aW Ho):=dZ Tryz.func106 kr aWI
def aBb:Sp:=kT ac0 [TF] JL acZ (0,⟨5,ac1,false,1⟩) aOR
def DP:Sp:={aBb with v:=acZ,l':=JL}
theorem a4l:ab aa 106 aBb:=aG (t:=[(175,bG (aO aBv) (aO aBz))]) (lt:=[((106,5),aW Ho)]) (m:=8) ⟨(cS (aQ a4O) (aQ a4S)),trivial⟩ ⟨aTW,trivial⟩ .lf kr
theorem H7:ab aa 106 DP:=aL a4l [] _ _ (λ_ _ _ hq=>(gn hq).elim) kr
end
end Go.Proofs.Y
