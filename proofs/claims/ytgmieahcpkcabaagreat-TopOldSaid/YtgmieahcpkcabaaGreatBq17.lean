import Derived.Test.YtgmieahcpkcabaaGreatBq16
import Derived.Test.YtgmieahcpkcabaaGreatBq15
import Derived.Test.YtgmieahcpkcabaaGreatBq1
set_option maxRecDepth 100000
set_option linter.unusedSimpArgs false
set_option linter.unusedVariables false
set_option linter.constructorNameAsVariable false
set_option linter.unusedSectionVars false
noncomputable section
namespace Go.Proofs.Y
open Go Go.Z
section
open Hz
def aCL:Sp:=⟨⟨[(50,1,200),(71,0,255),(22,0,255),(1,0,18446744073709551615),(2,0,18446744073709551615),(91,0,18446744073709551615),(92,0,18446744073709551615)],[(.o2 1 (.v 1) (.v 2)),(.o2 1 (.v 91) (.v 92)),(.o2 1 (.v 91) (.v 2))],[],[]⟩,
 [.agg [.a [.u8] (.i 32) (.v 22)],.c (.sl 0 0 (.i 0) (.v 50) .a),.c (.int .u64 (.v 1)),.c (.int .u64 (.v 2)),.c (.int .u64 (.v 91)),.c (.int .u64 (.v 92))],1,[(0,⟨5,[.a [.u8] (.v 50) (.v 71)],true,0⟩)],
 .c (.bool true),1,[(0,⟨5,[.a [.u8] (.v 50) (.v 71)],true,0⟩)]⟩
abbrev aIX:X:=FT (cz nT nU nW jw (r9 ae aGr))
abbrev aIY:X:=RZ IN aIX (Rz 22 aIX)
abbrev aIZ:X:=FT (cz nT nU nW jw (bZ ae aj aj aj (bZ ae bA Z8 aH (pT Z9 aGq))))
abbrev aI0:X:=RZ IN aIZ (Rz 22 aIZ)
theorem a6I:ab aa 5 aCL:=dj (t:=[(28,au W1),(9,au W4),(8,au DR),(29,bG (au H8) (au Lo)),(26,au pDN)]) (lt:=[]) (m:=30) ⟨(aw aiD),(aw ajf),(aw H9),(cS (aw aCj) (aw a50)),(aw az7),trivial⟩ trivial (.is RX true (.is aIY true (.is aI0 true (.ge th (.tf (xE 2 92) .lf (.tf aIW .lf .lf)))))) ⟨λE hF=>decide_eq_true (by rw[aeC]; decide),⟨λE hF=>decide_eq_true (by rw[OA]; decide),⟨λE hF=>decide_eq_true (by rw[OA]; decide),⟨λE hF=>(akN (λq=>cO hF.vb (.v 71) 0 255 kr q) (by have:=hF.b 50 rfl; omega) (by have:=hF.b 50 rfl; omega)),df rfl⟩⟩⟩⟩ kr
def aCK:Sp:=⟨⟨[(50,1,200),(71,0,255),(22,0,255),(1,0,18446744073709551615),(2,0,18446744073709551615),(91,0,18446744073709551615),(92,0,18446744073709551615)],[(.o2 1 (.v 1) (.v 2)),(.o2 1 (.v 91) (.v 92)),(.o2 1 (.o2 1 (.v 2) (.v 91)) (.i 1))],[],[]⟩,
 [.agg [.a [.u8] (.i 32) (.v 22)],.c (.sl 0 0 (.i 0) (.v 50) .a),.c (.int .u64 (.v 1)),.c (.int .u64 (.v 2)),.c (.int .u64 (.v 91)),.c (.int .u64 (.v 92))],1,[(0,⟨5,[.a [.u8] (.v 50) (.v 71)],true,0⟩)],
 .c (.bool true),1,[(0,⟨5,[.a [.u8] (.v 50) (.v 71)],true,0⟩)]⟩
theorem a6H:ab aa 5 aCK:=dj (t:=[(28,au W1),(9,au W4),(8,au DR),(29,bG (au H8) (au Ln)),(26,au pDN)]) (lt:=[]) (m:=30) ⟨(aw aiD),(aw ajf),(aw H9),(cS (aw aCj) (aw a5V)),(aw az7),trivial⟩ trivial (.is RX true (.is aIY true (.is aI0 true (.ge th .lf)))) ⟨λE hF=>decide_eq_true (by rw[aeC]; decide),⟨λE hF=>decide_eq_true (by rw[OA]; decide),⟨λE hF=>decide_eq_true (by rw[OA]; decide),⟨λE hF=>(akN (λq=>cO hF.vb (.v 71) 0 255 kr q) (by have:=hF.b 50 rfl; omega) (by have:=hF.b 50 rfl; omega)),df rfl⟩⟩⟩⟩ kr
abbrev aI1:Fa:=cI [(50,0,0),jf,(22,0,255),fe,gi,aoa,aob]
abbrev aon:V:=IS 91
abbrev aoo:V:=IS 92
def a6F:Sp:=lC aI1 [Zw,vF,xA,Jx,aon,aoo] MQ
theorem a6G:ab aa 5 a6F:=aG (t:=[(8,au DR)]) (lt:=[]) (m:=30) ⟨(aw H9),trivial⟩ trivial .lf kr
def a6J:Sp:=⟨aI1,[Zw,am0,xA,Jx,aon,aoo],1,[],MQ,1,[]⟩
theorem a6K:ab aa 5 a6J:=aG (t:=[(8,au DR)]) (lt:=[]) (m:=30) ⟨(aw H9),trivial⟩ trivial .lf kr
def a6C:Sp:=⟨cI [(50,201,9223372036854775807),jf,(22,0,255),fe,gi,aoa,aob],[Zw,am0,xA,Jx,aon,aoo],1,[],MQ,1,[]⟩
theorem a6D:ab aa 5 a6C:=aG (t:=[(8,au DR)]) (lt:=[]) (m:=30) ⟨(aw H9),trivial⟩ trivial .lf kr
def aCI:Sp:=⟨⟨[(50,1,200),(71,0,255),(22,0,255),(1,0,18446744073709551615),(2,0,18446744073709551615),(91,0,18446744073709551615),(92,0,18446744073709551615)],[(.o2 1 (.o2 1 (.v 2) (.v 1)) (.i 1))],[],[]⟩,
 [.agg [.a [.u8] (.i 32) (.v 22)],.c (.sl 0 0 (.i 0) (.v 50) .a),.c (.int .u64 (.v 1)),.c (.int .u64 (.v 2)),.c (.int .u64 (.v 91)),.c (.int .u64 (.v 92))],1,[],
 .c (.bool true),1,[]⟩
theorem a6B:ab aa 5 aCI:=aG (t:=[(8,au DR)]) (lt:=[]) (m:=30) ⟨(aw H9),trivial⟩ trivial .lf kr
def aCJ:Sp:=⟨⟨[(50,1,200),(71,0,255),(22,0,255),(1,0,18446744073709551615),(2,0,18446744073709551615),(91,0,18446744073709551615),(92,0,18446744073709551615)],[(.o2 1 (.v 1) (.v 2)),(.o2 1 (.o2 1 (.v 92) (.v 91)) (.i 1))],[],[]⟩,
 [.agg [.a [.u8] (.i 32) (.v 22)],.c (.sl 0 0 (.i 0) (.v 50) .a),.c (.int .u64 (.v 1)),.c (.int .u64 (.v 2)),.c (.int .u64 (.v 91)),.c (.int .u64 (.v 92))],1,[],
 .c (.bool true),1,[]⟩
theorem a6E:ab aa 5 aCJ:=aG (t:=[(8,au DR)]) (lt:=[]) (m:=30) ⟨(aw H9),trivial⟩ trivial .lf kr
end
end Go.Proofs.Y
namespace Go.Proofs.Y
open Go Go.Sym Go.Z Go.ChangeShapes Go.WideShapes
section
variable {H:Type} {iM:TypeId×Value->H} {P:Program} {W:World} {base:Nat} {held:Bool}
theorem a1M {r:Reach} {b0:Nat} {t e:TypeId} {v:Value} {d:DataW H} {ps:List MemPlace} (ht:P.underlying t=some (.slice e)) (he:P.underlying e=some (.int .u8)) (hc1:P.cellsOf e=1) (hval:Value.okWide P W r b0 t v) (hd:DataW.Trod iM P W base (λ_=>true) held t v d ps):v=.slice none 0 0\/∃(b o m c:Nat) (f:Nat->Int),v=.slice (some ⟨b,o,none⟩) m c/\m<=c/\c<=maxLen/\∀i,i < m->W.cell? ⟨b,o+i,none⟩=some (.int .u8 (f i))/\0<=f i/\f i<=255:=by
 obtain⟨a0,len0,cap0,rfl⟩:=okWide_slice ht hval
 obtain⟨fuel,hf⟩:=hd
 rcases open_ints ht he hc1 hf with ⟨hcs,_⟩ | ⟨x,l,c,zs,hcs,_,hl,hm,hz,_,hcell,hwz⟩
 .simp[Value.cells] at hcs
  obtain⟨rfl,rfl,rfl⟩:=hcs
  exact .inl rfl
 .simp[Value.cells] at hcs
  obtain⟨rfl,rfl,rfl⟩:=hcs
  have hz':zs.length=cap0:=by simpa using hz
  obtain⟨b,off,spt⟩:=x
  have hs:spt=none:=by
   simp[Value.okWide,Cell.okWide,Cell.ok,ht,World.has] at hval
   exact hval.2.2.2.1
  subst hs
  refine .inr ⟨b,off,len0,cap0,λi=>zs.getD i 0,rfl,hl,hm,λi hi=>⟨?_,?_⟩⟩
  .have h1:=hcell i om
   rw[t8] at h1
   exact h1
  .have:zs.getD i 0∈zs:=by
    rw[Gd,ue om]
    exact List.getElem_mem _
   have hw:=hwz _ this
   simp[Lit.wf] at hw
   refine⟨?_,?_⟩
   .show (0:Int)<=zs.getD i 0
    rw[Gd]; exact hw.1
   .show zs.getD i 0<=(255:Int)
    rw[Gd]; exact hw.2
end
theorem a8n {E:Env} {P:Program} {f:FuncId} {args:Array Value} {w:World} {bs:Nm} {h h':Hp} {v:V} {u:Value} (hok:GH P f=true) (hc:n5 P f args w (@iI _ E w bs h v h')) (hno:∀k,¬k9 h bs k) (hv:∀bs x,@VR _ E bs v x->x=u):Pure P f args w u:=by
 have key:∀x w',@iI _ E w bs h v h' x w'->x=u/\Mem w w' []:=by
  rintro x w' ⟨bs',_,m,hx⟩
  exact⟨hv bs' x hx,⟨m.os,m.tape,m.output,m.size,(λk hk _=>m.cL k hk (hno k)),(λe he=>by cases he),ar9⟩⟩
 refine⟨hok,?_⟩
 rcases hc with ⟨x,w',h1,_⟩ | ⟨_,h2⟩
 .rw[aEe hok] at h1; cases h1
 .exact h2.mono λe w' ⟨x,he,ha⟩=>⟨by rw[he,(key x w' ha).1],(key x w' ha).2⟩
section
variable [Env]
theorem a_q {vb:VB} (h:∀p∈vb,∀i,p.2.1<=Env.v p.1 i/\Env.v p.1 i<=p.2.2):Ar vb:=λk lo hi e i=>h (k,lo,hi) (Pe e) i
theorem GY {fa:Fa} (h1:∀p∈fa.vb,∀i,p.2.1<=Env.v p.1 i/\Env.v p.1 i<=p.2.2) (h2:∀x∈fa.fs,0<=Go.Z.N x) (h3:fa.tr=[]) (h4:fa.eq=[]):ah fa.fx where
 vb:=a_q h1
 fs l hl:=by
  obtain⟨x,hx,rfl⟩:=yn.1 hl
  rw[pb]; exact h2 x hx
 tr p hp:=by
  have:p∈fa.tr:=hp
  rw[h3] at this; cases this
 eq p hp:=by
  have:p∈fa.eq:=hp
  rw[h4] at this; cases this
end
@[reducible] def aRG (m:Int) (d s:R) (a b c e:Int):Env:=⟨λk=>match k with
 | 50=>λ_=>m
 | 71=>d
 | 22=>s
 | 1=>λ_=>a
 | 2=>λ_=>b
 | 91=>λ_=>c
 | 92=>λ_=>e
 | _=>λ_=>0⟩
def uS (k o:Nat):Nm:=⟨λid=>if id=0 then some k else none,λ_=>none,λ_=>o⟩
def ur:Bl:=RA
theorem aey {W:World} {k o:Nat} {v:Value} (h:W.cell? ⟨k,o,none⟩=some v):∃cs t fr,W.heap[k]?=some (.cells cs t fr)/\cs[o]?=some v:=by
 unfold World.cell? at h
 split at h
 .rename_i cs t fr hk
  exact⟨cs,t,fr,hk,by simpa using h⟩
 all_goals cases h
theorem hrT {E:Env} {W:World} {k o m:Nat} (hm:0 < m) (h50:E.v 50 0=m) (hc:∀i,i < m->W.cell? ⟨k,o+i,none⟩=some (.int .u8 (E.v 71 i))/\0<=E.v 71 i/\E.v 71 i<=255):@HR _ E W (uS k o) (aK 1 [(0,ur)]):=by
 obtain⟨cs,t,fr,hk,_⟩:=aey (hc 0 hm).1
 have hlt:k < W.heap.size:=(T0.1 hk).1
 have hcell:∀i,i < m->cs.toList[o+i]?=some (.int .u8 (E.v 71 i)):=λi hi=>by
  obtain⟨cs',t',fr',hk',h2⟩:=aey (hc i hi).1
  rw[hk] at hk'; cases hk'
  simpa using h2
 have hsz:o+m<=cs.toList.length:=by
  have:=(k8.1 (hcell (m - 1) om)).1
  omega
 have hget:∀id b,id < 4096->(aK 1 [(0,ur)]).get id=some b->id=0/\b=ur:=λid b hid hb=>by
  have:=re (l:=[(0,ur)]) (λx hx=>by simp only[uh] at hx; subst hx; decide) hid hb
  simp only[uh,Prod.mk.injEq] at this
  exact this
 have hnm:∀id j,(uS k o).b id=some j->id=0/\j=k:=λid j h=>by
  unfold uS at h
  simp only at h
  split at h
  .rename_i e; cases h; exact⟨e,rfl⟩
  .cases h
 refine @HR.mk _ E W (uS k o) (aK 1 [(0,ur)]) (λid b hid hb=>?_) (λid id' b b' j hid hid' hb hb' _ e e'=>?_) (λid j h=>?_) (λid hid=>?_)
 .obtain⟨rfl,rfl⟩:=hget id b hid hb
  refine⟨k,by show (if (0:Nat)=0 then some k else none)=some k; exact if_pos rfl,cs.toList.take o,(cs.toList.drop o).take m,(cs.toList.drop o).drop m,t,fr,?_,?_,(λh=>nomatch h),⟨_,[],(qO _).symm,⟨?_,λi hi=>?_⟩,rfl⟩,(λh=>nomatch h)⟩
  .rw[Am,Am,hk]
  .rw[qP]
   show min o cs.toList.length=o
   omega
  .show (((cs.toList.drop o).take m).length:Int)=E.v 50 0
   rw[h50,qP,Gf]
   omega
  .have hi':i < m:=by rw[qP] at hi; omega
   refine⟨.u8,by show [IntKind.u8][(0+i) % 1]?=_; rw[sB]; rfl,?_,(hc i hi').2⟩
   rw[Uf,if_pos hi',Ud]
   exact hcell i hi'
 .rw[(hnm id j e).1,(hnm id' j e').1]
 .obtain⟨rfl,rfl⟩:=hnm id j h
  exact⟨by decide,hlt⟩
 .rw[ou] at hid
  exact⟨by show (if id=0 then some k else none)=none; exact if_neg om,rfl⟩
end Go.Proofs.Y
namespace Go.Proofs.Y
open Go Go.Sym Go.Z
theorem Oo {bs:Nm} {k n:Nat}:¬k9 (aK n []) bs k:=by
 haveI:Env:=⟨λ_ _=>0⟩
 rintro⟨id,b,hid,hb,_⟩
 have:=re (l:=[]) (λx hx=>by cases hx) hid hb
 cases this
theorem as3 {bs:Nm} {k:Nat}:¬k9 (aK 1 [(0,ur)]) bs k:=by
 haveI:Env:=⟨λ_ _=>0⟩
 rintro⟨id,b,hid,hb,_,hr⟩
 have:=re (l:=[(0,ur)]) (λx hx=>by simp only[uh] at hx; subst hx; decide) hid hb
 simp only[uh,Prod.mk.injEq] at this
 obtain⟨rfl,rfl⟩:=this
 cases hr
theorem aeq {E:Env} {W:World} {n:Nat} {bs:Nm} (h:∀id k,bs.b id=some k->id < n/\id < 4096/\k < W.heap.size) (hc:∀id,bs.c id=none):@HR _ E W bs (aK n []):=by
 refine @HR.mk _ E W bs (aK n []) (λid b hid hb=>?_) (λid id' b b' j hid hid' hb=>?_) (λid j e=>⟨(h id j e).2.1,(h id j e).2.2⟩) (λid hid=>⟨?_,hc id⟩)
 .have:=re (l:=[]) (λx hx=>by cases hx) hid hb
  cases this
 .have:=re (l:=[]) (λx hx=>by cases hx) hid hb
  cases this
 .cases e:bs.b id with
  | none=>rfl
  | some k=>
   have h1:n<=id:=hid
   have:=(h id k e).1
   omega
def sT (f0:Nat->BitVec 8):R:=λq=>((f0 q).toNat:Int)
section
variable (f0:Nat->BitVec 8) (m:Nat) (D:R) (a b c d:BitVec 64)
@[reducible] def eT:Env:=aRG (m:Int) D (sT f0) (a.toNat:Int) (b.toNat:Int) (c.toNat:Int) (d.toNat:Int)
theorem Iz {bs:Nm} {x:C} {v:Value} (hv:@CR _ (eT f0 m D a b c d) bs x v):@jS _ (eT f0 m D a b c d) bs [.agg [.a [.u8] bW (.v 22)],.c x,.c (.int .u64 (.v 1)),.c (.int .u64 (.v 2)),.c (.int .u64 (.v 91)),.c (.int .u64 (.v 92))] [.agg (cB 32 f0).toArray,v,U a,U b,U c,U d]:=by
 have hU:∀x:BitVec 64,gu .u64 (x.toNat:Int):=λx=>⟨kZ _,by have:=x.isLt; show (x.toNat:Int)<=18446744073709551615; omega⟩
 refine⟨⟨cB 32 f0,⟨_,[],(qO _).symm,⟨by rw[UP]; rfl,λi hi=>?_⟩,rfl⟩,rfl⟩,hv,⟨rfl,hU a⟩,⟨rfl,hU b⟩,⟨rfl,hU c⟩,⟨rfl,hU d⟩,trivial⟩
 have hi:i < 32:=by rw[UP] at hi; exact hi
 refine⟨.u8,by show [IntKind.u8][(0+i) % 1]?=_; rw[sB]; rfl,by rw[Oy hi]; rfl,?_⟩
 have:=(f0 i).isLt
 exact⟨kZ _,by show ((f0 i).toNat:Int)<=255; omega⟩
theorem vbT {lo hi:Int} (h1:lo<=m) (h2:(m:Int)<=hi) (hD:∀q,0<=D q/\D q<=255):∀p∈[(50,lo,hi),(71,0,255),(22,0,255),(1,0,18446744073709551615),(2,0,18446744073709551615),(91,0,18446744073709551615),(92,0,18446744073709551615)],∀i,p.2.1<=(eT f0 m D a b c d).v p.1 i/\(eT f0 m D a b c d).v p.1 i<=p.2.2:=by
 have hU:∀x:BitVec 64,(0:Int)<=(x.toNat:Int)/\(x.toNat:Int)<=18446744073709551615:=λx=>⟨kZ _,by have:=x.isLt; omega⟩
 intro p hp i
 simp only[ep,gn,or_false] at hp
 rcases hp with rfl | rfl | rfl | rfl | rfl | rfl | rfl
 .exact⟨h1,h2⟩
 .exact hD i
 .have:=(f0 i).isLt
  exact⟨kZ _,by show ((f0 i).toNat:Int)<=255; omega⟩
 .exact hU a
 .exact hU b
 .exact hU c
 .exact hU d
end
theorem aQO:GH aa 5=true:=kr
theorem a92 (W:World) (f0:Nat->BitVec 8) (v:Value) (hs:v=.slice none 0 0\/∃(b o m c:Nat) (f:Nat->Int),v=.slice (some ⟨b,o,none⟩) m c/\m<=c/\c<=maxLen/\∀i,i < m->W.cell? ⟨b,o+i,none⟩=some (.int .u8 (f i))/\0<=f i/\f i<=255) (a b c d:BitVec 64):Pure aa 5 #[.agg (cB 32 f0).toArray,v,U a,U b,U c,U d] W (.bool true):=by
 have fin:∀{E:Env} {bs:Nm} {h h':Hp},n5 aa 5 [.agg (cB 32 f0).toArray,v,U a,U b,U c,U d].toArray W (@iI _ E W bs h (.c (.bool true)) h')->(∀k,¬k9 h bs k)->Pure aa 5 #[.agg (cB 32 f0).toArray,v,U a,U b,U c,U d] W (.bool true):=λhc hno=>a8n aQO hc hno (λ_ _ h=>h)
 have z0:∀q:Nat,(0:Int)<=(λ_=>0:R) q/\(λ_=>0:R) q<=255:=λq=>⟨aP _,(by decide:(0:Int)<=255)⟩
 rcases hs with rfl | ⟨k,o,m,cap,f,rfl,hmc,hcap,hcell⟩
 .refine fin (a6G (eT f0 0 (λ_=>0) a b c d) (@GY (eT f0 0 (λ_=>0) a b c d) _ (vbT f0 0 _ a b c d (aP _) (aP _) z0) (λx hx=>nomatch hx) rfl rfl) Nm.no _ W (Iz f0 0 _ a b c d rfl) (aeq (λid k h=>nomatch h) λ_=>rfl)) (λ_=>Oo)
 have hcb:cap < 9223372036854775808:=by have:maxLen<=9223372036854775807:=(by decide+kernel); omega
 by_cases h0:m=0
 .subst h0
  refine fin (a6K (eT f0 0 (λ_=>0) a b c d) (@GY (eT f0 0 (λ_=>0) a b c d) _ (vbT f0 0 _ a b c d (aP _) (aP _) z0) (λx hx=>nomatch hx) rfl rfl) Nm.no _ W (Iz f0 0 _ a b c d ⟨k,o,cap,rfl,aP _,hmc,λh=>?_,trivial,hcb⟩) (aeq (λid k h=>nomatch h) λ_=>rfl)) (λ_=>Oo)
  rcases h with h | h
  .exact absurd h (Int.lt_irrefl _)
  .exact h.elim
 .have hm:0 < m:=ad5 h0
  have hD:∀q:Nat,(0:Int)<=(if q < m then f q else 0)/\(if q < m then f q else 0)<=255:=λq=>by
   split
   .rename_i h; exact (hcell q h).2
   .exact⟨aP _,by decide⟩
  obtain⟨cs,t,fr,hk,_⟩:=aey (hcell 0 hm).1
  have hklt:k < W.heap.size:=(T0.1 hk).1
  have hrB:∀{n:Nat},0 < n->@HR _ (eT f0 m (λq=>if q < m then f q else 0) a b c d) W (uS k o) (aK n []):=λhn=>aeq (λid j h=>by
   unfold uS at h
   simp only at h
   split at h
   .rename_i e; cases h; subst e; exact⟨hn,by decide,hklt⟩
   .cases h) λ_=>rfl
  have hv:@CR _ (eT f0 m (λq=>if q < m then f q else 0) a b c d) (uS k o) (.sl 0 0 ae (.v 50) .a) (.slice (some ⟨k,o,none⟩) m cap):=⟨k,o,cap,rfl,kZ _,hmc,λ_=>⟨(show (if (0:Nat)=0 then some k else none)=some k from if_pos rfl),aP _,rfl⟩,trivial,hcb⟩
  have hb:=λ{lo hi:Int} (h1:lo<=m) (h2:(m:Int)<=hi)=>vbT f0 m _ a b c d h1 h2 hD
  by_cases h2:m<=200
  .have b1:(1:Int)<=m:=by omega
   have b2:(m:Int)<=200:=by omega
   by_cases h3:b.toNat<=a.toNat
   .by_cases h4:d.toNat<=c.toNat
    .have hr:=hrT (E:=eT f0 m (λq=>if q < m then f q else 0) a b c d) (W:=W) (k:=k) (o:=o) hm rfl (λi hi=>by
      show W.cell? ⟨k,o+i,none⟩=some (.int .u8 (if i < m then f i else 0))/\0<=(if i < m then f i else 0)/\(if i < m then f i else 0)<=255
      rw[if_pos hi]; exact hcell i hi)
     by_cases h5:b.toNat<=c.toNat
     .refine fin (a6I (eT f0 m (λq=>if q < m then f q else 0) a b c d) (@GY (eT f0 m (λq=>if q < m then f q else 0) a b c d) _ (hb b1 b2) (λx hx=>?_) rfl rfl) (uS k o) _ W (Iz f0 m _ a b c d hv) hr) (λ_=>as3)
      simp only[aCL,ep,gn,or_false] at hx
      rcases hx with rfl | rfl | rfl
      .show (0:Int)<=(a.toNat:Int) - (b.toNat:Int); omega
      .show (0:Int)<=(c.toNat:Int) - (d.toNat:Int); omega
      .show (0:Int)<=(c.toNat:Int) - (b.toNat:Int); omega
     .refine fin (a6H (eT f0 m (λq=>if q < m then f q else 0) a b c d) (@GY (eT f0 m (λq=>if q < m then f q else 0) a b c d) _ (hb b1 b2) (λx hx=>?_) rfl rfl) (uS k o) _ W (Iz f0 m _ a b c d hv) hr) (λ_=>as3)
      simp only[aCK,ep,gn,or_false] at hx
      rcases hx with rfl | rfl | rfl
      .show (0:Int)<=(a.toNat:Int) - (b.toNat:Int); omega
      .show (0:Int)<=(c.toNat:Int) - (d.toNat:Int); omega
      .show (0:Int)<=(b.toNat:Int) - (c.toNat:Int) - 1; omega
    .refine fin (a6E (eT f0 m (λq=>if q < m then f q else 0) a b c d) (@GY (eT f0 m (λq=>if q < m then f q else 0) a b c d) _ (hb b1 b2) (λx hx=>?_) rfl rfl) (uS k o) _ W (Iz f0 m _ a b c d hv) (hrB Nat.one_pos)) (λ_=>Oo)
     simp only[aCJ,ep,gn,or_false] at hx
     rcases hx with rfl | rfl
     .show (0:Int)<=(a.toNat:Int) - (b.toNat:Int); omega
     .show (0:Int)<=(d.toNat:Int) - (c.toNat:Int) - 1; omega
   .refine fin (a6B (eT f0 m (λq=>if q < m then f q else 0) a b c d) (@GY (eT f0 m (λq=>if q < m then f q else 0) a b c d) _ (hb b1 b2) (λx hx=>?_) rfl rfl) (uS k o) _ W (Iz f0 m _ a b c d hv) (hrB Nat.one_pos)) (λ_=>Oo)
    simp only[aCI,ep,gn,or_false] at hx
    rcases hx with rfl
    show (0:Int)<=(b.toNat:Int) - (a.toNat:Int) - 1; omega
  .refine fin (a6D (eT f0 m (λq=>if q < m then f q else 0) a b c d) (@GY (eT f0 m (λq=>if q < m then f q else 0) a b c d) _ (hb om om) (λx hx=>nomatch hx) rfl rfl) (uS k o) _ W (Iz f0 m _ a b c d hv) (hrB Nat.one_pos)) (λ_=>Oo)
end Go.Proofs.Y
