import Derived.Test.YtgmieahcpkcabaaGreatBq3
import Derived.Test.YtgmieahcpkcabaaGreatBq1
set_option maxRecDepth 100000
set_option linter.unusedSimpArgs false
set_option linter.unusedVariables false
set_option linter.constructorNameAsVariable false
set_option linter.unusedSectionVars false
noncomputable section
namespace Go.Z
open Go Go.Sym Go.RowKit
open Go.Ev (T K Ex DH DF a7 la jD sL lone qh)
variable [bI] [Env]
variable {P:Program} {I:Info} {n:Nat} {all:List Oper} {ks:List K} {call:FuncId->List V->Hp->Option (V×Hp)} {sF s s':Fr} {hs:List Hp} {h h0 h' H:Hp} {w w0 w1:World} {bs bs0 bs1:Nm} {a:Act} {S:Nat->Bool} {i j:Nat} {o:Oper} {v:V} {u:Value}
theorem aQ0:∀{ks:List K} {i p:Nat},p < du (ks.take i)->∃(e:Nat) (js:List Nat),e < i/\ks[e]?=some (.m js)/\du (ks.take e)=p
 | ks,i,p,h=>by
  obtain⟨e,js,h1,h2⟩:=Kx h
  rw[Uf] at h1
  by_cases he:e < i
  .rw[if_pos he] at h1
   refine⟨e,js,he,h1,?_⟩
   rw[List.take_take,ad2 (Nat.le_of_lt he)] at h2
   exact h2
  .rw[if_neg he] at h1; cases h1
theorem HR.room (hR:HR w bs h) (m:Nat):HR w bs ⟨h.h,h.nx+m⟩:=hR.AT (ad0 _ _)
set_option maxHeartbeats 1000000 in
theorem DI.step (hI:dm P I) (hC:ua P call) (hst:Stat I n all ks) (hd:DI I n all ks s sF hs w0 bs0 h0 S a w bs j H) (hfr:∀t,t < 512->(∀(k:Nat) o,all[k]?=some o->o.dst≠some t)->sF.get t=s.get t) (hlen:hs.length=du ks+1) (hre:recheck I all sF hs all ks=true) {k:K} (ho:all[i]?=some o) (hk:ks[i]?=some k) (hf:F6 I call h0.nx all ks s sF hs (du (ks.take i)) i o k) (hp:∀k,iZ all i k->S k=true) (hno:∀e,iZ all e i->S e=false) (hS:S i=false):(Region.wanted o (yielded all.toArray a.tmps)=true/\lO P o a w (λu w'=>∃bs' j' H',DI I n all ks s sF hs w0 bs0 h0 (sN S i true) (a.put o.dst u) w' bs' j' H'))\/(Region.wanted o (yielded all.toArray a.tmps)=false/\∃bs' j' H',DI I n all ks s sF hs w0 bs0 h0 (sN S i true) (a.put o.dst undef) w bs' j' H'):=by
 have hwant:=hd.a_v hI.F hst hfr ho hp
 have hlook:=hd.look hst hfr ho
 have hjn:∀js,ks[i]?=some (.m js)->du (ks.take i)=j:=λjs hk=>by
  have h1:¬du (ks.take i) < j:=λhlt=>by have:=(hd.AZ i js hk).2 hlt; rw[hS] at this; cases this
  have h2:du (ks.take i)<=j:=by
   rcases Ao j (du (ks.take i)) with hlt | hge
   .obtain⟨e,js',he,hke,hc⟩:=aQ0 hlt
    have:=(hd.AZ e js' hke).1 (hp e ((hst.km i js hk).1 e js' he hke))
    omega
   .exact hge
  omega
 cases k with
 | n=>
  rcases hf with ⟨hw,v,s1,H0,h',_,he,hv,hat⟩ | ⟨hw,hv⟩
  .refine .inl ⟨hwant _ hw,?_⟩
   obtain⟨ρ,hsame,hE⟩:=hd.aUn hst hfr ho hp hno hS hat
   rw[aTw (hst.kn i o ho hk)] at he
   obtain⟨v',he2,hvv⟩:=eR.1 he
   cases hvv
   rw[Xn hsame] at he2
   exact ((aDq hI hE he2).rd).atI λu hu=>⟨bs,j,H,hd.still hst ho (λjs e=>by rw[hk] at e; cases e) (λq e=>by rw[hk] at e; cases e) hv hu⟩
  .exact .inr ⟨hwant _ hw,bs,j,H,hd.still hst ho (λjs e=>by rw[hk] at e; cases e) (λq e=>by rw[hk] at e; cases e) hv ali⟩
 | r lo hi=>
  rcases hf with ⟨hw,v,H0,h',_,he,hv⟩ | ⟨hw,hv⟩
  .refine .inl ⟨hwant _ hw,?_⟩
   obtain⟨ρ,hsame,hE⟩:=hlook (by rw[hk]; simp) hp
   obtain⟨kr,klo,khi⟩:=hst.kr i o lo hi ho hk
   obtain⟨d,v2,hd2,hv2,hall⟩:=aDZ hI.F hre i o lo hi ho hk hw
   have hvv:v2=v:=by
    have h1:=hv d hd2
    unfold dy at hv2
    obtain⟨_,h2⟩:=cm hv2
    rw[h1] at h2
    exact (Option.some.inj h2).symm
   subst hvv
   have hj:=hd.hj
   have hjl:j < hs.length:=(k8.1 hj).1
   have l1:lo<=j:=by
    rcases klo with e | ⟨e,js,h1,h2,h3⟩
    .omega
    .have:=(hd.AZ e js h1).1 (hp e h3); omega
   have l2:j<=hi:=by
    rcases khi with e | ⟨e,js,h1,h2,h3⟩
    .omega
    .rcases Ao hi j with hlt | hge
     .have:=(hd.AZ e js h1).2 om
      rw[hno e h3] at this; cases this
     .exact hge
   obtain⟨v3,h2,he2,hsem⟩:=hall j H l1 l2 hj
   rw[PE hsame] at he2
   exact (a8H hI kr hE hd.hr he2).atI λu hu=>⟨bs,j,H,hd.still hst ho (λjs e=>by rw[hk] at e; cases e) (λq e=>by rw[hk] at e; cases e) hv (hsem _ _ hu)⟩
  .exact .inr ⟨hwant _ hw,bs,j,H,hd.still hst ho (λjs e=>by rw[hk] at e; cases e) (λq e=>by rw[hk] at e; cases e) hv ali⟩
 | m js=>
  obtain⟨H0,Hj,H',pd,pd',hH,hH',hpd,hjo,hcase⟩:=hf
  obtain⟨ρ,hsame,hE⟩:=hlook (by rw[hk]; simp) hp
  have hjj:=hjn js hk
  rw[hjj] at hH hH'
  have hHH:H0=H:=Option.some.inj (hH.symm.trans hd.hj)
  subst hHH
  have hJ:=hd.aTm hst hk hjj hpd hjo hp
  rcases hcase with ⟨hw,v,hstep,hv⟩ | ⟨hw,rfl,hv⟩
  .refine .inl ⟨hwant _ hw,?_⟩
   rw[aEA hsame] at hstep
   exact (aEC hI hC hE hJ.1 hstep).mono λu w' ⟨bs',hR',hM',hu⟩=>⟨bs',j+1,H',hd.main hst ho hk hjj hv hu hJ hH' hR' hM'⟩
  .exact .inr ⟨hwant _ hw,bs,j+1,H',hd.main hst ho hk hjj hv ali hJ hH' hJ.1 (Mv.refl _ _ _)⟩
 | f q=>
  obtain⟨qq,b,hm,hid,hv⟩:=hf
  obtain⟨ρ,hsame,hE⟩:=hlook (by rw[hk]; simp) hp
  obtain⟨hq,hg,hmk⟩:=hst.kf i o q ho hk
  have hm':=hm
  rw[mk_congr hsame] at hm'
  obtain⟨d0,op,ty,pos,af,g⟩:=o
  obtain⟨cs,uu,hrun,htr,hqq⟩:=ayx hI hE hm' d0 ty pos af g w
  refine .inl ⟨by simp only at hg; simp[Region.wanted,hg],?_⟩
  exact .inl ⟨_,_,.inl hrun,_,j,H,hd.flt hst ho hk hS hno hm hid hv htr hqq⟩
set_option maxHeartbeats 1000000 in
theorem a8T (hI:dm P I) (hC:ua P call) (hm:P.follows .mixedOrders=true) (hst:Stat I n all ks) {Q:Exit->Act->World->Prop} {id:Nat} (he:akx I call n all ks s h=some (s',h')) (hS:SR bs s a n) (hR:HR w bs h) (hQ:∀a' w' bs',SR bs' s' a' n->HR w' bs' h'->Mv w w' bs bs' h h'->Q .normal a' w'):(Code.region id all.toArray true).wp P Q a w:=by
 unfold akx at he
 split at he
 case h_2=>cases he
 rename_i sF hs hF pF hrun
 obtain⟨hre,he⟩:=cm he
 split at he
 case h_2=>cases he
 rename_i pE hE hjE
 simp only[cu,Prod.mk.injEq] at he
 obtain⟨rfl,rfl⟩:=he
 have hlex:=hst.lex
 have hap:∀(i:Nat) (o:Oper),all[i]?=some o->∀t,(NW all o t\/(Gs o t/\ks[i]?≠some .n))->∀(k:Nat) (o':Oper),all[k]?=some o'->o'.dst=some t->k < i:=λi o ho t hl k o' hk hd=>(hst.looks i o ho t hl k o' hk hd).lt hlex
 obtain⟨f1,f2,f3,f4,f5,f6'⟩:=a1N (ks0:=ks) hS.le hst.dst hap s all ks [] [] s _ [] sF hs hF pF rfl rfl rfl hrun (λx hx=>by cases hx) (λ_ _ _=>rfl)
 have f6:∀(i:Nat) o k,all[i]?=some o->ks[i]?=some k->F6 I call h.nx all ks s sF hs (du (ks.take i)) i o k:=λi o k ho hk=>by
  have:=f6' i o k ho hk
  rwa [List.length_nil,Nat.zero_add] at this
 have hfr:∀t,t < 512->(∀(k:Nat) o,all[k]?=some o->o.dst≠some t)->sF.get t=s.get t:=λt ht hno=>
  WC hS.le all ks s _ [] sF hs hF pF hrun t ht λo ho=>by
   obtain⟨k,hk⟩:=Ue ho
   exact hno k o hk
 have hkall:∀(i:Nat) o,all[i]?=some o->∃k,ks[i]?=some k:=λi o ho=>by
  have hlt:=(k8.1 ho).1
  exact⟨ks[i]'om,ue om⟩
 refine wp_region_any hm ?_
 have hdr:=hR.same (Ext.drew w)
 refine a_B (λS a w'=>S.size=all.length/\(∀(i:Nat) o,all[i]?=some o->S.getD i false=true->∀e∈o.after,Region.binds .any e=true->S.getD e.on false=true)/\
  ∃bs' j H,DI I n all ks s sF hs w bs h (λi=>S.getD i false) a w' bs' j H) ?_ ?_ ?_ _ _ _ _ ?_ ?_
 .intro S a w' i hi ⟨hsz,hcl,bs',j,H,hd⟩
  obtain⟨hun,o,ho,hpre⟩:=mem_ready.1 hi
  have ho':all[i]?=some o:=by simpa using ho
  have hun':S.getD i false=false:=aQt hun
  have hcl':∀(k:Nat) o,all[k]?=some o->(S.setIfInBounds i true).getD k false=true->∀e∈o.after,Region.binds .any e=true->(S.setIfInBounds i true).getD e.on false=true:=by
   intro k ok hk hSk e he hb
   refine getD_set_true ?_
   by_cases hki:i=k
   .subst hki
    have:ok=o:=Option.some.inj (hk.symm.trans ho')
    subst this
    exact hpre e he hb
   .rw[getD_set_ne false hki] at hSk
    exact hcl k ok hk hSk e he hb
  have hlt:i < S.size:=by rw[hsz]; exact (k8.1 ho').1
  have hSS:(λi'=>(S.setIfInBounds i true).getD i' false)=sN (λk=>S.getD k false) i true:=by
   funext k
   by_cases hki:k=i
   .subst hki
    rw[Vq]
    simp[NT,hlt]
   .rw[AQ _ _ hki,getD_set_ne false (λe=>hki e.symm)]
  have hp:∀k,iZ all i k->S.getD k false=true:=λk hk=>by
   refine akt (S:=λk=>S.getD k false) hcl _ i (λo2 ho2 e he hb=>?_) k (by simpa [iZ] using hk)
   have:o2=o:=Option.some.inj (ho2.symm.trans ho')
   subst this
   exact hpre e he hb
  have hno:∀e,iZ all e i->S.getD e false=false:=λe he=>by
   cases hSe:S.getD e false with
   | false=>rfl
   | true=>
    have:=akt (S:=λk=>S.getD k false) hcl _ e (λo2 ho2=>hcl e o2 ho2 hSe) i (by simpa [iZ] using he)
    rw[hun'] at this; cases this
  obtain⟨k,hk⟩:=hkall i o ho'
  have hstep:=hd.step hI hC hst hfr f2 hre ho' hk (f6 i o k ho' hk) hp hno hun'
  unfold wpOp
  simp only[ho]
  have hgo:∀u w2,(∃bs' j' H',DI I n all ks s sF hs w bs h (sN (λk=>S.getD k false) i true) (a.put o.dst u) w2 bs' j' H')->(S.setIfInBounds i true).size=all.length/\(∀(k:Nat) o,all[k]?=some o->(S.setIfInBounds i true).getD k false=true->∀e∈o.after,Region.binds .any e=true->(S.setIfInBounds i true).getD e.on false=true)/\
    ∃bs' j H,DI I n all ks s sF hs w bs h (λi'=>(S.setIfInBounds i true).getD i' false) (a.put o.dst u) w2 bs' j H:=λu w2 h2=>by
   rw[hSS]
   exact⟨by simpa using hsz,hcl',h2⟩
  rcases hstep with ⟨hw,hdo⟩ | ⟨hw,h2⟩
  .rw[if_pos hw]
   exact .inl (hdo.wp λu w2 h2=>hgo u w2 h2)
  .rw[if_neg (by rw[hw]; exact Bool.false_ne_true)]
   exact hgo undef w' h2
 .intro S a w' hr ⟨hsz,hcl,bs',j,H,hd⟩
  have hfull:∀i,i < all.length->S.getD i false=true:=by
   intro i
   induction i using Nat.strongRecOn with
   | _ i ih=>
    intro hi
    cases hb:S.getD i false with
    | true=>rfl
    | false=>
     exfalso
     have:i∈Region.ready .any all.toArray S:=by
      rw[mem_ready]
      refine⟨aTd om hb,all[i],by simp[hi],λe he hbi=>?_⟩
      have hlt:=Pd hlex i all[i] (ue hi) e he hbi
      exact ih e.on hlt om
     rw[hr] at this; cases this
  have hjl:j < hs.length:=(k8.1 hd.hj).1
  have hj:j=du ks:=by
   rcases Ao j (du ks) with hlt | hge
   .obtain⟨e,js,h1,h2⟩:=Kx hlt
    have hel:e < all.length:=by rw[<- f1]; exact (k8.1 h1).1
    have:=(hd.AZ e js h1).1 (hfull e hel)
    omega
   .omega
  subst hj
  have hH:H=hF:=Option.some.inj (hd.hj.symm.trans f4)
  subst hH
  have hend:∀q∈sL ks,jn ks (du ks) q=false:=λq hq=>by
   cases hb:jn ks (du ks) q with
   | false=>rfl
   | true=>exact absurd rfl ((J2.1 hst.nd).2.2 q (KZ hb) q hq)
  obtain⟨r1,r2,_,_⟩:=afy hjE (J2.1 hst.nd).2.1 hd.hr hd.mv (λx hx hxj=>by
   obtain⟨e,oe,qq,h1,h2,h3⟩:=f5 x hx
   exact (hd.fl e x.1 oe qq x.2 h1 h2 h3 (hend x.1 hxj)).1 (hfull e (k8.1 h2).1))
  refine hQ a w' bs' ⟨hd.defers,hd.size,hS.le,λd v hlt hv=>?_⟩ r1 r2
  exact hd.env hfr (S:=λi=>S.getD i false) (λk o' h1 _=>hfull k (k8.1 h1).1) hlt hv
 .intro S a w' hI'
  simpa using hI'.1
 .simpa using (List.length_filter_le _ (List.range all.length))
 .have hrep:∀i,(Array.replicate all.toArray.size false).getD i false=false:=λi=>a8U _ _
  refine⟨by simp,λi o _ hi=>(by rw[hrep] at hi; cases hi),bs,0,⟨h.h,h.nx+(jD ks).length⟩,?_⟩
  refine⟨hS.defers,hS.size,λt v ht _ hv=>hS.get t v ht hv,λi o t v _ hi=>(by simp only[hrep] at hi; cases hi),λi js hk=>?_,f3,?_,?_,fv _,λi q o qq b hk ho hm' hjn=>⟨λhi=>(by simp only[hrep] at hi; cases hi),λ_=>hR.nx (h.nx+q) (ad0 _ _)⟩⟩
  .refine⟨λe=>?_,λe=>absurd e (CU _)⟩
   have e2:(Array.replicate all.toArray.size false).getD i false=true:=e
   rw[hrep] at e2; cases e2
  .exact hdr.1.room _
  .exact hdr.2.AT (ad0 _ _)
end Go.Z
namespace Go.Z
open Go Go.Sym Go.RowKit
open Go.Ev (T K Ex DH DF a7 la jD sL lone qh ahg)
variable [bI] [Env]
variable {P:Program} {I:Info} {n:Nat} {all:List Oper} {ks:List K}
def aTg (t:Nat):Operand->Bool
 | .tmp t'=>Nat.beq t t'
 | _=>false
def auz (all:List Oper):Option (Nat×Bool)->Option Nat
 | some (j,_)=>match all[j]? with
  | some oj=>oj.dst
  | none=>none
 | none=>none
def isN:K->Bool
 | .n=>true
 | _=>false
def azc (o:Oper) (t:Nat):Bool:=o.op.operands.toList.any (aTg t)
def afd (all:List Oper) (o:Oper) (t:Nat):Bool:=ahg (auz all o.guard) (some t)
def We (ks:List K) (p:Nat->Nat->Bool):Bool:=(List.range ks.length).any λe=>match ks[e]? with
 | some (.m _)=>p e (du (ks.take e))
 | _=>false
def kB (I:Info) (r:Nat->Nat->Bool) (ks:List K) (o:Oper) (i:Nat):K->Bool
 | .n=>G6 I o.op
 | .r lo hi=>O8 I o.op && (Nat.beq lo 0 || We ks λe c=>Nat.beq (c+1) lo && r i e) && (Nat.beq hi (du ks) || We ks λe c=>Nat.beq c hi && r e i)
 | .m js=>((List.range i).all λe=>match ks[e]? with
   | some (.m _)=>r i e
   | _=>true) && js.all λq=>(List.range ks.length).any λe=>match ks[e]? with
   | some (.f q')=>Nat.beq q q' && r i e
   | _=>false
 | .f q=>Nat.blt q (jD ks).length && (match o.guard with | none=>true | some _=>false) && ava o.op
def Px:List Nat->Bool
 | []=>true
 | x::l=>!qh x l && Px l
def A3 (I:Info) (r:Nat->Nat->Bool) (all:List Oper) (ks:List K) (i:Nat) (o:Oper) (k:K):Bool:=
 ((List.range all.length).all λe=>match all[e]? with
  | some o'=>match o'.dst with
   | some t=>r i e || (!afd all o t && (!azc o t || (isN k && (r e i || Nat.beq e i))))
   | none=>true
  | none=>true) && kB I r ks o i k
def KF (I:Info) (r:Nat->Nat->Bool) (all:List Oper) (ks:List K):Nat->List Oper->List K->Bool
 | i,o::l,k::kl=>A3 I r all ks i o k && KF I r all ks (i+1) l kl
 | _,[],[]=>true
 | _,_,_=>false
def aEy (I:Info) (n:Nat) (all:List Oper) (ks:List K) (tab:List Nat):Bool:=
 Dv all && KD n all && KF I (LC tab all.length) all ks 0 all ks && Px (jD ks) && Px (la ks++sL ks)
def akR (I:Info) (n:Nat) (all:List Oper) (ks:List K):Bool:=aEy I n all ks (LK all)
theorem ays {q:Nat}:∀{l:List Nat},qh q l=true↔q∈l
 | []=>by simp[qh]
 | x::l=>by
  simp only[qh,dt,ep,ays (l:=l)]
  constructor
  .rintro (h | h)
   .exact .inl (beq_eq h)
   .exact .inr h
  .rintro (h | h)
   .exact .inl (by rw[h]; exact Ol _)
   .exact .inr h
theorem ag2:∀{l:List Nat},Px l=true->l.Nodup
 | [],_=>ar9
 | x::l,h=>by
  simp only[Px,ar,Ai] at h
  rw[CO]
  exact⟨λhx=>(by rw[ays.2 hx] at h; exact Bool.noConfusion h.1),ag2 h.2⟩
theorem KK:∀{ks:List K} {i q:Nat},ks[i]?=some (.f q)->q∈jD ks
 | [],i,q,h=>by simp at h
 | k::r,0,q,h=>by simp at h; subst h; exact mh
 | .f q'::r,i+1,q,h=>by rw[eD] at h; exact mt (KK h)
 | .n::r,i+1,q,h=>by rw[eD] at h; exact KK (ks:=r) h
 | .r _ _::r,i+1,q,h=>by rw[eD] at h; exact KK (ks:=r) h
 | .m _::r,i+1,q,h=>by rw[eD] at h; exact KK (ks:=r) h
theorem aum:∀{ks:List K},(jD ks).Nodup->∀(i i':Nat) q,ks[i]?=some (.f q)->ks[i']?=some (.f q)->i=i'
 | [],_,i,i',q,h,_=>by simp at h
 | k::r,hn,0,0,q,h,h'=>rfl
 | k::r,hn,0,i'+1,q,h,h'=>by
  simp at h
  subst h
  rw[eD] at h'
  simp only[jD,CO] at hn
  exact absurd (KK h') hn.1
 | k::r,hn,i+1,0,q,h,h'=>by
  simp at h'
  subst h'
  rw[eD] at h
  simp only[jD,CO] at hn
  exact absurd (KK h) hn.1
 | k::r,hn,i+1,i'+1,q,h,h'=>by
  rw[eD] at h h'
  have hr:(jD r).Nodup:=by
   cases k with
   | f q'=>simp only[jD,CO] at hn; exact hn.2
   | n=>exact hn
   | r _ _=>exact hn
   | m _=>exact hn
  rw[aum hr i i' q h h']
theorem atO {r:Nat->Nat->Bool}:∀{l:List Oper} {kl:List K} {i:Nat},KF I r all ks i l kl=true->kl.length=l.length/\∀(j:Nat) o k,l[j]?=some o->kl[j]?=some k->A3 I r all ks (i+j) o k=true
 | [],[],_,_=>⟨rfl,λj o k h=>by simp at h⟩
 | [],_::_,_,h=>by simp[KF] at h
 | _::_,[],_,h=>by simp[KF] at h
 | o::l,k::kl,i,h=>by
  simp only[KF,ar] at h
  obtain⟨h1,h2⟩:=atO h.2
  refine⟨by rw[mz,mz,h1],λj o' k' ho hk=>?_⟩
  cases j with
  | zero=>
   simp at ho hk
   subst ho hk
   exact h.1
  | succ j=>
   rw[eD] at ho hk
   have:=h2 j o' k' ho hk
   rw[show i+(j+1)=i+1+j by omega]
   exact this
theorem ayo {p:Nat->Nat->Bool} (h:We ks p=true):∃(e:Nat) (js:List Nat),ks[e]?=some (.m js)/\p e (du (ks.take e))=true:=by
 unfold We at h
 rw[Uc] at h
 obtain⟨e,_,h⟩:=h
 split at h
 .rename_i js hk; exact⟨e,js,hk,h⟩
 .cases h
theorem a0J {o:Oper} {t:Nat} (h:Gs o t):azc o t=true:=Uc.2 ⟨_,h,Ol _⟩
theorem aSw {o:Oper} {t:Nat} (h:NW all o t):afd all o t=true:=by
 obtain⟨j,b,oj,hg,hj,hd⟩:=h
 unfold afd
 rw[hg]
 simp only[auz,hj,hd,ahg]
 exact Ol _
theorem a9A (h:akR I n all ks=true):Stat I n all ks:=by
 simp only[akR,aEy,ar] at h
 obtain⟨⟨⟨⟨h1,h2⟩,h3⟩,h4⟩,h5⟩:=h
 obtain⟨hlen,hop⟩:=atO h3
 have hr:∀(i:Nat) (j:Nat),i < all.length->LC (LK all) all.length i j=true->iZ all i j:=λi j hi hb=>by
  unfold iZ
  rw[a8E h1 hi]; exact hb
 have hkl:∀(i:Nat) k,ks[i]?=some k->∃o,all[i]?=some o/\i < all.length:=λi k hk=>by
  have:=(k8.1 hk).1
  exact⟨all[i]'om,ue om,by omega⟩
 have hki:∀(i:Nat) o,all[i]?=some o->∃k,ks[i]?=some k:=λi o ho=>by
  have:=(k8.1 ho).1
  exact⟨ks[i]'om,ue om⟩
 have hop':∀(i:Nat) o k,all[i]?=some o->ks[i]?=some k->A3 I (LC (LK all) all.length) all ks i o k=true:=λi o k ho hk=>by
  have:=hop i o k ho hk
  rwa [Nat.zero_add] at this
 have hlk:∀(i:Nat) o kk,all[i]?=some o->ks[i]?=some kk->∀t (k:Nat) o',all[k]?=some o'->o'.dst=some t->LC (LK all) all.length i k=true\/(¬NW all o t/\(¬Gs o t\/(kk=.n/\(LC (LK all) all.length k i=true\/k=i)))):=λi o kk ho hkk t k o' hk hd=>by
  have:=hop' i o kk ho hkk
  simp only[A3,ar] at this
  have h6:=dD.1 this.1 k (ug.2 (k8.1 hk).1)
  rw[hk] at h6
  simp only[hd,dt,ar,Ai] at h6
  rcases h6 with h6 | ⟨h6,h7⟩
  .exact .inl h6
  .refine .inr ⟨λhg=>?_,?_⟩
   .rw[aSw hg] at h6; cases h6
   .rcases h7 with h7 | ⟨h7,h8⟩
    .exact .inl λho2=>by rw[a0J ho2] at h7; cases h7
    .refine .inr ⟨?_,?_⟩
     .cases kk with
      | n=>rfl
      | _=>simp[isN] at h7
     .rcases h8 with h8 | h8
      .exact .inl h8
      .exact .inr (beq_eq h8)
 refine⟨h1,h2,λi o ho t hl k o' hk hd=>?_,λi o ho t hl k o' hk hd=>?_,λi o ho hk=>?_,λi o lo hi ho hk=>?_,λi js hk=>⟨λe js' he hke=>?_,λq hq=>?_⟩,λi o q ho hk=>?_,aum (ag2 h4),ag2 h5⟩
 .obtain⟨kk,hkk⟩:=hki i o ho
  rcases hlk i o kk ho hkk t k o' hk hd with h6 | ⟨h6,h7⟩
  .exact hr i k (k8.1 ho).1 h6
  .exfalso
   rcases hl with hl | ⟨hl,hne⟩
   .exact h6 hl
   .rcases h7 with h7 | ⟨h7,_⟩
    .exact h7 hl
    .exact hne (by rw[hkk,h7])
 .obtain⟨kk,hkk⟩:=hki i o ho
  rcases hlk i o kk ho hkk t k o' hk hd with h6 | ⟨_,h7⟩
  .exact .inl (hr i k (k8.1 ho).1 h6)
  .rcases h7 with h7 | ⟨_,h7 | h7⟩
   .exact absurd hl h7
   .exact .inr (.inl (hr k i (k8.1 hk).1 h7))
   .exact .inr (.inr h7)
 .have:=hop' i o .n ho hk
  simp only[A3,ar] at this
  exact this.2
 .have:=hop' i o _ ho hk
  have hil:=(k8.1 ho).1
  simp only[A3,kB,ar,dt] at this
  obtain⟨_,⟨g1,g2⟩,g3⟩:=this
  refine⟨g1,?_,?_⟩
  .rcases g2 with g2 | g2
   .exact .inl (beq_eq g2)
   .obtain⟨e,js,k1,k2⟩:=ayo g2
    rw[ar] at k2
    exact .inr ⟨e,js,k1,beq_eq k2.1,hr i e hil k2.2⟩
  .rcases g3 with g3 | g3
   .exact .inl (beq_eq g3)
   .obtain⟨e,js,k1,k2⟩:=ayo g3
    rw[ar] at k2
    obtain⟨_,_,hel⟩:=hkl e _ k1
    exact .inr ⟨e,js,k1,beq_eq k2.1,hr e i hel k2.2⟩
 .obtain⟨o,ho,hil⟩:=hkl i _ hk
  have:=hop' i o _ ho hk
  simp only[A3,kB,ar] at this
  have h6:=dD.1 this.2.1 e (ug.2 he)
  rw[hke] at h6
  exact hr i e hil h6
 .obtain⟨o,ho,hil⟩:=hkl i _ hk
  have:=hop' i o _ ho hk
  simp only[A3,kB,ar] at this
  have h6:=dD.1 this.2.2 q hq
  rw[Uc] at h6
  obtain⟨e,_,h6⟩:=h6
  split at h6
  .rename_i q' hke
   rw[ar] at h6
   have:=beq_eq h6.1
   subst this
   exact⟨e,hke,hr i e hil h6.2⟩
  .cases h6
 .have:=hop' i o _ ho hk
  simp only[A3,kB,ar] at this
  obtain⟨_,⟨g1,g2⟩,g3⟩:=this
  refine⟨iw g1,?_,g3⟩
  split at g2
  .assumption
  .cases g2
end Go.Z
namespace Go.Z
open Go Go.Sym Go.RowKit
open Go.Ev (T K Ex DH DF a7 la jD sL lone qh)
variable [bI] [Env]
variable {P:Program} {I:Info} {n:Nat} {call:FuncId->List V->Hp->Option (V×Hp)} {s s':Fr} {h h':Hp} {w:World} {bs:Nm} {a:Act}
def ky (I:Info) (n:Nat) (pl:Nat->List K):Code->Bool
 | .region id os d=>bif d then akR I n os.toList (pl id) else true
 | .seq a b=>ky I n pl a && ky I n pl b
 | .cond _ a b=>ky I n pl a && ky I n pl b
 | .block _ a=>ky I n pl a
 | .loop a=>ky I n pl a
 | .scope a=>ky I n pl a
 | _=>true
def OK:Ex->Exit
 | .norm=>.normal
 | .ret=>.ret
 | .exit i=>.exit i
def iu (n:Nat) (bs:Nm) (w:World) (h:Hp) (e:Ex) (s':Fr) (h':Hp) (ex:Exit) (a':Act) (w':World):Prop:=
 ex=OK e/\∃bs',SR bs' s' a' n/\HR w' bs' h'/\Mv w w' bs bs' h h'
def T2 (P:Program) (n:Nat) (f:Fr->Hp->Option (Ex×Fr×Hp)) (c:Code):Prop:=
 ∀s h e s' h',f s h=some (e,s',h')->∀bs a w,SR bs s a n->HR w bs h->c.wp P (iu n bs w h e s' h') a w
theorem avz {f:Fr->Hp->Option (Ex×Fr×Hp)} {c:Code} (hb:T2 P n f c):∀(m:Nat) (s:Fr) (h:Hp) e s' h',Pg f m s h=some (e,s',h')->∀bs a w,SR bs s a n->HR w bs h->Code.rounds P c (iu n bs w h e s' h') m a w
 | 0,s,h,e,s',h',he,bs,a,w,hS,hR=>by simp[Pg] at he
 | m+1,s,h,e,s',h',he,bs,a,w,hS,hR=>by
  rw[rounds_succ]
  simp only[Pg] at he
  split at he
  .rename_i s1 h1 h2
   refine wp_mono (hb _ _ _ _ _ h2 bs a w hS hR) ?_
   rintro ex a1 w1 ⟨rfl,bs1,hS1,hR1,hM1⟩
   have h3:=avz hb m s1 h1 e s' h' he bs1 a1 w1 hS1 hR1
   refine G5 ?_
   have key:∀(m:Nat) a w2,Code.rounds P c (iu n bs1 w1 h1 e s' h') m a w2->Code.rounds P c (iu n bs w h e s' h') m a w2:=by
    intro m
    induction m with
    | zero=>intro a w2 h; exact h.elim
    | succ m ih=>
     intro a w2 h
     refine wp_mono h ?_
     intro ex a3 w3 hq
     cases ex with
     | normal=>exact ih _ _ hq
     | _=>
      obtain⟨e1,bs',h1',h2',h3'⟩:=hq
      exact⟨e1,bs',h1',h2',hM1.trans h3'⟩
   exact key m a1 w1 h3
  .rename_i hno
   refine wp_mono (hb _ _ _ _ _ he bs a w hS hR) ?_
   rintro ex a1 w1 ⟨rfl,hrest⟩
   cases e with
   | norm=>exact absurd he (hno s' h')
   | ret=>exact⟨rfl,hrest⟩
   | exit i=>exact⟨rfl,hrest⟩
def fL (P:Program) (c:Code) (Q:Exit->Act->World->Prop) (a:Act) (w:World):Prop:=
 ∀(b:Frame) (k:List Item) (cs:List Frame),∃e a' w',e≠.normal/\Q e a' w'/\Arrives P (lone (b.at a (.code c::.inLoop c::k)) cs w) b k cs e a' w'
omit [bI] [Env] in
theorem fL.loop {c:Code} {Q:Exit->Act->World->Prop} {a:Act} (h:fL P c Q a w):(Code.loop c).wp P Q a w:=λb k cs=>by
 obtain⟨e,a',w',_,hq,harr⟩:=h b k cs
 exact⟨e,a',w',hq,.of_steps (.one step_loop) harr⟩
omit [bI] [Env] in
theorem fL.mono {c:Code} {Q R:Exit->Act->World->Prop} {a:Act} (h:fL P c Q a w) (hq:∀e a w,e≠.normal->Q e a w->R e a w):fL P c R a w:=λb k cs=>by
 obtain⟨e,a',w',he,hq',harr⟩:=h b k cs
 exact⟨e,a',w',he,hq e a' w' he hq',harr⟩
omit [bI] [Env] in
theorem fL.step {c:Code} {Q:Exit->Act->World->Prop} {a:Act} (h:c.wp P (Exit.then (fL P c Q) Q) a w):fL P c Q a w:=λb k cs=>by
 obtain⟨e,a1,w1,hq,harr⟩:=h b (.inLoop c::k) cs
 cases e with
 | normal=>
  obtain⟨e2,a2,w2,he,hq2,harr2⟩:=hq b k cs
  exact⟨e2,a2,w2,he,hq2,.of_steps (Steps.trans harr (.one step_inLoop)) harr2⟩
 | exit id=>exact⟨.exit id,a1,w1,(λh=>by cases h),hq,.pass (x:=.inLoop c) rfl (λ_ _=>.inl (by simp)) harr⟩
 | goto l=>exact⟨.goto l,a1,w1,(λh=>by cases h),hq,.pass (x:=.inLoop c) rfl (λ_ _=>.inl (by simp)) harr⟩
 | ret=>exact⟨.ret,a1,w1,(λh=>by cases h),hq,.pass (x:=.inLoop c) rfl (λ_ _=>.inl (by simp)) harr⟩
 | panic ch=>exact⟨.panic ch,a1,w1,(λh=>by cases h),hq,.pass (x:=.inLoop c) rfl (λ_ _=>.inl (by simp)) harr⟩
 | outgrown=>exact⟨.outgrown,a1,w1,(λh=>by cases h),hq,.pass (x:=.inLoop c) rfl (λ_ _=>.inl (by simp)) harr⟩
omit [bI] [Env] in
theorem fL.ag7 {c:Code} {Q:Exit->Act->World->Prop}:∀(m:Nat) (a:Act) (w:World),Code.rounds P c Q m a w->fL P c Q a w
 | 0,_,_,h=>h.elim
 | m+1,a,w,h=>fL.step (wp_mono h λe a1 w1 hq=>by
  cases e with
  | normal=>exact fL.ag7 m a1 w1 hq
  | _=>exact hq)
def qM (P:Program) (n:Nat) (f:Fr->Hp->Option (Ex×Fr×Hp)) (c:Code):Prop:=
 ∀s h e s' h',f s h=some (e,s',h')->∀bs a w,SR bs s a n->HR w bs h->∀Q,(∀ex a1 w1,iu n bs w h e s' h' ex a1 w1->Exit.then (fL P c Q) Q ex a1 w1)->fL P c Q a w
theorem T2.r {f:Fr->Hp->Option (Ex×Fr×Hp)} {c:Code} (hb:T2 P n f c):qM P n f c:=λs h e s' h' he bs a w hS hR _ hq=>fL.step (wp_mono (hb s h e s' h' he bs a w hS hR) λex a1 w1 hg=>hq ex a1 w1 hg)
theorem avy {g f:Fr->Hp->Option (Ex×Fr×Hp)} {c:Code} (hg:qM P n g c) (hb:qM P n f c):∀(m:Nat) (s:Fr) (h:Hp) e s' h',Pf g f m s h=some (e,s',h')->∀bs a w,SR bs s a n->HR w bs h->fL P c (iu n bs w h e s' h') a w
 | 0,s,h,e,s',h',he,bs,a,w,hS,hR=>by simp[Pf] at he
 | m+1,s,h,e,s',h',he,bs,a,w,hS,hR=>by
  have one:∀e1 s1 h1,(match g s h with | some r=>some r | none=>f s h)=some (e1,s1,h1)->∀Q,(∀ex a1 w1,iu n bs w h e1 s1 h1 ex a1 w1->Exit.then (fL P c Q) Q ex a1 w1)->fL P c Q a w:=by
   intro e1 s1 h1 hx
   cases hgs:g s h with
   | some r=>
    rw[hgs] at hx
    injection hx with hx
    subst hx
    exact hg _ _ _ _ _ hgs bs a w hS hR
   | none=>
    rw[hgs] at hx
    exact hb _ _ _ _ _ hx bs a w hS hR
  simp only[Pf] at he
  split at he
  .rename_i s1 h1 hx
   refine one _ _ _ hx _ ?_
   rintro ex a1 w1 ⟨rfl,bs1,hS1,hR1,hM1⟩
   refine G5 ?_
   refine (avy hg hb m s1 h1 e s' h' he bs1 a1 w1 hS1 hR1).mono ?_
   rintro ex a2 w2 _ ⟨e1,bs',h1',h2',h3'⟩
   exact⟨e1,bs',h1',h2',hM1.trans h3'⟩
  .rename_i hno
   refine one _ _ _ he _ ?_
   rintro ex a1 w1 ⟨rfl,hrest⟩
   cases e with
   | norm=>exact absurd he (hno s' h')
   | ret=>exact⟨rfl,hrest⟩
   | exit i=>exact⟨rfl,hrest⟩
def loops:Code->List (Nat×Code)
 | .seq a b=>loops a++loops b
 | .cond _ a b=>loops a++loops b
 | .block _ a=>loops a
 | .loop a=>(match keyOf a with
  | some k=>[(k,a)]
  | none=>[])++loops a
 | .scope a=>loops a
 | _=>[]
theorem na (hI:dm P I) (hC:ua P call) (hm:P.follows .mixedOrders=true) {pl:Nat->List K} {lp:Nat->Option iv}:∀(c:Code),(∀p∈loops c,∀g,lp p.1=some g->qM P n g p.2)->ky I n pl c=true->T2 P n (code I call n pl lp c) c
 | .skip,hL,_=>by
  intro s h e s' h' he bs a w hS hR
  simp only[code,cu,Prod.mk.injEq] at he
  obtain⟨rfl,rfl,rfl⟩:=he
  exact aQN ⟨rfl,bs,hS,hR,Mv.refl _ _ _⟩
 | .label l,hL,_=>by
  intro s h e s' h' he bs a w hS hR
  simp only[code,cu,Prod.mk.injEq] at he
  obtain⟨rfl,rfl,rfl⟩:=he
  exact aQI ⟨rfl,bs,hS,hR,Mv.refl _ _ _⟩
 | .region id ⟨os⟩ d,hL,hc=>by
  intro s h e s' h' he bs a w hS hR
  simp only[code] at he
  split at he
  case h_2=>cases he
  rename_i s1 h1 he1
  simp only[cu,Prod.mk.injEq] at he
  obtain⟨rfl,rfl,rfl⟩:=he
  cases d with
  | true=>exact a8T hI hC hm (a9A hc) he1 hS hR λa' w' bs' h1 h2 h3=>⟨rfl,bs',h1,h2,h3⟩
  | false=>exact aQJ (ahf hI hC os s h bs a w he1 hS hR λa' w' bs' h1 h2 h3=>⟨rfl,bs',h1,h2,h3⟩)
 | .seq x y,hL,hc=>by
  simp only[ky,ar] at hc
  intro s h e s' h' he bs a w hS hR
  simp only[code] at he
  refine aQM ?_
  split at he
  .rename_i s1 h1 he1
   refine wp_mono (na hI hC hm x (λp hp=>hL p (CM _ hp)) hc.1 _ _ _ _ _ he1 bs a w hS hR) ?_
   rintro ex a1 w1 ⟨rfl,bs1,hS1,hR1,hM1⟩
   refine G5 (wp_mono (na hI hC hm y (λp hp=>hL p (CN _ hp)) hc.2 _ _ _ _ _ he bs1 a1 w1 hS1 hR1) ?_)
   rintro ex a2 w2 ⟨rfl,bs2,hS2,hR2,hM2⟩
   exact⟨rfl,bs2,hS2,hR2,hM1.trans hM2⟩
  .rename_i hno
   refine wp_mono (na hI hC hm x (λp hp=>hL p (CM _ hp)) hc.1 _ _ _ _ _ he bs a w hS hR) ?_
   rintro ex a1 w1 ⟨rfl,hrest⟩
   cases e with
   | norm=>exact absurd he (hno s' h')
   | ret=>exact⟨rfl,hrest⟩
   | exit i=>exact⟨rfl,hrest⟩
 | .cond c x y,hL,hc=>by
  simp only[ky,ar] at hc
  intro s h e s' h' he bs a w hS hR
  simp only[code] at he
  split at he
  .rename_i hv
   have h1:a.eval c=.bool true:=hS.env _ _ hv
   exact wp_cond_true h1 (na hI hC hm x (λp hp=>hL p (CM _ hp)) hc.1 _ _ _ _ _ he bs a w hS hR)
  .rename_i hv
   have h1:a.eval c=.bool false:=hS.env _ _ hv
   exact wp_cond_false h1 (na hI hC hm y (λp hp=>hL p (CN _ hp)) hc.2 _ _ _ _ _ he bs a w hS hR)
  .rename_i z hv
   have h1:a.eval c=.bool (decide (N z≠0)):=hS.env _ _ hv
   split at he
   .rename_i ht
    rw[Bi hI.F ht] at h1
    exact wp_cond_true h1 (na hI hC hm x (λp hp=>hL p (CM _ hp)) hc.1 _ _ _ _ _ he bs a w hS hR)
   .rename_i ht
    rw[Bi hI.F ht] at h1
    exact wp_cond_false h1 (na hI hC hm y (λp hp=>hL p (CN _ hp)) hc.2 _ _ _ _ _ he bs a w hS hR)
   .cases he
  .cases he
 | .block i x,hL,hc=>by
  intro s h e s' h' he bs a w hS hR
  simp only[code] at he
  refine aQG ?_
  split at he
  .rename_i j s1 h1 he1
   refine wp_mono (na hI hC hm x hL hc _ _ _ _ _ he1 bs a w hS hR) ?_
   rintro ex a1 w1 ⟨rfl,hrest⟩
   cases hb:Nat.beq i j with
   | true=>
    rw[hb] at he
    simp only[cond_true,cu,Prod.mk.injEq] at he
    obtain⟨rfl,rfl,rfl⟩:=he
    have:=beq_eq hb
    subst this
    exact aTq ⟨rfl,hrest⟩
   | false=>
    rw[hb] at he
    simp only[cond_false,cu,Prod.mk.injEq] at he
    obtain⟨rfl,rfl,rfl⟩:=he
    have hne:(j==i)=false:=by
     cases hji:j==i with
     | false=>rfl
     | true=>
      have:=eq_of_beq hji
      subst this
      rw[Ol] at hb; cases hb
    exact aTr hne ⟨rfl,hrest⟩
  .rename_i hno
   refine wp_mono (na hI hC hm x hL hc _ _ _ _ _ he bs a w hS hR) ?_
   rintro ex a1 w1 ⟨rfl,hrest⟩
   cases e with
   | norm=>exact aTo ⟨rfl,hrest⟩
   | ret=>exact aTp ⟨rfl,hrest⟩
   | exit i=>exact absurd he (hno _ _ _)
 | .loop x,hL,hc=>by
  intro s h e s' h' he bs a w hS hR
  simp only[code] at he
  split at he
  .rename_i g hg
   obtain⟨k,hk,hg⟩:=sD.1 hg
   exact (avy (hL (k,x) (CM _ (by rw[hk]; exact uh.2 rfl)) g hg) (na hI hC hm x (λp hp=>hL p (CN _ hp)) hc).r _ _ _ _ _ _ he bs a w hS hR).loop
  .exact wp_loop_rounds _ (avz (na hI hC hm x (λp hp=>hL p (CN _ hp)) hc) _ _ _ _ _ _ he bs a w hS hR)
 | .scope x,hL,hc=>by
  intro s h e s' h' he bs a w hS hR
  simp only[code] at he
  refine aQL (wp_mono (na hI hC hm x hL hc _ _ _ _ _ he bs a w hS hR) ?_)
  rintro ex a1 w1 ⟨rfl,hrest⟩
  cases e with
  | norm=>exact aTs ⟨rfl,hrest⟩
  | ret=>exact aTt ⟨rfl,hrest⟩
  | exit i=>exact aTu ⟨rfl,hrest⟩
 | .exit i,hL,_=>by
  intro s h e s' h' he bs a w hS hR
  simp only[code,cu,Prod.mk.injEq] at he
  obtain⟨rfl,rfl,rfl⟩:=he
  exact aQH ⟨rfl,bs,hS,hR,Mv.refl _ _ _⟩
 | .ret,hL,_=>by
  intro s h e s' h' he bs a w hS hR
  simp only[code,cu,Prod.mk.injEq] at he
  obtain⟨rfl,rfl,rfl⟩:=he
  exact aQK ⟨rfl,bs,hS,hR,Mv.refl _ _ _⟩
 | .goto l,hL,_=>by intro s h e s' h' he; simp[code] at he
 | .rangeFunc _ _ _ _,hL,_=>by intro s h e s' h' he; simp[code] at he
 | .refuse _,hL,_=>by intro s h e s' h' he; simp[code] at he
end Go.Z
namespace Go.Z
open Go Go.Sym Go.RowKit
open Go.Ev (T K Ex DH DF a7 la jD sL lone qh)
variable [bI] [Env]
variable {P:Program} {I:Info} {n:Nat} {call:FuncId->List V->Hp->Option (V×Hp)} {s s':Fr} {h h':Hp} {w:World} {bs:Nm} {a:Act}
structure JU (P:Program) (I:Info):Prop where
 mixed:P.follows .mixedOrders=true
 fn:∀f fn,I.fn f=some fn->P.funcs[f]?=some fn/\GH P f=true
 body:∀f fn b,I.fn f=some fn->fn.body=some b->ky I fn.ntmps (I.pl f) b=true
def aPK (P:Program) (bs:Nm) (w:World) (a:Act) (r:ResultVar) (p:P1):Prop:=
 ∃u,PR bs p u/\((∃t,r=.tmp t/\a.tmps.getD t undef=u)\/∃q ty ad,r=.cell q ty/\a.tmps.getD q undef=.pointer (some ad)/\(loadVar ty ad).run P w=.ok u w)
theorem SR.tmp (hS:SR bs s a n) {t:Nat} {v:V} (hv:dy s (.tmp t)=some v):VR bs v (a.tmps.getD t undef):=by
 have:=hS.env _ _ hv
 simpa [Act.eval] using this
theorem a8V (hI:dm P I) (hS:SR bs s a n) (hR:HR w bs h) {r:ResultVar} {p:P1} (he:XE I s h r=some p):aPK P bs w a r p:=by
 cases r with
 | tmp t=>
  simp only[XE] at he
  split at he
  .rename_i c hv; cases he; exact⟨_,hS.tmp hv,.inl ⟨t,rfl,rfl⟩⟩
  .rename_i l hv; cases he; exact⟨_,hS.tmp hv,.inl ⟨t,rfl,rfl⟩⟩
  .cases he
 | cell q ty=>
  simp only[XE] at he
  split at he
  case h_2=>cases he
  rename_i id off e hv
  obtain⟨k,hk,h0,hu⟩:=hS.tmp hv
  split at he
  .rename_i c hl; cases he
   obtain⟨u,h1,h2⟩:=afE hI hR hk h0 hl
   exact⟨u,h2,.inr ⟨q,ty,_,rfl,hu,h1⟩⟩
  .rename_i l hl; cases he
   obtain⟨u,h1,h2⟩:=afE hI hR hk h0 hl
   exact⟨u,h2,.inr ⟨q,ty,_,rfl,hu,h1⟩⟩
  .cases he
def Ih (tmps:Array Value):ResultVar->Sem Value
 | .tmp t=>pure (tmps.getD t undef)
 | .cell a t=>do loadVar t (<- asAddr (tmps.getD a undef))
theorem aD5 (hI:dm P I) (hS:SR bs s a n) (hR:HR w bs h):∀{l:List ResultVar} {ps:List P1},LG I s h l=some ps->∃us,jz bs ps us/\(l.mapM (Ih a.tmps)).run P w=.ok us w
 | [],ps,he=>by
  simp only[LG,cu] at he
  subst he
  exact⟨[],trivial,by simp⟩
 | r::l,ps,he=>by
  simp only[LG] at he
  split at he
  case h_2=>cases he
  rename_i p q hp hq
  cases he
  obtain⟨u,h1,h2⟩:=a8V hI hS hR hp
  obtain⟨us,h3,h4⟩:=aD5 hI hS hR hq
  refine⟨u::us,⟨h1,h3⟩,?_⟩
  rw[N3]
  rcases h2 with ⟨t,rfl,ht⟩ | ⟨q',ty,ad,rfl,hq',hl⟩
  .simp[Ih,ht,h4]
  .simp[Ih,hq',asAddr,hl,h4]
theorem jz.len:∀{l:List P1} {vs:List Value},jz bs l vs->vs.length=l.length
 | [],[],_=>rfl
 | _::l,_::vs,⟨_,h2⟩=>by rw[mz,mz,h2.len]
 | [],_::_,h=>h.elim
 | _::_,[],h=>h.elim
theorem a8W (hI:dm P I) (hS:SR bs s a n) (hR:HR w bs h) {fn:Func} {v:V} (he:results I s h fn.results.toList=some v):∃u,(Go.results fn a.tmps).run P w=.ok u w/\VR bs v u:=by
 unfold results at he
 have key:∀ps,LG I s h fn.results.toList=some ps->∃us,jz bs ps us/\(Go.results fn a.tmps).run P w=.ok (if h:us.toArray.size=1 then us.toArray[0] else .tuple us.toArray) w:=by
  intro ps hps
  obtain⟨us,h1,h2⟩:=aD5 hI hS hR hps
  refine⟨us,h1,?_⟩
  unfold Go.results
  have:fn.results.mapM (Ih a.tmps)=Functor.map List.toArray (fn.results.toList.mapM (Ih a.tmps)):=by
   rw[Array.mapM_eq_mapM_toList]
  have h3:(fn.results.mapM (Ih a.tmps)).run P w=.ok us.toArray w:=by
   rw[this]
   simp[h2]
  show ((fn.results.mapM (Ih a.tmps))>>=λvs=>pure (if h:vs.size=1 then vs[0] else .tuple vs)).run P w=_
  simp[h3]
 split at he
 .rename_i c hps
  cases he
  obtain⟨us,h1,h2⟩:=key _ hps
  match us,h1 with
  | [u],⟨h3,_⟩=>exact⟨u,by simpa using h2,h3⟩
 .rename_i l hps
  cases he
  obtain⟨us,h1,h2⟩:=key _ hps
  match us,h1 with
  | [u],⟨h3,_⟩=>exact⟨u,by simpa using h2,h3⟩
 .rename_i l h1 h2 hps
  cases he
  obtain⟨us,h3,h4⟩:=key _ hps
  have hl:=h3.len
  have hne:¬(us.toArray.size=1):=by
   intro e
   have e':us.length=1:=by simpa using e
   rw[hl] at e'
   match l,e' with
   | [.c c],_=>exact h1 c rfl
   | [.agg c],_=>exact h2 c rfl
  rw[dif_neg hne] at h4
  exact⟨_,h4,us,h3,rfl⟩
 .cases he
theorem aup:∀(as:List V) (i:Nat),i+as.length<=512->∀d v,d < 512->(GZ i as).get d=some v->i<=d/\as[d - i]?=some v
 | [],i,_,d,v,_,h=>by rw[GZ,T.qd] at h; cases h
 | x::r,i,hl,d,v,hd,h=>by
  rw[mz] at hl
  rw[GZ,show DF=9 from rfl,T.qe 9 _ _ _ _ (show i < 512 by omega) hd] at h
  by_cases e:d=i
  .rw[if_pos e] at h
   cases h
   subst e
   exact⟨fv _,by rw[yw]; rfl⟩
  .rw[if_neg e] at h
   obtain⟨h1,h2⟩:=aup r (i+1) om d v hd h
   exact⟨by omega,by rw[show d - i=(d - (i+1))+1 by omega,eD]; exact h2⟩
theorem jS.get:∀{l:List V} {vs:List Value},jS bs l vs->∀(i:Nat) v,l[i]?=some v->∃u,vs[i]?=some u/\VR bs v u
 | _::_,u::_,⟨h1,_⟩,0,v,hv=>by simp at hv; subst hv; exact⟨u,rfl,h1⟩
 | _::l,_::vs,⟨_,h2⟩,i+1,v,hv=>by
  rw[eD] at hv
  obtain⟨u,h3,h4⟩:=h2.get i v hv
  exact⟨u,by rw[eD]; exact h3,h4⟩
 | [],[],_,i,v,hv=>by simp at hv
 | [],_::_,h,_,_,_=>h.elim
 | _::_,[],h,_,_,_=>h.elim
theorem aSq {as:List V} {vs:List Value} (ha:jS bs as vs) {m:Nat} (hm:m<=512) (hl:as.length<=m):SR bs (GZ 0 as) {tmps:=vs.toArray++Array.replicate (m - vs.toArray.size) undef,defers:=[]} m:=by
 have hvl:=ha.len
 refine⟨rfl,by simp; omega,hm,λd v hd hv=>?_⟩
 obtain⟨_,h2⟩:=aup as 0 om d v hd hv
 rw[Nat.sub_zero] at h2
 obtain⟨u,h3,h4⟩:=ha.get d v h2
 refine⟨u,?_,h4⟩
 have hlt:d < vs.toArray.size:=by simpa using (k8.1 h3).1
 simp only[Array.getElem?_append,hlt,if_true]
 simpa using h3
def Uu (P:Program) (orc:FuncId->Option (List V->Hp->Option (V×Hp))):Prop:=∀f g,orc f=some g->ua P λf' as h=>if f'=f then g as h else none
def Ui (P:Program) (I:Info) (lps:FuncId->Nat->Option iv):Prop:=∀f fn b,I.fn f=some fn->fn.body=some b->∀p∈loops b,∀g,lps f p.1=some g->qM P fn.ntmps g p.2
theorem De (hI:dm P I) (hF:JU P I) {orc:FuncId->Option (List V->Hp->Option (V×Hp))} {lps:FuncId->Nat->Option iv} (hO:Uu P orc) (hL:Ui P I lps):∀m,ua P (uv I orc lps m)
 | 0=>by intro f as h v h' he; simp[uv] at he
 | m+1=>by
  intro f as h v h' he bs vs w ha hR
  simp only[uv] at he
  split at he
  .rename_i g hg
   exact hO f g hg f as h v h' (by simpa using he) bs vs w ha hR
  .rename_i hg
   split at he
   case h_2=>cases he
   rename_i fn hfn
   obtain⟨hfp,hcall⟩:=hF.fn f fn hfn
   split at he
   case h_2=>cases he
   rename_i b hb
   obtain⟨hb1,hb⟩:=cm hb
   rw[ar] at hb1
   have hcB:=hF.body f fn b hfn hb
   have hS:=aSq ha (sI hb1.1) (sI hb1.2)
   have hfin:∀e s' h1,code I (uv I orc lps m) fn.ntmps (I.pl f) (lps f) b (GZ 0 as) h=some (e,s',h1)->(results I s' h1 fn.results.toList).map (·,h1)=some (v,h')->(e=.norm\/e=.ret)->n5 P f vs.toArray w (iI w bs h v h'):=by
    intro e s' h1 hc hres hee
    obtain⟨v',hv,hvv⟩:=eR.1 hres
    cases hvv
    refine .inr ⟨aEe hcall vs.toArray,?_⟩
    refine calls_of_wp hfp hb (wp_mono (na hI (De hI hF hO hL m) hF.mixed b (hL f fn b hfn hb) hcB _ _ _ _ _ hc bs _ w hS hR) ?_)
    rintro ex a1 w1 ⟨rfl,bs1,hS1,hR1,hM1⟩
    obtain⟨u,hu1,hu2⟩:=a8W hI hS1 hR1 hv
    rcases hee with rfl | rfl
    .exact⟨hS1.defers,u,hu1,u,rfl,bs1,hR1,hM1,hu2⟩
    .exact⟨hS1.defers,u,hu1,u,rfl,bs1,hR1,hM1,hu2⟩
   split at he
   .rename_i s' h1 hc; exact hfin _ _ _ hc he (.inl rfl)
   .rename_i s' h1 hc; exact hfin _ _ _ hc he (.inr rfl)
   .cases he
end Go.Z
namespace Go.Z
open Go Go.Sym Go.RowKit
open Go.Ev (T K Ex DH DF a7 la jD sL lone qh)
variable [bI] [Env]
section
def dB {α:Type} (p:α->Prop):List α->Prop
 | []=>True
 | x::l=>p x/\dB p l
theorem dB.mem {α:Type} {p:α->Prop}:∀{l:List α},dB p l->∀x∈l,p x
 | x::l,⟨h1,h2⟩,y,hy=>by
  rcases ep.1 hy with rfl | hy
  .exact h1
  .exact h2.mem y hy
 | [],_,y,hy=>by cases hy
def wQ {α:Type} (d:Nat):List (Nat×α)->T (Option α)
 | []=>.lf none
 | p::r=>(wQ d r).set d p.1 (some p.2)
def Ds {α:Type} (n:Nat) (l:List (Nat×α)):Bool:=l.all λp=>Nat.blt p.1 n
theorem azf {α:Type} {d:Nat}:∀{l:List (Nat×α)},Ds (2 ^ d) l=true->∀{i:Nat} {a:α},i < 2 ^ d->(wQ d l).get i=some a->(i,a)∈l
 | [],_,i,a,_,h=>by rw[wQ,T.qd] at h; cases h
 | (j,b)::r,hb,i,a,hi,h=>by
  simp only[Ds,Ub,ar] at hb
  rw[wQ,T.qe d _ _ _ _ (iw hb.1) hi] at h
  by_cases e:i=j
  .rw[if_pos e] at h
   cases h
   rw[e]; exact mh
  .rw[if_neg e] at h
   exact mt (azf hb.2 hi h)
def C8 {α:Type} (n:Nat) (t:T (Option α)) (i:Nat):Option α:=bif Nat.blt i n then t.get i else none
theorem at_mem {α:Type} {d:Nat} {l:List (Nat×α)} (hb:Ds (2 ^ d) l=true) {i:Nat} {a:α} (h:C8 (2 ^ d) (wQ d l) i=some a):(i,a)∈l:=by
 unfold C8 at h
 obtain⟨h1,h2⟩:=cm h
 exact azf hb (iw h1) h2
def avv {α:Type} (i:Nat):List (Nat×List α)->List α
 | []=>[]
 | (j,a)::r=>bif Nat.beq i j then a else avv i r
def AR (td:List (Nat×TypeDesc)) (sz:List (Nat×Nat)) (zs:List (Nat×List ai)) (eg:List (Nat×Bool)) (fn:List (Nat×Func)) (pl:List (Nat×List (Nat×List K))) (F:Fx):Info where
 td t:=C8 512 (wQ 9 td) t
 sz t:=C8 512 (wQ 9 sz) t
 zs t:=C8 512 (wQ 9 zs) t
 F:=F
 eg t:=match C8 512 (wQ 9 eg) t with
  | some b=>b
  | none=>false
 fn f:=C8 1024 (wQ 10 fn) f
 pl f r:=match C8 1024 (wQ 10 pl) f with
  | some l=>avv r l
  | none=>[]
def cvB:C->Value->Bool
 | .int k (.i n),.int k' m=>q8 k k' && (decide (n=m) && VA k n)
 | .bool a,.bool b=>a==b
 | .str (.i 0) _,.string s=>Nat.beq s.data.size 0
 | .db,.pointer none=>true
 | .cT,.slice none 0 0=>true
 | .yV,.nilFunc=>true
 | _,_=>false
def alz (k:IntKind):Value->Bool
 | .int k' n=>q8 k k' && decide (n=0)
 | _=>false
def Be:List ai->List Value->Bool
 | [],[]=>true
 | .c c::r,v::vs=>cvB c v && Be r vs
 | .a [k] (.i (.ofNat m)) (.i 0)::r,vs=>Nat.beq (List.take m vs).length m && ((List.take m vs).all (alz k) && Be r (List.drop m vs))
 | _,_=>false
def szB (P:Program) (p:Nat×Nat):Bool:=match P.info? p.1 with
 | some i=>Nat.beq i.size p.2 && Nat.ble i.bytes 1048576
 | none=>false
def zcB (P:Program) (I:Info) (p:Nat×List ai):Bool:=match P.info? p.1 with
 | some i=>match i.zero with
  | some zv=>Be p.2 zv.cells.toList && (match I.sz p.1 with | some n=>Nat.beq zv.cells.toList.length n | none=>true)
  | none=>false
 | none=>false
def egB (P:Program) (p:Nat×Bool):Bool:=!(p.2 && P.eqGuardType P.depth p.1)
def QY (P:Program) (p:Nat×TypeDesc):Bool:=match p.2 with
 | .struct fs=>fs.toList.all λf=>(P.info? f.type).isSome
 | .array _ e=>(P.info? e).isSome
 | .int .u8=>match P.info? p.1 with
  | some i=>Nat.ble i.bytes 8
  | none=>true
 | _=>true
def uD (P:Program) (I:Info) (p:Nat×Func):Bool:=GH P p.1 && (match p.2.body with
 | some b=>ky I p.2.ntmps (I.pl p.1) b
 | none=>true)
theorem aRd {c:C} {v:Value} (h:cvB c v=true):CR Nm.no c v:=by
 unfold cvB at h
 split at h
 .simp only[ar,decide_eq_true_eq] at h
  obtain⟨h1,h2,h3⟩:=h
  exact⟨by rw[uI h1,<- h2]; rfl,au4 h3⟩
 .rw[eq_of_beq h]; rfl
 .rename_i s
  have h1:=beq_eq h
  have h2:s=⟨#[]⟩:=by
   obtain⟨⟨l⟩⟩:=s
   cases l with
   | nil=>rfl
   | cons x l=>simp at h1
  exact⟨aP _,by rw[h2]; rfl,λi hi=>absurd hi (by show ¬(i:Int) < 0; omega)⟩
 .rfl
 .rfl
 .rfl
 .cases h
theorem akG:∀{l:List ai} {vs:List Value},Be l vs=true->aS Nm.no l vs
 | [],[],_=>rfl
 | [],_::_,h=>by simp[Be] at h
 | .c c::r,[],h=>by simp[Be] at h
 | .c c::r,v::vs,h=>by
  simp only[Be,ar] at h
  exact⟨v,vs,rfl,aRd h.1,akG h.2⟩
 | .a ks n x::r,vs,h=>by
  have key:∀(k:IntKind) (m:Nat),(Nat.beq (List.take m vs).length m && ((List.take m vs).all (alz k) && Be r (List.drop m vs)))=true->aS Nm.no (.a [k] (.i (.ofNat m)) (.i 0)::r) vs:=by
   intro k m h
   simp only[ar] at h
   obtain⟨h1,h2,h3⟩:=h
   have h1:=beq_eq h1
   refine⟨vs.take m,vs.drop m,(Am m vs).symm,⟨by rw[h1]; rfl,λi hi=>⟨k,?_,?_⟩⟩,akG h3⟩
   .show [k][(0+i) % 1]?=_; rw[sB]; rfl
   .have hm:=dD.1 h2 _ (List.getElem_mem hi)
    have:(vs.take m)[i]=.int k 0:=by
     unfold alz at hm
     split at hm
     .rename_i k' n hv
      rw[ar,decide_eq_true_eq] at hm
      rw[hv,uI hm.1,hm.2]
     .cases hm
    rw[ue hi,this]
    refine⟨rfl,?_⟩
    show gu k 0
    unfold gu
    cases k <;>simp only[kc,fX] <;>omega
  unfold Be at h
  split at h
  .rename_i e; cases e
  .rename_i e; cases e
  .rename_i e; cases e; exact key _ _ h
  .cases h
variable {P:Program} {td:List (Nat×TypeDesc)} {sz:List (Nat×Nat)} {zs:List (Nat×List ai)} {eg:List (Nat×Bool)} {fn:List (Nat×Func)} {pl:List (Nat×List (Nat×List K))} {F:Fx}
theorem aTe (hb:(Ds 512 td && Ds 512 sz && Ds 512 zs && Ds 512 eg)=true) (h1:dB (λp=>P.underlying p.1=some p.2) td) (h2:sz.all (szB P)=true) (h3:zs.all (zcB P (AR td sz zs eg fn pl F))=true) (h4:eg.all (egB P)=true) (h5:td.all (QY P)=true) (hF:ah F):dm P (AR td sz zs eg fn pl F):=by
 simp only[ar] at hb
 obtain⟨⟨⟨b1,b2⟩,b3⟩,b4⟩:=hb
 have htd:∀t d,(AR td sz zs eg fn pl F).td t=some d->(t,d)∈td:=λt d h=>at_mem (d:=9) b1 h
 have hsz:∀t n,(AR td sz zs eg fn pl F).sz t=some n->∃i,P.info? t=some i/\i.size=n/\i.bytes<=1048576:=λt n h=>by
  have:=dD.1 h2 _ (at_mem (d:=9) b2 h)
  unfold szB at this
  split at this
  .rename_i i hi
   rw[ar] at this
   exact⟨i,hi,beq_eq this.1,sI this.2⟩
  .cases this
 refine⟨λt d h=>h1.mem _ (htd t d h),λt n h=>?_,λt z hz=>?_,λt h=>?_,λt fs h f hf=>?_,λt m e h=>?_,λe i h hi=>?_,λe n i h hi=>?_,hF⟩
 .obtain⟨i,hi,h6,_⟩:=hsz t n h
  rw[hi,<- h6]; rfl
 .have:=dD.1 h3 _ (at_mem (d:=9) b3 hz)
  unfold zcB at this
  split at this
  case h_2=>cases this
  rename_i i hi
  split at this
  case h_2=>cases this
  rename_i zv hzv
  rw[ar] at this
  refine⟨i,zv,hi,hzv,zv.cells.toList,by simp,λn hn=>?_,akG this.1⟩
  have h9:=this.2
  simp only at h9
  rw[hn] at h9
  exact beq_eq h9
 .unfold AR at h
  simp only at h
  split at h
  .rename_i b hb
   subst h
   have:=dD.1 h4 _ (at_mem (d:=9) b4 hb)
   simpa [egB] using this
  .cases h
 .have:=dD.1 h5 _ (htd t _ h)
  simp only[QY] at this
  exact dD.1 this f hf
 .have:=dD.1 h5 _ (htd t _ h)
  simpa [QY] using this
 .have:=dD.1 h5 _ (htd e _ h)
  simp only[QY,hi] at this
  exact sI this
 .obtain⟨i',hi',_,h6⟩:=hsz e n h
  rw[hi] at hi'; cases hi'
  exact h6
theorem aSp (hm:P.follows .mixedOrders=true) (hb:Ds 1024 fn=true) (h1:dB (λp=>P.funcs[p.1]?=some p.2) fn) (h2:fn.all (uD P (AR td sz zs eg fn pl F))=true):JU P (AR td sz zs eg fn pl F):=by
 have hf:∀f g,(AR td sz zs eg fn pl F).fn f=some g->(f,g)∈fn:=λf g h=>at_mem (d:=10) hb h
 refine⟨hm,λf g h=>⟨h1.mem _ (hf f g h),?_⟩,λf g b h hbd=>?_⟩
 .have:=dD.1 h2 _ (hf f g h)
  simp only[uD,ar] at this
  exact this.1
 .have:=dD.1 h2 _ (hf f g h)
  simp only[uD,ar] at this
  have h3:=this.2
  simp only[hbd] at h3
  exact h3
end
end Go.Z
namespace Go.Z
open Go Go.Sym Go.RowKit
open Go.Ev (T K Ex DH DF a7)
section
variable [bI]
def je (σ:Nat->X) (k:Nat):X:=bif mM (σ k) then σ k else .i 0
def bP (σ:Nat->X):X->X
 | .i n=>.i n
 | .v k=>je σ k
 | .n=>.n
 | .c a b=>.c (bP σ a) (bP σ b)
 | .o1 f a=>.o1 f (bP σ a)
 | .o2 f a b=>.o2 f (bP σ a) (bP σ b)
 | .o3 f a b c=>.o3 f (bP σ a) (bP σ b) (bP σ c)
 | .f k l=>.f k (bP σ l)
def sbK (σ:Nat->X):gj->gj
 | .k x=>.k (bP σ x)
 | .g=>.g
 | .a=>.a
def Ik (σ:Nat->X) (τ:Nat->Nat):C->C
 | .int k x=>.int k (bP σ x)
 | .bool b=>.bool b
 | .bx x=>.bx (bP σ x)
 | .str n x=>.str (bP σ n) (bP σ x)
 | .db=>.db
 | .ptr i o e=>.ptr (τ i) o (bP σ e)
 | .cT=>.cT
 | .sl i o e n c=>.sl (τ i) o (bP σ e) (bP σ n) (sbK σ c)
 | .yV=>.yV
 | .fn f l=>.fn f (l.map λp=>(τ p.1,p.2))
def Im (σ:Nat->X) (τ:Nat->Nat):ai->ai
 | .c c=>.c (Ik σ τ c)
 | .a ks n x=>.a ks (bP σ n) (bP σ x)
def Il (σ:Nat->X) (τ:Nat->Nat):P1->P1
 | .c c=>.c (Ik σ τ c)
 | .agg l=>.agg (l.map (Im σ τ))
def s8 (σ:Nat->X) (τ:Nat->Nat):V->V
 | .c c=>.c (Ik σ τ c)
 | .agg l=>.agg (l.map (Im σ τ))
 | .dK l=>.dK (l.map (Il σ τ))
def QC (σ:Nat->X) (τ:Nat->Nat) (b:Bl):Bl:=⟨b.t,b.ss.map (Im σ τ),b.ro,b.ks⟩
@[reducible] def dw [Env] (σ:Nat->X):Env:=⟨λk=>D (je σ k)⟩
theorem aPq [Env] (σ:Nat->X):∀x:X,DD (bP σ x)=@DD _ (dw σ) x:=by
 intro x
 induction x with
 | i n=>rfl
 | v k=>
  have h2:(DD (je σ k)).2=[]:=by
   unfold je
   cases h:mM (σ k) with
   | true=>exact ag4 h
   | false=>rfl
  exact Prod.ext rfl h2
 | n=>rfl
 | c a b iha ihb=>simp only[bP,DD,iha,ihb]
 | o1 f a iha=>simp only[bP,DD,iha]
 | o2 f a b iha ihb=>simp only[bP,DD,iha,ihb]
 | o3 f a b c iha ihb ihc=>simp only[bP,DD,iha,ihb,ihc]
 | f k l ih=>simp only[bP,DD,ih]
variable [Env] {F:Fx} {bs bs':Nm} {σ:Nat->X} {τ:Nat->Nat}
theorem wb (x:X):D (bP σ x)=@D _ (dw σ) x:=congrArg Prod.fst (aPq σ x)
theorem fm (x:X):N (bP σ x)=@N _ (dw σ) x:=congrFun (wb x) 0
structure Ov (τ:Nat->Nat) (p q:Nm):Prop where
 b:∀id k,p.b id=some k->q.b (τ id)=some k
 c:∀id k,p.c id=some k->q.c (τ id)=some k
 o:∀id k,p.b id=some k->q.o (τ id)=p.o id
theorem atf (ho:Ov τ bs bs'):∀{l:List (Nat×Nat)} {vs:List Value},uw bs l vs->uw bs' (l.map λp=>(τ p.1,p.2)) vs
 | [],[],_=>trivial
 | (_,_)::_,_::_,⟨⟨b,h1,h2⟩,h3⟩=>⟨⟨b,ho.b _ _ h1,by rw[ho.o _ _ h1]; exact h2⟩,atf ho h3⟩
 | [],_::_,h=>h
 | _::_,[],h=>h
theorem adH (ho:Ov τ bs bs') {c:C} {u:Value} (h:@CR _ (dw σ) bs c u):CR bs' (Ik σ τ c) u:=by
 cases c with
 | int k x=>exact⟨by rw[fm]; exact h.1,by rw[fm]; exact h.2⟩
 | bool b=>exact h
 | bx x=>show u=.bool (decide (N (bP σ x)≠0)); rw[fm]; exact h
 | str n x=>
  show Ke (bP σ n) (bP σ x) u
  unfold Ke
  rw[fm,wb]; exact h
 | db=>exact h
 | ptr i o e=>
  obtain⟨b,h1,h2,h3⟩:=h
  exact⟨b,ho.b _ _ h1,by rw[fm]; exact h2,by rw[fm,ho.o _ _ h1]; exact h3⟩
 | cT=>exact h
 | sl i o e n c=>
  obtain⟨b,o',c',h1,h2,h3,h4,h5,h6⟩:=h
  refine⟨b,o',c',by rw[fm]; exact h1,by rw[fm]; exact h2,by rw[fm]; exact h3,λhh=>?_,?_,h6⟩
  .rw[fm] at hh
   obtain⟨e1,e2,e3⟩:=h4 (hh.imp (λh=>h) λh=>by cases c <;>first | exact h | trivial)
   exact⟨ho.b _ _ e1,by rw[fm]; exact e2,by rw[fm,ho.o _ _ e1]; exact e3⟩
  .cases c with
   | k x=>show (c':Int)=N (bP σ x); rw[fm]; exact h5
   | g=>exact ho.c _ _ h5
   | a=>trivial
 | yV=>exact h
 | fn f l=>obtain⟨vs,h1,h2⟩:=h; exact⟨vs,atf ho h1,h2⟩
theorem Oc (ho:Ov τ bs bs'):∀{l:List ai} {us:List Value},@aS _ (dw σ) bs l us->aS bs' (l.map (Im σ τ)) us
 | [],_,h=>h
 | .c _::_,_,⟨v,ws,h1,h2,h3⟩=>⟨v,ws,h1,adH ho h2,Oc ho h3⟩
 | .a ks n x::_,_,⟨us,ws,h1,⟨h2,h3⟩,h4⟩=>⟨us,ws,h1,⟨by rw[fm]; exact h2,λi hi=>by rw[wb]; exact h3 i hi⟩,Oc ho h4⟩
theorem aPJ (ho:Ov τ bs bs') {p:P1} {u:Value} (h:@PR _ (dw σ) bs p u):PR bs' (Il σ τ p) u:=by
 cases p with
 | c c=>exact adH ho h
 | agg l=>obtain⟨vs,h1,h2⟩:=h; exact⟨vs,Oc ho h1,h2⟩
theorem asy (ho:Ov τ bs bs'):∀{l:List P1} {us:List Value},@jz _ (dw σ) bs l us->jz bs' (l.map (Il σ τ)) us
 | [],[],_=>trivial
 | _::_,_::_,⟨h1,h2⟩=>⟨aPJ ho h1,asy ho h2⟩
 | [],_::_,h=>h.elim
 | _::_,[],h=>h.elim
theorem Uw (ho:Ov τ bs bs') {v:V} {u:Value} (h:@VR _ (dw σ) bs v u):VR bs' (s8 σ τ v) u:=by
 cases v with
 | c c=>exact adH ho h
 | agg l=>obtain⟨vs,h1,h2⟩:=h; exact⟨vs,Oc ho h1,h2⟩
 | dK l=>obtain⟨vs,h1,h2⟩:=h; exact⟨vs,asy ho h1,h2⟩
def jb (τ:Nat->Nat) (bs:Nm):Nm:=⟨λid=>bs.b (τ id),λid=>bs.c (τ id),λid=>bs.o (τ id)⟩
theorem atd:∀{l:List (Nat×Nat)} {vs:List Value},uw bs (l.map λp=>(τ p.1,p.2)) vs->uw (jb τ bs) l vs
 | [],[],_=>trivial
 | (_,_)::_,_::_,⟨⟨b,h1,h2⟩,h3⟩=>⟨⟨b,h1,h2⟩,atd h3⟩
 | [],_::_,h=>h
 | _::_,[],h=>h
theorem T3 {c:C} {u:Value} (h:CR bs (Ik σ τ c) u):@CR _ (dw σ) (jb τ bs) c u:=by
 cases c with
 | int k x=>have h:_/\_:=h; rw[fm] at h; exact h
 | bool b=>exact h
 | bx x=>have h:u=.bool (decide (N (bP σ x)≠0)):=h; rw[fm] at h; exact h
 | str n x=>
  have h:Ke (bP σ n) (bP σ x) u:=h
  unfold Ke at h
  rw[fm,wb] at h; exact h
 | db=>exact h
 | ptr i o e=>
  obtain⟨b,h1,h2,h3⟩:=h
  rw[fm] at h2 h3
  exact⟨b,h1,h2,h3⟩
 | cT=>exact h
 | sl i o e n c=>
  obtain⟨b,o',c',h1,h2,h3,h4,h5,h6⟩:=h
  rw[fm] at h1 h2 h3 h4
  refine⟨b,o',c',h1,h2,h3,λhh=>?_,?_,h6⟩
  .obtain⟨e1,e2,e3⟩:=h4 (hh.imp (λh=>h) λh=>by cases c <;>first | exact h | trivial)
   rw[fm] at e2 e3
   exact⟨e1,e2,e3⟩
  .cases c with
   | k x=>have h5:(c':Int)=N (bP σ x):=h5; rw[fm] at h5; exact h5
   | g=>exact h5
   | a=>trivial
 | yV=>exact h
 | fn f l=>obtain⟨vs,h1,h2⟩:=h; exact⟨vs,atd h1,h2⟩
theorem Kd:∀{l:List ai} {us:List Value},aS bs (l.map (Im σ τ)) us->@aS _ (dw σ) (jb τ bs) l us
 | [],_,h=>h
 | .c _::_,_,⟨v,ws,h1,h2,h3⟩=>⟨v,ws,h1,T3 h2,Kd h3⟩
 | .a ks n x::_,_,⟨us,ws,h1,⟨h2,h3⟩,h4⟩=>⟨us,ws,h1,⟨by rw[fm] at h2; exact h2,λi hi=>by have:=h3 i hi; rw[wb] at this; exact this⟩,Kd h4⟩
theorem aea {v:V} {u:Value} (hv:∀l,v≠.dK l) (h:VR bs (s8 σ τ v) u):@VR _ (dw σ) (jb τ bs) v u:=by
 cases v with
 | c c=>exact T3 h
 | agg l=>obtain⟨vs,h1,h2⟩:=h; exact⟨vs,Kd h1,h2⟩
 | dK l=>exact absurd rfl (hv l)
def aK (n:Nat):List (Nat×Bl)->Hp
 | []=>⟨.lf none,n⟩
 | (i,b)::r=>(aK n r).put i (some b)
theorem ou {n:Nat}:∀l:List (Nat×Bl),(aK n l).nx=n
 | []=>rfl
 | _::r=>ou r
theorem re {n:Nat}:∀{l:List (Nat×Bl)},(∀x∈l,x.1 < 4096)->∀{id b},id < 4096->(aK n l).get id=some b->(id,b)∈l
 | [],_,_,_,_,h=>by unfold aK Hp.get at h; rw[Go.Ev.T.qd] at h; cases h
 | (i,b')::r,hl,id,b,hid,h=>by
  rw[aK,Hp.lh (hl (i,b') mh) hid] at h
  by_cases e:id=i
  .rw[if_pos e] at h
   cases h
   rw[e]
   exact mh
  .rw[if_neg e] at h
   exact mt (re (λx hx=>hl x (mt hx)) hid h)
def As (F:Fx) (a b:Bl):Bool:=bif b.ro then qn F a.ss b.ss else Nat.beq a.t b.t && (Nat.beq a.ks b.ks && (!a.ro && qn F a.ss b.ss))
theorem Km {F:Fx} {a b:Bl} (h:As F a b=true) (hb:b.ro=false):a.ro=false:=by
 unfold As at h
 rw[hb] at h
 simp only[cond_false,ar] at h
 simpa using h.2.2.1
theorem asO {I:Info} (hF:ah I.F) {w:World} {id k:Nat} {a b:Bl} (h:As I.F a b=true) (ha:BR w bs id a k):BR w bs id b k:=by
 have hr:=Km h
 obtain⟨ps,us,ws,t,fr,h1,h0,h2,h3,h4⟩:=ha
 unfold As at h
 cases hb:b.ro with
 | true=>
  rw[hb] at h
  exact⟨ps,us,ws,t,fr,h1,h0,λe=>(by rw[hb] at e; cases e),Ij hF h h3,λe=>(by rw[hb] at e; cases e)⟩
 | false=>
  rw[hb] at h
  simp only[cond_false,ar] at h
  obtain⟨e1,e2,e3,e4⟩:=h
  exact⟨ps,us,ws,t,fr,h1,h0,λe=>by rw[<- beq_eq e1]; exact h2 (hr e),Ij hF e4 h3,λe=>by rw[<- beq_eq e2]; exact h4 (hr e)⟩
end
end Go.Z
namespace Go.Z
open Go Go.Sym Go.RowKit
open Go.Ev (T K Ex DH DF a7)
section
variable [bI]
def eM:List (Nat×X)->Nat->X
 | [],_=>.i 0
 | (j,x)::r,k=>bif Nat.beq k j then x else eM r k
def aV:List (Nat×Nat)->Nat->Nat
 | [],_=>4096
 | (j,x)::r,k=>bif Nat.beq k j then x else aV r k
structure Fa where
 vb:VB
 fs:List X
 tr:List (X×Bool)
 eq:List (X×X)
def Fa.fx (p:Fa):Fx:=⟨p.vb,p.fs.map kC,p.tr,p.eq⟩
def Q3 (F:Fx) (σ:Nat->X) (p:Nat×Int×Int):Bool:=(match bd F.vb (je σ p.1) with
 | some (a,b)=>decide (p.2.1<=a) && decide (b<=p.2.2)
 | none=>false) || (sP (je σ p.1) && (ay F (.i p.2.1) (je σ p.1) && ay F (je σ p.1) (.i p.2.2)))
def QS (F:Fx) (σ:Nat->X) (p:X×Bool):Bool:=match Eb F (bP σ p.1) with
 | some b=>b==p.2
 | none=>false
def OP (F:Fx) (σ:Nat->X) (p:Fa):Bool:=p.vb.all (Q3 F σ) && (p.fs.all (λx=>KN F (bP σ x)) && (p.tr.all (QS F σ) && p.eq.all λq=>gp F (bP σ q.1) (bP σ q.2)))
variable [Env] {F:Fx} {bs bs' bs1:Nm} {σ:Nat->X} {τ:Nat->Nat} {w w':World} {h h':Hp}
theorem Pe {k:Nat} {b:Int×Int}:∀{l:VB},iA k l=some b->(k,b)∈l
 | (j,c)::r,hh=>by
  unfold iA at hh
  rcases fF hh with ⟨h1,h2⟩ | ⟨_,h2⟩
  .simp_all
  .exact mt (Pe h2)
 | [],hh=>by cases hh
theorem ae2 (hF:ah F) {p:Fa} (hp:OP F σ p=true):@ah _ (dw σ) p.fx:=by
 simp only[OP,ar] at hp
 obtain⟨h1,h2,h3,h4⟩:=hp
 refine @ah.mk _ (dw σ) p.fx (λk lo hi hk i=>?_) (λl hl=>?_) (λq hq=>?_) (λq hq=>?_)
 .have:=dD.1 h1 _ (Pe hk)
  show lo<=D (je σ k) i/\D (je σ k) i<=hi
  simp only[Q3,dt,ar] at this
  rcases this with h5 | ⟨h5,h6,h7⟩
  .split at h5
   .rename_i a b hb
    simp only[ar,decide_eq_true_eq] at h5
    have:=cO hF.vb (je σ k) a b hb i
    omega
   .cases h5
  .have h6:lo<=N (je σ k):=aT hF h6
   have h7:N (je σ k)<=hi:=aT hF h7
   rw[wE h5]
   omega
 .obtain⟨x,hx,rfl⟩:=yn.1 hl
  have:=OU hF (dD.1 h2 x hx)
  rw[fm] at this
  rw[@pb _ (dw σ)]; exact this
 .have:=dD.1 h3 q hq
  unfold QS at this
  split at this
  .rename_i b hb
   have h5:=Bi hF hb
   rw[fm] at h5
   grind
  .cases this
 .have:=congrArg Prod.fst (Dk hF (dD.1 h4 q hq))
  have h5:D (bP σ q.1)=D (bP σ q.2):=this
  rw[wb,wb] at h5
  exact h5
def agW (F:Fx) (σ:Nat->X) (τ:Nat->Nat) (n:Nat) (h:Hp) (l:List (Nat×Bl)):Bool:=l.all λx=>Nat.blt x.1 n && (Nat.blt (τ x.1) 4096 && (match h.get (τ x.1) with
 | some b=>As F b (QC σ τ x.2)
 | none=>false))
def KV (τ:Nat->Nat):List (Nat×Bl)->Bool
 | []=>true
 | x::r=>r.all (λy=>Nat.beq x.1 y.1 || !Nat.beq (τ x.1) (τ y.1)) && KV τ r
def Pm (n:Nat) (h:Hp) (tl:List (Nat×Nat)):Bool:=Nat.ble n 4096 && (Nat.ble h.nx 4096 && tl.all λp=>Nat.blt p.1 n && Nat.blt p.2 h.nx)
theorem au5:∀{l:List (Nat×Bl)},KV τ l=true->∀x∈l,∀y∈l,τ x.1=τ y.1->x.1=y.1
 | z::r,hh,x,hx,y,hy,e=>by
  simp only[KV,ar] at hh
  have key:∀y∈r,τ z.1=τ y.1->z.1=y.1:=λy hy e=>by
   have:=dD.1 hh.1 y hy
   simp_all
  rcases ep.1 hx with e1 | h1
  .grind
  .rcases ep.1 hy with e2 | h2
   .grind
   .exact au5 hh.2 x h1 y h2 e
 | [],_,x,hx,_,_,_=>by cases hx
theorem avr (tl:List (Nat×Nat)) (k:Nat):aV tl k=4096\/(k,aV tl k)∈tl:=by
 induction tl with
 | nil=>exact .inl rfl
 | cons p r ih=>
  obtain⟨j,x⟩:=p
  unfold aV
  cases hb:Nat.beq k j with
  | true=>simp_all
  | false=>grind
structure m8 (I:Info) (σ:Nat->X) (tl:List (Nat×Nat)) (n:Nat) (h:Hp) (l:List (Nat×Bl)):Prop where
 map:Pm n h tl=true
 ax:agW I.F σ (aV tl) n h l=true
 inj:KV (aV tl) l=true
variable {I:Info} {tl:List (Nat×Nat)} {n n':Nat} {l l':List (Nat×Bl)}
theorem m8.un (hp:m8 I σ tl n h l) (hR:HR w bs h) {id:Nat} (hid:n<=id):bs.b (aV tl id)=none/\bs.c (aV tl id)=none:=by
 have h1:=hp.map
 simp only[Pm,ar] at h1
 rcases avr tl id with e | e
 .rw[e]; exact hR.nx 4096 (sI h1.2.1)
 .have:=dD.1 h1.2.2 _ e
  simp_all <;>omega
theorem m8.low (hp:m8 I σ tl n h l) (hR:HR w bs h) {id k:Nat} (hb:bs.b (aV tl id)=some k):aV tl id < h.nx/\id < n:=by
 have h1:¬h.nx<=aV tl id:=λhh=>by rw[(hR.nx _ hh).1] at hb; cases hb
 have h2:¬n<=id:=λhh=>by rw[(hp.un hR hh).1] at hb; cases hb
 omega
theorem m8.get (hp:m8 I σ tl n h l) {x:Nat×Bl} (hx:x∈l):x.1 < n/\aV tl x.1 < 4096/\∃b,h.get (aV tl x.1)=some b/\As I.F b (QC σ (aV tl) x.2)=true:=by
 have:=dD.1 hp.ax x hx
 simp only[ar] at this
 obtain⟨h1,h2,h3⟩:=this
 refine⟨iw h1,iw h2,?_⟩
 grind
theorem m8.n4 (hp:m8 I σ tl n h l):n<=4096:=by
 have h1:=hp.map
 simp only[Pm,ar] at h1
 simp_all
theorem m8.hr (hp:m8 I σ tl n h l) (hF:ah I.F) (hR:HR w bs h):@HR _ (dw σ) w (jb (aV tl) bs) (aK n l):=by
 have hn4:=hp.n4
 have hl4:∀x∈l,x.1 < 4096:=λx hx=>by have:=(hp.get hx).1; omega
 refine @HR.mk _ (dw σ) w (jb (aV tl) bs) (aK n l) (λid b hid hb=>?_) (λid id' b b' k hid hid' hb hb' hd e e'=>?_) (λid k hk=>?_) (λid hid=>?_)
 .have hx:=re hl4 hid hb
  obtain⟨h1,h2,b0,h3,h4⟩:=hp.get hx
  obtain⟨k,h5,h6⟩:=hR.ig _ b0 h2 h3
  refine⟨k,h5,?_⟩
  obtain⟨ps,us,ws,t,fr,e1,e0,e2,e3,e4⟩:=asO hF h4 h6
  exact⟨ps,us,ws,t,fr,e1,e0,e2,Kd e3,e4⟩
 .have hx:=re hl4 hid hb
  have hx':=re hl4 hid' hb'
  obtain⟨_,h2,b0,h3,_⟩:=hp.get hx
  obtain⟨_,h2',b1,h3',h4'⟩:=hp.get hx'
  exact au5 hp.inj _ hx _ hx' (hR.inj _ _ b0 b1 k h2 h2' h3 h3' (Km h4' hd) e e')
 .obtain⟨_,h2⟩:=hp.low hR hk
  exact⟨by omega,(hR.fp _ k hk).2⟩
 .rw[ou] at hid
  exact hp.un hR hid
theorem m8.owned (hp:m8 I σ tl n h l) {k:Nat} (ho:k9 (aK n l) (jb (aV tl) bs) k):∃x∈l,bs.b (aV tl x.1)=some k/\x.2.ro=false/\k9 h bs k/\∃b0,h.get (aV tl x.1)=some b0/\b0.ro=false:=by
 obtain⟨id,b,hid,hb,e,hro⟩:=ho
 have hl4:∀x∈l,x.1 < 4096:=λx hx=>by have:=(hp.get hx).1; have:=hp.n4; omega
 have hx:=re hl4 hid hb
 obtain⟨_,h2,b0,h3,h4⟩:=hp.get hx
 have hr:b0.ro=false:=Km h4 hro
 exact⟨_,hx,e,hro,⟨aV tl id,b0,h2,h3,e,hr⟩,b0,h3,hr⟩
theorem m8.WI (hp:m8 I σ tl n h l) {k:Nat} (ho:mA (aK n l) (jb (aV tl) bs) k):∃x∈l,bs.b (aV tl x.1)=some k/\mA h bs k:=by
 obtain⟨id,b,hid,hb,e⟩:=ho
 have hl4:∀x∈l,x.1 < 4096:=λx hx=>by have:=(hp.get hx).1; have:=hp.n4; omega
 have hx:=re hl4 hid hb
 obtain⟨_,h2,b0,h3,_⟩:=hp.get hx
 exact⟨_,hx,e,aV tl id,b0,h2,h3,e⟩
def iS (τ:Nat->Nat) (n nx:Nat) (id:Nat):Nat:=bif Nat.blt id n then τ id else nx+(id - n)
def uP (bs bs1:Nm) (n nx:Nat):Nm:=⟨λj=>if j < nx then bs.b j else bs1.b (n+(j - nx)),λj=>if j < nx then bs.c j else bs1.c (n+(j - nx)),λj=>if j < nx then bs.o j else bs1.o (n+(j - nx))⟩
def OE (τ:Nat->Nat):List (Nat×Bl)->Hp->Hp
 | [],h=>h
 | x::r,h=>(OE τ r h).put (τ x.1) none
def Qt (σ:Nat->X) (τ:Nat->Nat):List (Nat×Bl)->Hp->Hp
 | [],h=>h
 | x::r,h=>(Qt σ τ r h).put (τ x.1) (some (QC σ τ x.2))
def XF (l:List (Nat×Bl)) (i:Nat):Bool:=l.any λx=>Nat.beq x.1 i && x.2.ro
def wrL (l:List (Nat×Bl)):List (Nat×Bl):=l.filter λx=>!x.2.ro
def a_D (l l':List (Nat×Bl)):List (Nat×Bl):=l'.filter λx=>!XF l x.1
def hOut (σ:Nat->X) (τ:Nat->Nat) (n n':Nat) (l l':List (Nat×Bl)) (h:Hp):Hp:=Qt σ (iS τ n h.nx) (a_D l l') (OE τ (wrL l) ⟨h.h,h.nx+(n' - n)⟩)
def yO:List (Nat×Bl)->Bool
 | []=>true
 | x::r=>r.all (λy=>!Nat.beq x.1 y.1) && yO r
def roB (l l':List (Nat×Bl)):Bool:=l.all (λx=>!x.2.ro) || l'.all λx=>!x.2.ro || l.any λy=>Nat.beq y.1 x.1
def pk (τ:Nat->Nat) (n n' nx:Nat) (l l':List (Nat×Bl)):Bool:=Nat.ble n n' && (Nat.ble n' 4096 && (yO l' && (roB l l' && (Nat.ble (nx+(n' - n)) 4096 && l'.all λx=>Nat.blt x.1 n' && Nat.blt (iS τ n nx x.1) 4096))))
theorem G9 {n:Nat}:∀{l:List (Nat×Bl)},yO l=true->(∀x∈l,x.1 < 4096)->∀x∈l,(aK n l).get x.1=some x.2
 | z::r,hk,hl,x,hx=>by
  simp only[yO,ar] at hk
  obtain⟨i,b⟩:=z
  rw[aK,Hp.lh (hl (i,b) mh) (hl x hx)]
  rcases ep.1 hx with e | h1
  .grind
  .have:=dD.1 hk.1 x h1
   have hne:x.1≠i:=λe=>by
    simp_all
   rw[if_neg hne]
   exact G9 hk.2 (λy hy=>hl y (mt hy)) x h1
 | [],_,_,x,hx=>by cases hx
theorem atK:∀l:List (Nat×Bl),(OE τ l h).nx=h.nx
 | []=>rfl
 | _::r=>atK r
theorem aDG:∀l:List (Nat×Bl),(Qt σ τ l h).nx=h.nx
 | []=>rfl
 | _::r=>aDG r
theorem atJ {h:Hp}:∀{l:List (Nat×Bl)},(∀x∈l,τ x.1 < 4096)->∀{id b},id < 4096->(OE τ l h).get id=some b->h.get id=some b/\∀x∈l,τ x.1≠id
 | [],_,_,_,_,hb=>⟨hb,λx hx=>by cases hx⟩
 | y::r,hl,id,b,hid,hb=>by
  rw[OE,Hp.lh (hl y mh) hid] at hb
  by_cases e:id=τ y.1
  .grind
  .rw[if_neg e] at hb
   obtain⟨h1,h2⟩:=atJ (λx hx=>hl x (mt hx)) hid hb
   grind
theorem aDF {h:Hp}:∀{l:List (Nat×Bl)},(∀x∈l,τ x.1 < 4096)->∀{id b},id < 4096->(Qt σ τ l h).get id=some b->h.get id=some b\/∃x∈l,id=τ x.1/\b=QC σ τ x.2
 | [],_,_,_,_,hb=>.inl hb
 | y::r,hl,id,b,hid,hb=>by
  rw[Qt,Hp.lh (hl y mh) hid] at hb
  by_cases e:id=τ y.1
  .grind
  .rw[if_neg e] at hb
   exact (aDF (λx hx=>hl x (mt hx)) hid hb).imp (λh=>h) λ⟨x,h1,h2⟩=>⟨x,mt h1,h2⟩
theorem m8.out (hp:m8 I σ tl n h l) (hR:HR w bs h) (ho:pk (aV tl) n n' h.nx l l'=true) (hR':@HR _ (dw σ) w' bs1 (aK n' l')) (hM:Mv w w' (jb (aV tl) bs) bs1 (aK n l) (aK n' l')):HR w' (uP bs bs1 n h.nx) (hOut σ (aV tl) n n' l l' h)/\Mv w w' bs (uP bs bs1 n h.nx) h (hOut σ (aV tl) n n' l l' h)/\Ov (iS (aV tl) n h.nx) bs1 (uP bs bs1 n h.nx):=by
 simp only[pk,ar] at ho
 obtain⟨ho1,ho4,ho5,ho6,ho2,ho3⟩:=ho
 have hn'4:=sI ho4
 have hnn:=sI ho1
 have hnx4:=sI ho2
 have hn4:=hp.n4
 have hl4:∀x∈l,x.1 < 4096:=λx hx=>by have:=(hp.get hx).1; omega
 have hlt4:∀x∈l,aV tl x.1 < 4096:=λx hx=>(hp.get hx).2.1
 have hl'n:∀x∈l',x.1 < n'/\iS (aV tl) n h.nx x.1 < 4096:=λx hx=>by
  have:=dD.1 ho3 x hx
  simp_all
 have tlt:∀id,id < n->iS (aV tl) n h.nx id=aV tl id:=λid hid=>by
  unfold iS; rw[aer hid]; rfl
 have tge:∀id,n<=id->iS (aV tl) n h.nx id=h.nx+(id - n):=λid hid=>by
  unfold iS
  have:Nat.blt id n=false:=by
   cases hb:Nat.blt id n with
   | false=>rfl
   | true=>have:=iw hb; omega
  rw[this]; rfl
 have blow:∀j,j < h.nx->(uP bs bs1 n h.nx).b j=bs.b j/\(uP bs bs1 n h.nx).c j=bs.c j:=λj hj=>⟨if_pos hj,if_pos hj⟩
 have olow:∀j,j < h.nx->(uP bs bs1 n h.nx).o j=bs.o j:=λj hj=>if_pos hj
 have ohi:∀j,h.nx<=j->(uP bs bs1 n h.nx).o j=bs1.o (n+(j - h.nx)):=λj hj=>if_neg om
 have bhi:∀j,h.nx<=j->(uP bs bs1 n h.nx).b j=bs1.b (n+(j - h.nx))/\(uP bs bs1 n h.nx).c j=bs1.c (n+(j - h.nx)):=λj hj=>⟨if_neg om,if_neg om⟩
 have low1:∀id,id < n->bs1.b id=bs.b (aV tl id)/\bs1.c id=bs.c (aV tl id):=λid hid=>hM.low id (by rw[ou]; exact hid)
 have hov:Ov (iS (aV tl) n h.nx) bs1 (uP bs bs1 n h.nx):=by
  refine⟨λid k hk=>?_,λid k hk=>?_,λid k hk=>?_⟩
  .by_cases hid:id < n
   .rw[(low1 id hid).1] at hk
    rw[tlt id hid,(blow _ (hp.low hR hk).1).1]; exact hk
   grind
  .by_cases hid:id < n
   .rw[(low1 id hid).2] at hk
    have h1:¬h.nx<=aV tl id:=λhh=>by rw[(hR.nx _ hh).2] at hk; cases hk
    grind
   grind
  .by_cases hid:id < n
   .rw[(low1 id hid).1] at hk
    rw[tlt id hid,olow _ (hp.low hR hk).1]; exact (hM.le.o id k hk).symm
   grind
 have hget:∀{id b},id < 4096->(hOut σ (aV tl) n n' l l' h).get id=some b->(∃x∈l',id=iS (aV tl) n h.nx x.1/\b=QC σ (iS (aV tl) n h.nx) x.2/\XF l x.1=false)\/(h.get id=some b/\∀x∈l,x.2.ro=false->aV tl x.1≠id):=λ{id b} hid hb=>by
  rcases aDF (λx hx=>(hl'n x (adU.1 hx).1).2) hid hb with h1 | ⟨x,hx,h1,h2⟩
  .obtain⟨h2,h3⟩:=atJ (h:=⟨h.h,h.nx+(n' - n)⟩) (λx hx=>hlt4 x (adU.1 hx).1) hid h1
   exact .inr ⟨h2,λx hx hr=>h3 x (adU.2 ⟨hx,by rw[hr]; rfl⟩)⟩
  grind
 have hnown:∀{id b k},id < 4096->h.get id=some b->(∀x∈l,x.2.ro=false->aV tl x.1≠id)->bs.b id=some k->¬k9 (aK n l) (jb (aV tl) bs) k:=λ{id b k} hid hb hno hk how=>by
  obtain⟨x,hx,e1,hr,_,b1,g1,g2⟩:=hp.owned how
  obtain⟨_,h2,b0,h3,_⟩:=hp.get hx
  rw[h3] at g1; cases g1
  exact hno x hx hr (hR.inj _ _ b _ k hid h2 hb h3 g2 hk e1).symm
 have hl'4:∀x∈l',x.1 < 4096:=λx hx=>by grind
 have hout:∀x∈l',∃k,bs1.b x.1=some k/\@BR _ (dw σ) w' bs1 x.1 x.2 k:=λx hx=>@HR.ig _ (dw σ) w' bs1 _ hR' x.1 x.2 (hl'4 x hx) (G9 ho5 hl'4 x hx)
 have hown:∀{x k},x∈l'->bs1.b x.1=some k->x.2.ro=false->k9 (aK n' l') bs1 k:=λ{x k} hx hk hd=>⟨x.1,x.2,hl'4 x hx,G9 ho5 hl'4 x hx,hk,hd⟩
 have hownA:∀{x k},x∈l'->bs1.b x.1=some k->mA (aK n' l') bs1 k:=λ{x k} hx hk=>⟨x.1,x.2,hl'4 x hx,G9 ho5 hl'4 x hx,hk⟩
 have hx1:n+(n' - n)=n':=by omega
 have hnx:(hOut σ (aV tl) n n' l l' h).nx=h.nx+(n' - n):=by unfold hOut; rw[aDG,atK]
 have hnm:∀{id b k},id < 4096->h.get id=some b->(uP bs bs1 n h.nx).b id=some k->bs.b id=some k/\id < h.nx:=λ{id b k} hid hb hk=>by
  obtain⟨k0,h1,_⟩:=hR.ig id b hid hb
  have h2:¬h.nx<=id:=λhh=>by rw[(hR.nx id hh).1] at h1; cases h1
  grind
 have hcross:∀{x id b k},x∈l'->bs1.b x.1=some k->id < 4096->h.get id=some b->(∀y∈l,y.2.ro=false->aV tl y.1≠id)->bs.b id=some k->x.2.ro=false->False:=λ{x id b k} hx hk hid hb hno hbk hd=>
  hnown hid hb hno hbk (hM.own k (hR.fp id k hbk).2 (hown hx hk hd))
 have hcrossA:∀{x id b k},x∈l'->XF l x.1=false->bs1.b x.1=some k->id < 4096->h.get id=some b->(∀y∈l,y.2.ro=false->aV tl y.1≠id)->bs.b id=some k->b.ro=false->False:=λ{x id b k} hx hrl hk hid hb hno hbk hd=>by
  cases hxr:x.2.ro with
  | false=>grind
  | true=>
   obtain⟨y,hy,e1,_⟩:=hp.WI (hM.l7 k (hR.fp id k hbk).2 (hownA hx hk))
   obtain⟨_,h2,b0,h3,_⟩:=hp.get hy
   have hyid:=hR.inj _ _ b0 b k h2 hid h3 hb hd e1 hbk
   cases hyr:y.2.ro with
   | false=>grind
   | true=>
    rw[roB,dt] at ho6
    rcases ho6 with h6 | h6
    .grind
    .have:=dD.1 h6 x hx
     rw[hxr] at this
     obtain⟨z,hz,hzx⟩:=Uc.1 (show (l.any λy=>Nat.beq y.1 x.1)=true from this)
     have hzx:z.1=x.1:=iJ hzx
     cases hzr:z.2.ro with
     | true=>
      have:XF l x.1=true:=Uc.2 ⟨z,hz,by grind⟩
      grind
     | false=>
      obtain⟨g1,g2,b1,g3,g4⟩:=hp.get hz
      have g5:bs.b (aV tl z.1)=some k:=by
       have:=(low1 x.1 om).1
       rw[hzx,<- this]; exact hk
      have g6:b1.ro=false:=Km g4 hzr
      exact hno z hz hzr (hR.inj _ _ b b1 k hid g2 hb g3 g6 hbk g5).symm
 refine⟨⟨λid b hid hb=>?_,λid id' b b' k hid hid' hb hb' hd e e'=>?_,λid k hk=>?_,λid hid=>?_⟩,⟨hM.os,hM.tape,hM.output,hM.size,⟨λid k hk=>?_,λid k hk=>?_,λid k hk=>?_⟩,?_,λid hid=>blow id hid,λk hk hno=>?_,λk hk ho'=>?_,λk hk ho'=>?_,λid k hk hlt=>?_⟩,hov⟩
 .rcases hget hid hb with ⟨x,hx,rfl,rfl,hxl⟩ | ⟨h1,h2⟩
  .obtain⟨k,k1,ps,us,ws,t,fr,e1,e0,e2,e3,e4⟩:=hout x hx
   refine⟨k,hov.b _ _ k1,ps,us,ws,t,fr,e1,by rw[hov.o _ _ k1]; exact e0,e2,Oc hov e3,λhd=>?_⟩
   have e4:=e4 hd
   by_cases hxn:x.1 < n
   .have:=(low1 x.1 hxn)
    rw[this.1] at k1
    rw[tlt _ hxn,(blow _ (hp.low hR k1).1).2,<- this.2]; exact e4
   .rw[tge _ om,(bhi _ om).2,show n+(h.nx+(x.1 - n) - h.nx)=x.1 by omega]; exact e4
  .obtain⟨k,k1,k2⟩:=hR.ig id b hid h1
   have h3:¬h.nx<=id:=λhh=>by rw[(hR.nx id hh).1] at k1; cases k1
   have hk:=(hR.fp id k k1).2
   refine⟨k,by grind,k2.mono (hM.cL k hk (hnown hid h1 h2 k1)) ⟨λj q hq=>?_,λj q hq=>?_,λj q hq=>?_⟩ (blow id om).2 (olow id om)⟩
   .have h5:¬h.nx<=j:=λhh=>by rw[(hR.nx j hh).1] at hq; cases hq
    grind
   .have h5:¬h.nx<=j:=λhh=>by rw[(hR.nx j hh).2] at hq; cases hq
    grind
   .have h5:¬h.nx<=j:=λhh=>by rw[(hR.nx j hh).1] at hq; cases hq
    grind
 .have form:∀{x k},x∈l'->(uP bs bs1 n h.nx).b (iS (aV tl) n h.nx x.1)=some k->bs1.b x.1=some k:=λ{x k} hx hk=>by
   obtain⟨k0,k1,_⟩:=hout x hx
   have:=hov.b _ _ k1
   grind
  rcases hget hid hb with ⟨x,hx,rfl,rfl,hxl⟩ | ⟨h1,h2⟩
  .have k1:=form hx e
   rcases hget hid' hb' with ⟨y,hy,rfl,rfl,hyl⟩ | ⟨h3,h4⟩
   .have k2:=form hy e'
    rw[@HR.inj _ (dw σ) w' bs1 _ hR' x.1 y.1 x.2 y.2 k (hl'4 x hx) (hl'4 y hy) (G9 ho5 hl'4 x hx) (G9 ho5 hl'4 y hy) hd k1 k2]
   grind
  .rcases hget hid' hb' with ⟨y,hy,rfl,rfl,hyl⟩ | ⟨h3,h4⟩
   .exact (hcross hy (form hy e') hid h1 h2 (hnm hid h1 e).1 hd).elim
   .exact hR.inj id id' b b' k hid hid' h1 h3 hd (hnm hid h1 e).1 (hnm hid' h3 e').1
 .by_cases h1:id < h.nx
  .rw[(blow id h1).1] at hk
   exact⟨(hR.fp id k hk).1,lP (hR.fp id k hk).2 hM.size⟩
  .rw[(bhi id om).1] at hk
   have h2:=@HR.fp _ (dw σ) w' bs1 _ hR' _ _ hk
   have h3:¬n'<=n+(id - h.nx):=λhh=>by rw[(@HR.nx _ (dw σ) w' bs1 _ hR' (n+(id - h.nx)) (by rw[ou]; exact hh)).1] at hk; cases hk
   omega
 .rw[hnx] at hid
  have:=@HR.nx _ (dw σ) w' bs1 _ hR' (n+(id - h.nx)) (by rw[ou]; omega)
  grind
 .have h5:¬h.nx<=id:=λhh=>by rw[(hR.nx id hh).1] at hk; cases hk
  grind
 .have h5:¬h.nx<=id:=λhh=>by rw[(hR.nx id hh).2] at hk; cases hk
  grind
 .have h5:¬h.nx<=id:=λhh=>by rw[(hR.nx id hh).1] at hk; cases hk
  grind
 .rw[hnx]; omega
 .exact hM.cL k hk λhow=>by
   obtain⟨_,_,_,_,h3,_⟩:=hp.owned how
   exact hno h3
 .obtain⟨id,b,hid,hb,e,hd⟩:=ho'
  rcases hget hid hb with ⟨x,hx,rfl,rfl,hxl⟩ | ⟨h1,h2⟩
  .obtain⟨k0,k1,_⟩:=hout x hx
   have:=hov.b _ _ k1
   rw[e] at this; cases this
   obtain⟨_,_,_,_,h3,_⟩:=hp.owned (hM.own k hk (hown hx k1 hd))
   exact h3
  .exact⟨id,b,hid,h1,(hnm hid h1 e).1,hd⟩
 .obtain⟨id,b,hid,hb,e⟩:=ho'
  rcases hget hid hb with ⟨x,hx,rfl,rfl,hxl⟩ | ⟨h1,h2⟩
  .obtain⟨k0,k1,_⟩:=hout x hx
   have:=hov.b _ _ k1
   rw[e] at this; cases this
   obtain⟨_,_,_,h3⟩:=hp.WI (hM.l7 k hk (hownA hx k1))
   exact h3
  .exact⟨id,b,hid,h1,(hnm hid h1 e).1⟩
 .by_cases h1:id < h.nx
  .grind
  .rw[(bhi id om).1] at hk
   rcases hM.range _ k hk hlt with e | e
   .have:=(hp.un hR (id:=n+(id - h.nx)) om).1
    have e:bs.b (aV tl (n+(id - h.nx)))=some k:=e
    grind
   .obtain⟨_,_,_,h3⟩:=hp.WI e
    exact .inr h3
end
end Go.Z
namespace Go.Z
open Go Go.Sym Go.RowKit
open Go.Ev (T K Ex DH DF a7)
section
variable [bI]
abbrev Mt:=List (Nat×X)×List (Nat×Nat)
def O4 (k:Nat):List (Nat×X)->Bool
 | []=>false
 | (j,_)::r=>Nat.beq k j || O4 k r
def auP (k:Nat):List (Nat×Nat)->Bool
 | []=>false
 | (j,_)::r=>Nat.beq k j || auP k r
def T4:Nat:=99999
def mB:X->X->Mt->Mt
 | .v k,y,m=>bif O4 k m.1 then m else ((k,y)::m.1,m.2)
 | .f k l,y,m=>match y with
  | .f k' l'=>bif Nat.beq k k' then mB l l' m else m
  | _=>m
 | .c a b,y,m=>match y with
  | .c a' b'=>mB b b' (mB a a' m)
  | _=>m
 | .o2 f a b,y,m=>bif O4 T4 m.1 then (match y with
  | .o2 g a' b'=>bif Nat.beq f g then mB b b' (mB a a' m) else m
  | _=>m) else m
 | .o3 f a b c,y,m=>bif O4 T4 m.1 then (match y with
  | .o3 g a' b' c'=>bif Nat.beq f g then mB c c' (mB b b' (mB a a' m)) else m
  | _=>m) else m
 | _,_,m=>m
def aec:VB->List (Nat×X)->Bool
 | [],_=>true
 | (k,_)::r,l=>O4 k l && aec r l
def bdN (i j:Nat) (m:Mt):Mt:=bif auP i m.2 then m else (m.1,(i,j)::m.2)
def mtK:gj->gj->Mt->Mt
 | .k x,.k y,m=>mB x y m
 | _,_,m=>m
def mtF:List (Nat×Nat)->List (Nat×Nat)->Mt->Mt
 | (i,_)::l,(j,_)::r,m=>mtF l r (bdN i j m)
 | _,_,m=>m
def mtC:C->C->Mt->Mt
 | .int _ x,.int _ y,m=>mB x y m
 | .bx x,.bx y,m=>mB x y m
 | .bx x,.bool b,m=>mB x (.i (tf b)) m
 | .str n x,.str m y,q=>mB x y (mB n m q)
 | .ptr i _ e,.ptr j _ e',m=>mB e e' (bdN i j m)
 | .sl i _ e n c,.sl j _ e' n' c',m=>mtK c c' (mB n n' (mB e e' (bdN i j m)))
 | .fn _ l,.fn _ r,m=>mtF l r m
 | _,_,m=>m
def Po:List ai->List ai->Mt->Mt
 | .c a::l,.c b::r,m=>Po l r (mtC a b m)
 | .a _ n x::l,.a _ n' x'::r,m=>Po l r (mB x x' (mB n n' m))
 | _,_,m=>m
def mtV:V->V->Mt->Mt
 | .c a,.c b,m=>mtC a b m
 | .agg l,.agg r,m=>Po l r m
 | _,_,m=>m
def agL:List V->List V->Mt->Mt
 | a::l,b::r,m=>agL l r (mtV a b m)
 | _,_,m=>m
def HT (h:Hp):List (Nat×Bl)->Mt->Mt
 | [],m=>m
 | x::r,m=>HT h r (match h.get (aV m.2 x.1) with
  | some b=>Po x.2.ss b.ss m
  | none=>m)
def pEq (F:Fx):P1->P1->Bool
 | .c a,.c b=>Ku F a b
 | .agg a,.agg b=>qn F a b
 | _,_=>false
def If (F:Fx):List P1->List P1->Bool
 | [],[]=>true
 | a::l,b::r=>pEq F a b && If F l r
 | _,_=>false
def Q1 (F:Fx):V->V->Bool
 | .dK a,.dK b=>If F a b
 | a,b=>Ix F a b
def Ee (F:Fx):List V->List V->Bool
 | [],[]=>true
 | a::l,b::r=>Ix F a b && Ee F l r
 | _,_=>false
def aEQ (F:Fx) (h:Hp) (l:List (Nat×Bl)):Bool:=l.all λx=>match h.get x.1 with
 | some b=>As F b x.2 && (Nat.blt x.1 h.nx && Nat.blt x.1 4096)
 | none=>false
def yN (F:Fx) (n:Nat) (l:List (Nat×Bl)) (h:Hp):Bool:=Nat.beq h.nx n && aEQ F h l
structure Sp where
 fa:Fa
 xs:List V
 n:Nat
 l:List (Nat×Bl)
 v:V
 n':Nat
 l':List (Nat×Bl)
def Pw:List V->Bool
 | []=>true
 | .dK _::_=>false
 | _::r=>Pw r
def DT (F:Fx) (σ:Nat->X) (tl:List (Nat×Nat)) (n n':Nat) (h:Hp) (l l':List (Nat×Bl)):Bool:=Pm n h tl && (agW F σ (aV tl) n h l && (KV (aV tl) l && pk (aV tl) n n' h.nx l l'))
def Ld (sp:Sp) (ys:List V) (h:Hp):Mt:=
 let m:=HT h sp.l (agL sp.xs ys ([],[]))
 bif aec sp.fa.vb m.1 then m else HT h sp.l (agL sp.xs ys ((T4,.i 0)::m.1,m.2))
def av (sp:Sp) (F:Fx):pY:=λys h=>
 let m:=Ld sp ys h
 let σ:=eM m.1
 bif Pw sp.xs && (Ee F ys (sp.xs.map (s8 σ (aV m.2))) && (DT F σ m.2 sp.n sp.n' h sp.l sp.l' && OP F σ sp.fa)) then
  some (s8 σ (iS (aV m.2) sp.n h.nx) sp.v,hOut σ (aV m.2) sp.n sp.n' sp.l sp.l' h) else none
def ab (P:Program) (f:FuncId) (sp:Sp):Prop:=∀(E:Env),@ah _ E sp.fa.fx->∀bs vs w,@jS _ E bs sp.xs vs->@HR _ E w bs (aK sp.n sp.l)->n5 P f vs.toArray w (@iI _ E w bs (aK sp.n sp.l) sp.v (aK sp.n' sp.l'))
def ake (I:Info) (orc:FuncId->Option pY) (lps:FuncId->Nat->Option iv) (m:Nat) (f:FuncId) (sp:Sp):Bool:=match uv I orc lps m f sp.xs (aK sp.n sp.l) with
 | some (u,h')=>Q1 I.F u sp.v && yN I.F sp.n' sp.l' h'
 | none=>false
def N9 [Env] (P:Program) (f:FuncId) (g:pY):Prop:=∀as h v h',g as h=some (v,h')->∀bs vs w,jS bs as vs->HR w bs h->n5 P f vs.toArray w (iI w bs h v h')
variable [Env] {F:Fx} {bs bs' bs1:Nm} {w w':World} {h h':Hp} {I:Info} {P:Program} {f:FuncId}
theorem n5.imp {vs:Array Value} {R S:Value->World->Prop} (hc:n5 P f vs w R) (h:∀u w',R u w'->S u w'):n5 P f vs w S:=by
 rcases hc with ⟨u,w',h1,h2⟩ | ⟨h1,h2⟩
 .exact .inl ⟨u,w',h1,h _ _ h2⟩
 .exact .inr ⟨h1,h2.mono λe w' ⟨u,he,ha⟩=>⟨u,he,h _ _ ha⟩⟩
theorem a27 (hF:ah I.F) {a b:P1} {u:Value} (hh:pEq I.F a b=true) (hu:PR bs a u):PR bs b u:=by
 cases a with
 | c a=>cases b with
  | c b=>exact UM hF hh hu
  | agg b=>cases hh
 | agg a=>cases b with
  | c b=>cases hh
  | agg b=>obtain⟨vs,h1,h2⟩:=hu; exact⟨vs,Ij hF hh h1,h2⟩
theorem akj (hF:ah I.F):∀{a b:List P1} {us:List Value},If I.F a b=true->jz bs a us->jz bs b us
 | [],[],_,_,h=>h
 | _::_,_::_,_::_,hh,⟨h1,h2⟩=>by
  simp only[If,ar] at hh
  exact⟨a27 hF hh.1 h1,akj hF hh.2 h2⟩
 | _::_,_::_,[],_,h=>h.elim
 | [],_::_,_,hh,_=>by simp[If] at hh
 | _::_,[],_,hh,_=>by simp[If] at hh
theorem aFc (hF:ah I.F) {a b:V} {u:Value} (hh:Q1 I.F a b=true) (hu:VR bs a u):VR bs b u:=by
 unfold Q1 at hh
 split at hh
 .obtain⟨vs,h1,h2⟩:=hu; exact⟨vs,akj hF hh h1,h2⟩
 .exact Q2 hF hh hu
theorem Ys (hF:ah I.F):∀{a b:List V} {us:List Value},Ee I.F a b=true->jS bs a us->jS bs b us
 | [],[],_,_,h=>h
 | _::_,_::_,_::_,hh,⟨h1,h2⟩=>by
  simp only[Ee,ar] at hh
  exact⟨Q2 hF hh.1 h1,Ys hF hh.2 h2⟩
 | _::_,_::_,[],_,h=>h.elim
 | [],_::_,_,hh,_=>by simp[Ee] at hh
 | _::_,[],_,hh,_=>by simp[Ee] at hh
theorem Od {σ:Nat->X} {τ:Nat->Nat}:∀{l:List V} {us:List Value},Pw l=true->jS bs (l.map (s8 σ τ)) us->@jS _ (dw σ) (jb τ bs) l us
 | [],[],_,_=>trivial
 | [],_::_,_,h=>h.elim
 | .c a::r,u::us,hn,⟨h1,h2⟩=>⟨aea (v:=.c a) (λ_ e=>by cases e) h1,Od (l:=r) hn h2⟩
 | .agg a::r,u::us,hn,⟨h1,h2⟩=>⟨aea (v:=.agg a) (λ_ e=>by cases e) h1,Od (l:=r) hn h2⟩
 | .dK a::r,_,hn,_=>by cases hn
 | .c a::r,[],_,h=>h.elim
 | .agg a::r,[],_,h=>h.elim
theorem Qq {σ:Nat->X} {tl:List (Nat×Nat)} {n n':Nat} {l l':List (Nat×Bl)} (hh:DT I.F σ tl n n' h l l'=true):m8 I σ tl n h l/\pk (aV tl) n n' h.nx l l'=true:=by
 simp only[DT,ar] at hh
 exact⟨⟨hh.1,hh.2.1,hh.2.2.1⟩,hh.2.2.2⟩
theorem aSA (hF:ah I.F) {sp:Sp} (hp:ab P f sp):N9 P f (av sp I.F):=by
 intro ys h v h' he bs vs w ha hR
 unfold av at he
 dsimp only at he
 generalize Ld sp ys h=m at he
 obtain⟨hb,he⟩:=cm he
 cases he
 simp only[ar] at hb
 obtain⟨h1,h2,h3,h4⟩:=hb
 obtain⟨hplc,hout⟩:=Qq h3
 have ha':=Od (σ:=eM m.1) (τ:=aV m.2) h1 (Ys hF h2 ha)
 have:=hp (dw (eM m.1)) (ae2 hF h4) _ vs w ha' (hplc.hr hF hR)
 refine this.imp ?_
 rintro u w' ⟨bs1,hR1,hM1,hv1⟩
 obtain⟨o1,o2,o3⟩:=hplc.out hR hout hR1 hM1
 exact⟨_,o1,o2,Uw o3 hv1⟩
theorem a9S {l:List (Nat×Bl)} (hh:aEQ F h l=true):∀x∈l,∃b,h.get x.1=some b/\As F b x.2=true/\x.1 < h.nx/\x.1 < 4096:=λx hx=>by
 have:=dD.1 hh x hx
 split at this
 .rename_i b hg
  simp only[ar] at this
  exact⟨b,hg,this.1,iw this.2.1,iw this.2.2⟩
 .cases this
variable {n:Nat} {l:List (Nat×Bl)}
theorem HR.sub (hF:ah I.F) (hR:HR w bs h) (hl:yN I.F n l h=true):HR w bs (aK n l)/\(∀k,k9 (aK n l) bs k->k9 h bs k)/\(∀k,mA (aK n l) bs k->mA h bs k)/\h.nx=n:=by
 simp only[yN,ar] at hl
 have hn:=beq_eq hl.1
 have ht:=a9S hl.2
 have hlt:∀x∈l,x.1 < 4096:=λx hx=>(ht x hx).elim λ_ h=>h.2.2.2
 have hg:∀id b,id < 4096->(aK n l).get id=some b->∃b0,h.get id=some b0/\As I.F b0 b=true:=λid b hid hb=>by
  obtain⟨b0,h1,h2,_⟩:=ht _ (re hlt hid hb)
  exact⟨b0,h1,h2⟩
 refine⟨⟨λid b hid hb=>?_,λid id' b b' k hid hid' hb hb' hd e e'=>?_,hR.fp,λid hid=>?_⟩,λk ⟨id,b,hid,hb,e,hd⟩=>?_,λk ⟨id,b,hid,hb,e⟩=>?_,hn⟩
 .obtain⟨b0,h1,h2⟩:=hg id b hid hb
  obtain⟨k,h3,h4⟩:=hR.ig id b0 hid h1
  exact⟨k,h3,asO hF h2 h4⟩
 .obtain⟨b0,h1,_⟩:=hg id b hid hb
  obtain⟨b1,h2,h3⟩:=hg id' b' hid' hb'
  exact hR.inj id id' b0 b1 k hid hid' h1 h2 (Km h3 hd) e e'
 .rw[ou] at hid
  exact hR.nx id om
 .obtain⟨b0,h1,h2⟩:=hg id b hid hb
  exact⟨id,b0,hid,h1,e,Km h2 hd⟩
 .obtain⟨b0,h1,_⟩:=hg id b hid hb
  exact⟨id,b0,hid,h1,e⟩
theorem Mv.X2 {h0:Hp} {w0:World} {bs0:Nm} (hF:ah I.F) (hR:HR w bs h) (m:Mv w0 w bs0 bs h0 h) (hl:yN I.F n l h=true):Mv w0 w bs0 bs h0 (aK n l):=by
 obtain⟨_,ho,hoA,hn⟩:=hR.sub hF hl
 have hx:=ou (n:=n) l
 exact⟨m.os,m.tape,m.output,m.size,m.le,by have:=m.nx; omega,m.low,m.cL,λk hk how=>m.own k hk (ho k how),λk hk how=>m.l7 k hk (hoA k how),m.range⟩
theorem a7O (hI:dm P I) (hFn:JU P I) {orc:FuncId->Option pY} {lps:FuncId->Nat->Option iv} (hO:Uu P orc) (hL:Ui P I lps) {m:Nat} {sp:Sp} (hp:ake I orc lps m f sp=true) {vs:List Value} (ha:jS bs sp.xs vs) (hR:HR w bs (aK sp.n sp.l)):n5 P f vs.toArray w (iI w bs (aK sp.n sp.l) sp.v (aK sp.n' sp.l')):=by
 unfold ake at hp
 split at hp
 case h_2=>cases hp
 rename_i u h' hr
 rw[ar] at hp
 refine (De hI hFn hO hL m f sp.xs _ u h' hr bs vs w ha hR).imp ?_
 rintro x w' ⟨bs1,hR1,hM1,hv1⟩
 exact⟨bs1,(hR1.sub hI.F hp.2).1,hM1.X2 hI.F hR1 hp.2,aFc hI.F hp.1 hv1⟩
end
end Go.Z
namespace Go.Z
open Go Go.Sym Go.RowKit
open Go.Ev (T K Ex DH DF a7)
section
variable [bI]
abbrev gk:=List (Nat×V)
def bO:gk->Fr
 | []=>.lf none
 | (t,v)::r=>(bO r).set DF t (some v)
structure Lp where
 fa:Fa
 s:gk
 n:Nat
 l:List (Nat×Bl)
 ex:Ex
 s':gk
 n':Nat
 l':List (Nat×Bl)
 μ:X
def Wn (fr:Fr):gk->Mt->Mt
 | [],m=>m
 | x::r,m=>Wn fr r (match fr.get x.1 with
  | some v=>mtV x.2 v m
  | none=>m)
def noT:V->Bool
 | .dK _=>false
 | _=>true
def OQ (F:Fx) (fr:Fr) (s:gk) (σ:Nat->X) (τ:Nat->Nat):Bool:=s.all λx=>Nat.blt x.1 512 && (noT x.2 && (match fr.get x.1 with
 | some v=>Ix F v (s8 σ τ x.2)
 | none=>false))
def ae8 (F:Fx) (fr:Fr) (s:gk):Bool:=s.all λx=>Nat.blt x.1 512 && (match fr.get x.1 with
 | some v=>Ix F v x.2
 | none=>false)
def oy (s:gk):Bool:=s.all λx=>Nat.blt x.1 512
def u0 (σ:Nat->X) (τ:Nat->Nat) (s:gk):gk:=s.map λx=>(x.1,s8 σ τ x.2)
def A0 (lp:Lp) (fr:Fr) (h:Hp):Mt:=
 let m:=HT h lp.l (Wn fr lp.s ([],[]))
 bif aec lp.fa.vb m.1 then m else HT h lp.l (Wn fr lp.s ((T4,.i 0)::m.1,m.2))
def Hc (F:Fx) (lp:Lp) (m:Mt) (fr:Fr) (h:Hp):Bool:=OQ F fr lp.s (eM m.1) (aV m.2) && (DT F (eM m.1) m.2 lp.n lp.n' h lp.l lp.l' && (OP F (eM m.1) lp.fa && oy lp.s'))
def aW (lp:Lp) (F:Fx):iv:=λfr h=>
 let m:=A0 lp fr h
 bif Hc F lp m fr h then some (lp.ex,bO (u0 (eM m.1) (iS (aV m.2) lp.n h.nx) lp.s'),hOut (eM m.1) (aV m.2) lp.n lp.n' lp.l lp.l' h) else none
def KG:Ex->Ex->Bool
 | .norm,.norm=>true
 | .ret,.ret=>true
 | .exit i,.exit j=>Nat.beq i j
 | _,_=>false
def aEi (F:Fx) (lp:Lp) (fr:Fr) (h:Hp):Bool:=
 let m:=A0 lp fr h
 Hc F lp m fr h && ((jq F (bP (eM m.1) lp.μ) lp.μ && ay F (.i 0) (bP (eM m.1) lp.μ)) && (ae8 F (bO (u0 (eM m.1) (iS (aV m.2) lp.n h.nx) lp.s')) lp.s' && yN F lp.n' lp.l' (hOut (eM m.1) (aV m.2) lp.n lp.n' lp.l lp.l' h)))
def agA (I:Info) (call:FuncId->List V->Hp->Option (V×Hp)) (nt:Nat) (pl:Nat->List K) (lps:Nat->Option iv) (x:Code) (lp:Lp):Bool:=oy lp.s && (oy lp.s' && match code I call nt pl lps x (bO lp.s) (aK lp.n lp.l) with
 | some (.norm,s1,h1)=>aEi I.F lp s1 h1
 | some (e,s1,h1)=>KG e lp.ex && (ae8 I.F s1 lp.s' && yN I.F lp.n' lp.l' h1)
 | none=>false)
def ct (P:Program) (nt:Nat) (x:Code) (lp:Lp):Prop:=∀(E:Env),@ah _ E lp.fa.fx->∀bs a w,@SR _ E bs (bO lp.s) a nt->@HR _ E w bs (aK lp.n lp.l)->∀Q,(∀ex a1 w1,@iu _ E nt bs w (aK lp.n lp.l) lp.ex (bO lp.s') (aK lp.n' lp.l') ex a1 w1->Exit.then (fL P x Q) Q ex a1 w1)->fL P x Q a w
theorem aER {P:Program} {x:Code} {R Q:Exit->Act->World->Prop} {a:Act} {w:World} (h:fL P x R a w) (hq:∀ex a1 w1,R ex a1 w1->Exit.then (fL P x Q) Q ex a1 w1):fL P x Q a w:=h.mono λe a1 w1 he hr=>by
 have:=hq e a1 w1 hr
 cases e with
 | normal=>grind
 | _=>exact this
def qN (P:Program) (nt:Nat) (x:Code) (lp:Lp) (M:Nat):Prop:=∀(E:Env),@ah _ E lp.fa.fx->@N _ E lp.μ < M->∀bs a w,@SR _ E bs (bO lp.s) a nt->@HR _ E w bs (aK lp.n lp.l)->Code.rounds P x (@iu _ E nt bs w (aK lp.n lp.l) lp.ex (bO lp.s') (aK lp.n' lp.l')) M a w
def cr (P:Program) (nt:Nat) (x:Code) (lp:Lp) (fa:Fa):Prop:=∀M,qN P nt x lp M->∀(E:Env),@ah _ E fa.fx->@N _ E lp.μ < ((M+1:Nat):Int)->∀bs a w,@SR _ E bs (bO lp.s) a nt->@HR _ E w bs (aK lp.n lp.l)->Code.rounds P x (@iu _ E nt bs w (aK lp.n lp.l) lp.ex (bO lp.s') (aK lp.n' lp.l')) (M+1) a w
theorem cr.all {P:Program} {nt:Nat} {x:Code} {lp:Lp} (hs:cr P nt x lp lp.fa) (h0:∀(E:Env),@ah _ E lp.fa.fx->0<=@N _ E lp.μ):ct P nt x lp:=by
 have key:∀M,qN P nt x lp M:=by
  intro M
  induction M with
  | zero=>intro E hF hlt; grind
  | succ M ih=>exact λE hF hlt=>hs M ih E hF hlt
 intro E hF bs a w hS hR Q hq
 have h1:=h0 E hF
 exact aER (fL.ag7 ((@N _ E lp.μ).toNat+1) a w (key _ E hF om bs a w hS hR)) hq
theorem cr.or {P:Program} {nt:Nat} {x:Code} {lp:Lp} {fa fa1 fa2:Fa} (h1:cr P nt x lp fa1) (h2:cr P nt x lp fa2) (h:∀(E:Env),@ah _ E fa.fx->@ah _ E fa1.fx\/@ah _ E fa2.fx):cr P nt x lp fa:=by
 intro M hM E hF hlt bs a w hS hR
 rcases h E hF with hF | hF
 .exact h1 M hM E hF hlt bs a w hS hR
 .exact h2 M hM E hF hlt bs a w hS hR
theorem cr.of {P:Program} {nt:Nat} {x:Code} {lp:Lp} {fa fa1:Fa} (h1:cr P nt x lp fa1) (h:∀(E:Env),@ah _ E fa.fx->@ah _ E fa1.fx):cr P nt x lp fa:=h1.or h1 λE hF=>.inl (h E hF)
theorem ab.or {P:Program} {f:FuncId} {sp:Sp} {fa1 fa2:Fa} (h1:ab P f {sp with fa:=fa1}) (h2:ab P f {sp with fa:=fa2}) (h:∀(E:Env),@ah _ E sp.fa.fx->@ah _ E fa1.fx\/@ah _ E fa2.fx):ab P f sp:=by
 intro E hF
 rcases h E hF with hF | hF
 .exact h1 E hF
 .exact h2 E hF
theorem ab.of {P:Program} {f:FuncId} {sp:Sp} {fa1:Fa} (h1:ab P f {sp with fa:=fa1}) (h:∀(E:Env),@ah _ E sp.fa.fx->@ah _ E fa1.fx):ab P f sp:=h1.or h1 λE hF=>.inl (h E hF)
def Fa.ge (fa:Fa) (x:X):Fa:=⟨fa.vb,x::fa.fs,fa.tr,fa.eq⟩
def Fa.is (fa:Fa) (x:X) (b:Bool):Fa:=⟨fa.vb,fa.fs,(x,b)::fa.tr,fa.eq⟩
def Fa.same (fa:Fa) (x y:X):Fa:=⟨fa.vb,fa.fs,fa.tr,(x,y)::fa.eq⟩
theorem ah.ge {E:Env} {fa:Fa} {x:X} (hF:@ah _ E fa.fx) (h:0<=@N _ E x):@ah _ E (fa.ge x).fx:=
 @ah.mk _ E (fa.ge x).fx hF.vb (λl hl=>by
  rcases ep.1 hl with rfl | hl
  .rw[@pb _ E]; exact h
  .exact hF.fs l hl) hF.tr hF.eq
theorem ah.is {E:Env} {fa:Fa} {x:X} {b:Bool} (hF:@ah _ E fa.fx) (h:decide (@N _ E x≠0)=b):@ah _ E (fa.is x b).fx:=
 @ah.mk _ E (fa.is x b).fx hF.vb hF.fs (λp hp=>by
  rcases ep.1 hp with rfl | hp
  .exact h
  .exact hF.tr p hp) hF.eq
theorem ah.same {E:Env} {fa:Fa} {x y:X} (hF:@ah _ E fa.fx) (h:@D _ E x=@D _ E y):@ah _ E (fa.same x y).fx:=
 @ah.mk _ E (fa.same x y).fx hF.vb hF.fs hF.tr (λp hp=>by
  rcases ep.1 hp with rfl | hp
  .exact h
  .exact hF.eq p hp)
theorem ah.lt {E:Env} {fa:Fa} (hF:@ah _ E fa.fx) (x y:X):@ah _ E (fa.ge (.o2 1 (.o2 1 y x) (.i 1))).fx\/@ah _ E (fa.ge (.o2 1 x y)).fx:=by
 by_cases h:@N _ E x < @N _ E y
 .exact .inl (hF.ge (show (0:Int)<=(@N _ E y - @N _ E x) - 1 by omega))
 .exact .inr (hF.ge (show (0:Int)<=@N _ E x - @N _ E y by omega))
theorem ah.tf {E:Env} {fa:Fa} (hF:@ah _ E fa.fx) (x:X):@ah _ E (fa.is x true).fx\/@ah _ E (fa.is x false).fx:=by
 by_cases h:@N _ E x≠0
 .exact .inl (hF.is (decide_eq_true h))
 .exact .inr (hF.is (decide_eq_false h))
variable [Env] {F:Fx} {bs bs' bs1:Nm} {w w':World} {h h':Hp} {I:Info} {P:Program} {nt:Nat} {fr:Fr} {a:Act}
theorem ae9:∀{s:gk},oy s=true->∀{t v},t < 512->(bO s).get t=some v->(t,v)∈s
 | [],_,t,v,_,hh=>by unfold bO at hh; rw[Go.Ev.T.qd] at hh; cases hh
 | (t',v')::r,hs,t,v,ht,hh=>by
  simp only[oy,Ub,ar] at hs
  rw[bO,show DF=9 from rfl,Go.Ev.T.qe 9 _ _ _ _ (show t' < 512 from iw hs.1) ht] at hh
  by_cases e:t=t'
  .grind
  .rw[if_neg e] at hh
   exact mt (ae9 hs.2 ht hh)
theorem SR.inL {s:gk} {σ:Nat->X} {τ:Nat->Nat} (hF:ah I.F) (hS:SR bs fr a nt) (hb:OQ I.F fr s σ τ=true):@SR _ (dw σ) (jb τ bs) (bO s) a nt:=by
 have hb':=dD.1 hb
 have ht:oy s=true:=dD.2 λx hx=>by
  grind
 refine @SR.mk _ (dw σ) _ _ _ _ hS.defers hS.size hS.le (λd v hd hv=>?_)
 have hx:=ae9 ht hd hv
 have:=hb' _ hx
 simp only[ar] at this
 obtain⟨_,h2,h3⟩:=this
 split at h3
 .rename_i v0 hv0
  obtain⟨u,h4,h5⟩:=hS.get d v0 hd hv0
  exact⟨u,h4,aea (λl e=>by rw[e] at h2; cases h2) (Q2 hF h3 h5)⟩
 .cases h3
theorem SR.azD {s:gk} {σ:Nat->X} {τ:Nat->Nat} (ho:Ov τ bs bs') (ht:oy s=true) (hS:@SR _ (dw σ) bs (bO s) a nt):SR bs' (bO (u0 σ τ s)) a nt:=by
 refine⟨@SR.defers _ (dw σ) _ _ _ _ hS,@SR.size _ (dw σ) _ _ _ _ hS,@SR.le _ (dw σ) _ _ _ _ hS,λd v hd hv=>?_⟩
 have key:∀{s:gk},oy s=true->(bO (u0 σ τ s)).get d=some v->∃v0,(bO s).get d=some v0/\v=s8 σ τ v0:=by
  intro s
  induction s with
  | nil=>intro _ hh; unfold u0 bO at hh; simp only[List.map_nil] at hh; rw[Go.Ev.T.qd] at hh; cases hh
  | cons x r ih=>
   intro hs hh
   obtain⟨t',v'⟩:=x
   simp only[oy,Ub,ar] at hs
   have h5:t' < 512:=iw hs.1
   rw[show u0 σ τ ((t',v')::r)=(t',s8 σ τ v')::u0 σ τ r from rfl,bO,show DF=9 from rfl,Go.Ev.T.qe 9 _ _ _ _ (show t' < 512 from h5) hd] at hh
   rw[bO,show DF=9 from rfl,Go.Ev.T.qe 9 _ _ _ _ (show t' < 512 from h5) hd]
   by_cases e:d=t'
   .grind
   .rw[if_neg e] at hh ⊢
    exact ih hs.2 hh
 obtain⟨v0,h1,rfl⟩:=key ht hv
 obtain⟨u,h2,h3⟩:=@SR.get _ (dw σ) _ _ _ _ hS d v0 hd h1
 exact⟨u,h2,Uw ho h3⟩
theorem SR.less {s:gk} (hF:ah I.F) (hS:SR bs fr a nt) (hb:ae8 I.F fr s=true):SR bs (bO s) a nt:=by
 have hb':=dD.1 hb
 have ht:oy s=true:=dD.2 λx hx=>by
  grind
 refine⟨hS.defers,hS.size,hS.le,λd v hd hv=>?_⟩
 have:=hb' _ (ae9 ht hd hv)
 simp only[ar] at this
 obtain⟨_,h3⟩:=this
 split at h3
 .rename_i v0 hv0
  obtain⟨u,h4,h5⟩:=hS.get d v0 hd hv0
  exact⟨u,h4,Q2 hF h3 h5⟩
 .cases h3
theorem aUt {lp:Lp} {m:Mt} (hh:Hc F lp m fr h=true):OQ F fr lp.s (eM m.1) (aV m.2)=true/\DT F (eM m.1) m.2 lp.n lp.n' h lp.l lp.l'=true/\OP F (eM m.1) lp.fa=true/\oy lp.s'=true:=by
 simp only[Hc,ar] at hh
 omega
theorem La {lp:Lp} {m:Mt} (hF:ah I.F) (hh:Hc I.F lp m fr h=true) (hS:SR bs fr a nt) (hR:HR w bs h):@ah _ (dw (eM m.1)) lp.fa.fx/\@SR _ (dw (eM m.1)) (jb (aV m.2) bs) (bO lp.s) a nt/\@HR _ (dw (eM m.1)) w (jb (aV m.2) bs) (aK lp.n lp.l)/\∀ex a' w',@iu _ (dw (eM m.1)) nt (jb (aV m.2) bs) w (aK lp.n lp.l) lp.ex (bO lp.s') (aK lp.n' lp.l') ex a' w'->iu nt bs w h lp.ex (bO (u0 (eM m.1) (iS (aV m.2) lp.n h.nx) lp.s')) (hOut (eM m.1) (aV m.2) lp.n lp.n' lp.l lp.l' h) ex a' w':=by
 obtain⟨h1,h2,h3,h4⟩:=aUt hh
 obtain⟨hplc,hout⟩:=Qq h2
 refine⟨ae2 hF h3,hS.inL hF h1,hplc.hr hF hR,?_⟩
 rintro ex a' w' ⟨he,bs2,hS2,hR2,hM2⟩
 obtain⟨o1,o2,o3⟩:=hplc.out hR hout hR2 hM2
 exact⟨he,_,SR.azD o3 h4 hS2,o1,o2⟩
theorem aSx {x:Code} {lp:Lp} (hF:ah I.F) (hl:ct P nt x lp):qM P nt (aW lp I.F) x:=by
 intro s h e s' h' he bs a w hS hR Q hq
 unfold aW at he
 dsimp only at he
 obtain⟨hb,he⟩:=cm he
 cases he
 obtain⟨i1,i2,i3,i4⟩:=La hF hb hS hR
 exact hl _ i1 _ a w i2 i3 Q λex a1 w1 hg=>hq ex a1 w1 (i4 ex a1 w1 hg)
theorem OJ:∀{a b:Ex},KG a b=true->a=b
 | .norm,.norm,_=>rfl
 | .ret,.ret,_=>rfl
 | .exit i,.exit j,hh=>by rw[beq_eq (show Nat.beq i j=true from hh)]
 | .norm,.ret,hh=>by cases hh
 | .norm,.exit _,hh=>by cases hh
 | .ret,.norm,hh=>by cases hh
 | .ret,.exit _,hh=>by cases hh
 | .exit _,.norm,hh=>by cases hh
 | .exit _,.ret,hh=>by cases hh
theorem QA {x:Code} {Q R:Exit->Act->World->Prop} (hq:∀e a w,Q e a w->R e a w):∀(m:Nat) (a:Act) (w:World),Code.rounds P x Q m a w->Code.rounds P x R m a w
 | 0,_,_,hh=>hh.elim
 | m+1,a,w,hh=>by
  refine wp_mono hh ?_
  intro ex a3 w3 hx
  cases ex with
  | normal=>exact QA hq m _ _ hx
  | _=>exact hq _ _ _ hx
theorem aZP {x:Code} {lp:Lp} (hI:dm P I) {call:FuncId->List V->Hp->Option (V×Hp)} (hC:ua P call) (hm:P.follows .mixedOrders=true) {pl:Nat->List K} {lps:Nat->Option iv} (hL:∀p∈loops x,∀g,lps p.1=some g->qM P nt g p.2) (hc:ky I nt pl x=true) (hb:agA I call nt pl lps x lp=true) {M:Nat} (hM:qN P nt x lp M) (hlt:N lp.μ < ((M+1:Nat):Int)) (hS:SR bs (bO lp.s) a nt) (hR:HR w bs (aK lp.n lp.l)):Code.rounds P x (iu nt bs w (aK lp.n lp.l) lp.ex (bO lp.s') (aK lp.n' lp.l')) (M+1) a w:=by
 have hF:=hI.F
 rw[rounds_succ]
 unfold agA at hb
 simp only[ar] at hb
 obtain⟨_,_,hb⟩:=hb
 have run:=λe s1 h1 he=>na hI hC hm (lp:=lps) (pl:=pl) x hL hc (bO lp.s) (aK lp.n lp.l) e s1 h1 he bs a w hS hR
 split at hb
 .rename_i s1 h1 he
  refine wp_mono (run _ _ _ he) ?_
  rintro ex a1 w1 ⟨rfl,bs1,hS1,hR1,hM1⟩
  refine G5 ?_
  unfold aEi at hb
  simp only[ar] at hb
  obtain⟨b1,⟨b2,b3⟩,b4,b5⟩:=hb
  obtain⟨i1,i2,i3,i4⟩:=La hF b1 hS1 hR1
  have d1:=lZ hF b2
  rw[fm] at d1
  have:=hM _ i1 om _ a1 w1 i2 i3
  refine QA ?_ M a1 w1 this
  intro ex a2 w2 hg
  obtain⟨g1,bs2,g2,g3,g4⟩:=i4 ex a2 w2 hg
  exact⟨g1,bs2,g2.less hF b4,(g3.sub hF b5).1,(hM1.trans g4).X2 hF g3 b5⟩
 .rename_i e s1 h1 hne he
  simp only[ar] at hb
  obtain⟨b1,b2,b3⟩:=hb
  have b1:=OJ b1
  subst b1
  refine wp_mono (run _ _ _ he) ?_
  rintro ex a1 w1 ⟨rfl,bs1,hS1,hR1,hM1⟩
  have fin:iu nt bs w (aK lp.n lp.l) lp.ex (bO lp.s') (aK lp.n' lp.l') (OK lp.ex) a1 w1:=⟨rfl,bs1,hS1.less hF b2,(hR1.sub hF b3).1,hM1.X2 hF hR1 b3⟩
  cases hx:lp.ex with
  | norm=>grind
  | ret=>rw[hx] at fin; exact fin
  | exit i=>rw[hx] at fin; exact fin
 .cases hb
end
end Go.Z
