import Derived.Test.YtgmieahcpkcabaaGreatBq2
import Derived.Laws.MakeOwn
import Derived.Laws.AppendOwn
import Derived.Test.YtgmieahcpkcabaaGreatBq1
import Derived.Deep.AppendSrc
import Derived.LoopN
import Derived.Scope
set_option maxRecDepth 100000
set_option linter.unusedSimpArgs false
set_option linter.unusedVariables false
set_option linter.constructorNameAsVariable false
set_option linter.unusedSectionVars false
noncomputable section
namespace Go.Z
open Go Go.Sym Go.RowKit
open Go.Ev (T K Ex DH DF a7)
variable [bI] [Env]
variable {P:Program} {I:Info} {F:Fx} {bs bs':Nm} {s:Fr} {ρ:jy} {a:Act} {n:Nat} {w w':World} {h h':Hp} {v:V}
variable {dst:Option Nat} {ty:TypeId} {pos:String} {af:Array Edge} {g:Option (Nat×Bool)}
def lO (P:Program) (o:Oper) (a:Act) (w:World) (R:Value->World->Prop):Prop:=
 (∃v w',((execOp a.eval o).run P w=.ok (.value v) w'\/((execOp a.eval o).run P w=.ok .skip w'/\o.dst=none/\v=undef))/\R v w')\/
  ∃f args,(execOp a.eval o).run P w=.ok (.enter f args) w/\Calls P f args w (λe w'=>∃v,e=.returned v/\R v w')
def iI (w:World) (bs:Nm) (h:Hp) (v:V) (h':Hp) (u:Value) (w':World):Prop:=∃bs',HR w' bs' h'/\Mv w w' bs bs' h h'/\VR bs' v u
theorem iI.stay {u:Value} (hR:HR w bs h) (hv:VR bs v u):iI w bs h v h u w:=⟨bs,hR,Mv.refl _ _ _,hv⟩
theorem HR.range (hR:HR w bs h) (hF:ah F) {id k off:Nat} {b:Bl} {e m:X} {l:List ai} (hg:h.get id=some b) (hk:bs.b id=some k) (he:w5 F b.ss off e m=some l) (h0:0<=N e) (hm:0<=N m):∃xs:List Value,(xs.length:Int)=N m/\aS bs l xs/\∀j v,xs[j]?=some v->w.cell? ⟨k,bs.o id+(off+(N e).toNat)+j,none⟩=some v:=by
 obtain⟨us,h3,h1⟩:=(hR.at hg hk).at
 obtain⟨as,xs,rs,rfl,e1,e2,e3⟩:=Xv hF he h3 h0 hm
 refine⟨xs,e1,e2,λj v hv=>?_⟩
 have hj:j < xs.length:=(k8.1 hv).1
 rcases e3 with e3 | e3
 .rw[Nat.add_assoc,h1 _ (by simp only[eK]; omega),sA om,e3,show off+(N e).toNat+j - (off+(N e).toNat)=j by omega,ud hj]
  exact hv
 .rw[e3] at hj; exact absurd hj (CU _)
theorem HR.cell (hR:HR w bs h) (hF:ah F) {id k off:Nat} {b:Bl} {e:X} {c:C} (hg:h.get id=some b) (hk:bs.b id=some k) (he:cellAt F b.ss off e=some c) (h0:0<=N e):∃u,w.cell? ⟨k,bs.o id+(off+(N e).toNat),none⟩=some u/\CR bs c u:=by
 obtain⟨us,h3,h1⟩:=(hR.at hg hk).at
 obtain⟨u,hu,hc⟩:=atn hF he h3 h0
 refine⟨u,?_,hc⟩
 have hj:=(k8.1 hu).1
 rw[h1 _ hj]
 exact hu
def aPN (ks:List IntKind) (p:Nat) (x:X) (us:List Value):Prop:=∀i,i < us.length->∃k,ks[(p+i) % ks.length]?=some k/\us[i]?=some (.int k (D x (p+i)))/\gu k (D x (p+i))
theorem aEs (hF:ah F) {ks:List IntKind} {x:X}:∀{m j:Nat} {l:List ai} {us:List Value},QG F ks x m j=some l->us.length=m->aPN ks j x us->∀{r:List ai} {ws:List Value},aS bs r ws->aS bs (l++r) (us++ws)
 | 0,j,l,us,h,hu,hr,r,ws,hs=>by
  cases h
  have:us=[]:=JZ hu
  subst this; exact hs
 | m+1,j,l,us,h,hu,hr,r,ws,hs=>by
  match us,hu with
  | u::us,hu=>
  unfold QG at h
  split at h
  .rename_i k l' hk hl
   cases h
   obtain⟨k',h1,h2,h3⟩:=hr 0 (Nat.zero_lt_succ _)
   have hk:ks[j % ks.length]?=some k:=hk
   rw[Nat.add_zero,hk] at h1
   cases h1
   have h2:u=.int k (D x j):=by simpa using h2
   have e:N (gt F x (.i (j:Int)))=D x j:=OX hF (i:=.i (j:Int)) (kZ j)
   refine⟨u,us++ws,rfl,⟨by rw[e]; exact h2,by rw[e]; exact h3⟩,?_⟩
   exact aEs hF hl (by simpa using hu) (λi hi=>by
    obtain⟨k2,a1,a2,a3⟩:=hr (i+1) (Nat.succ_lt_succ hi)
    rw[show j+(i+1)=j+1+i by omega] at a1 a2 a3
    exact⟨k2,a1,by simpa using a2,a3⟩) hs
  .cases h
theorem a9q (hF:ah F):∀{l:List ai} {us:List Value},aS bs l us->aS bs (xb F l) us:=by
 intro l
 induction l with
 | nil=>intro us h; exact h
 | cons s r ih=>
  intro us h
  cases s with
  | c c=>obtain⟨v,ws,h1,h2,h3⟩:=h; exact⟨v,ws,h1,h2,ih h3⟩
  | a ks n x=>
   obtain⟨us,ws,h1,h2,h3⟩:=h
   have keep:aS bs (.a ks n x::xb F r) (us++ws):=⟨us,ws,rfl,h2,ih h3⟩
   subst h1
   unfold xb
   split
   .rename_i m hm
    cases hc:Nat.blt 1 ks.length && Nat.blt m 17 with
    | false=>exact keep
    | true=>
     show aS bs (match QG F ks x m 0 with
      | some l=>l++xb F r
      | none=>.a ks n x::xb F r) (us++ws)
     split
     .rename_i l hl
      have h4:=h2.1
      refine aEs hF hl (by rw[sQ hm] at h4; omega) (λi hi=>?_) (ih h3)
      obtain⟨k,a1,a2,a3⟩:=h2.2 i hi
      rw[Nat.zero_add] at a1 ⊢
      exact⟨k,a1,a2,a3⟩
     .exact keep
   .exact keep
theorem afE (hI:dm P I) (hR:HR w bs h) {t:TypeId} {id off k:Nat} {e:X} (hk:bs.b id=some k) (h0:0<=N e) (he:load I h t id off e=some v):∃u,(loadVar t ⟨k,bs.o id+(off+(N e).toNat),none⟩).run P w=.ok u w/\VR bs v u:=by
 unfold load at he
 split at he
 .rename_i d m b hd hm hb
  cases hg:isAgg d with
  | true=>
   rw[hg] at he
   obtain⟨l,hl,rfl⟩:=eR.1 he
   obtain⟨vs,h1,h2,h3⟩:=hR.range hI.F hb hk hl h0 (kZ m)
   have h1:vs.length=m:=by have:(vs.length:Int)=(m:Int):=h1; omega
   exact⟨.agg vs.toArray,a87 (hI.td _ _ hd) (by rw[<- VC]; exact hg) (by rw[hI.sz _ _ hm,h1]) h3,vs,a9q hI.F h2,rfl⟩
  | false=>
   rw[hg] at he
   obtain⟨c,hc,rfl⟩:=eR.1 he
   obtain⟨u,hu,hc⟩:=hR.cell hI.F hb hk hc h0
   exact⟨u,a86 (hI.td _ _ hd) (by rw[<- VC]; exact hg) hu,hc⟩
 .cases he
def CZ (P:Program) (a:Act) (w:World) (bs:Nm) (op:Op) (v:V):Prop:=
 ∀(dst:Option Nat) (ty:TypeId) (pos:String) (af:Array Edge) (g:Option (Nat×Bool)),∃u,cR P a ⟨dst,op,ty,pos,af,g⟩ w u/\VR bs v u
theorem jR.rd {op:Op} (hp:jR P a bs op v):CZ P a w bs op v:=λdst ty pos af g=>hp dst ty pos af g w
theorem CZ.OD {op:Op} (hp:CZ P a w bs op v) (hR:HR w bs h):lO P ⟨dst,op,ty,pos,af,g⟩ a w (iI w bs h v h):=by
 obtain⟨u,h1,h2⟩:=hp dst ty pos af g
 exact .inl ⟨u,w,.inl h1,iI.stay hR h2⟩
theorem aDT (hI:dm P I) (hE:ER bs ρ a) (hR:HR w bs h) {nid:Nat} {t:TypeId} {x:Operand} (he:eE I ρ h nid (.load t x)=some (v,h')):h'=h/\CZ P a w bs (.load t x) v:=by
 simp only[eE] at he
 split at he
 .rename_i id off e hx
  simp only[eR] at he
  obtain⟨v',h1,h2⟩:=he
  cases h2
  obtain⟨k,hk,h0,hu⟩:=hE _ _ hx
  obtain⟨u,h3,h4⟩:=afE hI hR hk h0 h1
  exact⟨rfl,λdst ty pos af g=>⟨u,by simp[cR,execOp,hu,Instr.loadAt,Instr.sureAddr,h3],h4⟩⟩
 .cases he
theorem aew (hI:dm P I) {e:TypeId} (h:Av I e=true):P.underlying e=some (.int .u8):=by
 unfold Av at h
 split at h
 .rename_i hd; exact hI.td e _ hd
 .cases h
theorem a81 {ks:IntKind} {n x:X} {us:List Value} (h:t9 [ks] n x us):(us.length:Int)=N n/\∀i,i < us.length->us[i]?=some (.int ks (D x i))/\gu ks (D x i):=by
 refine⟨h.1,λi hi=>?_⟩
 obtain⟨k,h1,h2,h3⟩:=h.2 i hi
 have one:[ks][(0+i) % [ks].length]?=some ks:=by show [ks][(0+i) % 1]?=_; rw[sB]; rfl
 rw[one] at h1; cases h1
 exact⟨h2,h3⟩
theorem aDU (hI:dm P I) (hE:ER bs ρ a) (hR:HR w bs h) {t d:TypeId} {x:Operand} (hd:I.td d=some .string) (he:toStr I h t (ρ x)=some v):CZ P a w bs (.convert t d x) v:=by
 intro dst ty pos af g
 unfold toStr at he
 split at he
 .rename_i hx
  split at he
  case h_2=>cases he
  rename_i e ht
  obtain⟨hb,rfl⟩:=m9 he
  have hu:a.eval x=.slice none 0 0:=hE _ _ hx
  have:=run_convert_bytes_nil (P:=P) w t e (hI.td t _ ht) (aew hI hb) 0 0 d (hI.td d _ hd)
  exact⟨SV [],by simp[cR,execOp,hu,this]; rfl,aP _,rfl,λi hi=>absurd hi (by show ¬(i:Int) < 0; omega)⟩
 .rename_i id off ex len cap hx
  split at he
  case h_2=>cases he
  rename_i e b ht hb
  obtain⟨hc,he⟩:=cm he
  obtain⟨l,hl,he⟩:=sD.1 he
  obtain⟨⟨n',y⟩,hr,rfl⟩:=eR.1 he
  obtain⟨k,o,c,hu,hn0,_,hloc,_⟩:=hE _ _ hx
  have fin:(∀i:Nat,(i:Int) < N len->0<=D y i/\D y i < 256)->(∀j:Nat,(j:Int) < N len->w.cell? ⟨k,o+j,none⟩=some (.int .u8 (D y j)))->∃u,cR P a ⟨dst,.convert t d x,ty,pos,af,g⟩ w u/\VR bs (.c (.str len y)) u:=by
   intro hrg hcell
   have key:=run_convert_bytes_back (P:=P) w t d e ⟨k,o,none⟩ c (ik len y) (hI.td t _ ht) (aew hI hc) (hI.td d _ hd) (λj hj=>by
    rw[t8]
    rw[XV] at hj
    have hb:=hrg j om
    rw[hcell j om]
    congr 2
    simp only[ik,List.getElem_map,List.getElem_range,UInt8.toNat_ofNat']
    omega)
   rw[XV] at key
   exact⟨SV (ik len y),by simp[cR,execOp,hu,key]; rfl,hn0,rfl,hrg⟩
  by_cases hz:0 < N len
  .obtain⟨hk,h0,rfl⟩:=hloc (.inl hz)
   obtain⟨xs,h1,h2,h3⟩:=hR.range hI.F hb hk hl h0 hn0
   obtain⟨h4,h5⟩:=a81 (LJ hI.F hr h2)
   refine fin (λi hi=>?_) (λj hj=>h3 j _ (h5 j om).1)
   have:=(h5 i om).2
   unfold gu at this
   simp only[kc,fX] at this
   omega
  .exact fin (λi hi=>by omega) (λj hj=>by omega)
 .cases he
def DB (k:Nat):Option (Nat×Nat)->Value
 | none=>ptr k 0
 | some (n,m)=>.slice (some ⟨k,0,none⟩) n m
def QR:Option (X×X)->Option (Nat×Nat)->Prop
 | none,none=>True
 | some (x,y),some (n,m)=>N x=n/\N y=m/\n<=m/\m<=16777216
 | _,_=>False
theorem aky {z:List ai} {cs:List Value} {k:Nat} (hz:aS bs z cs) (hk:cs.length=k+1):∀m,aS bs (Qv m z) ((List.range (m*(k+1))).map λi=>cs.getD (i % (k+1)) undef)
 | 0=>by rw[sC]; rfl
 | m+1=>by
  have h:=hz.app (aky hz hk m)
  have e:(List.range ((m+1)*(k+1))).map (λi=>cs.getD (i % (k+1)) undef)=cs++(List.range (m*(k+1))).map λi=>cs.getD (i % (k+1)) undef:=by
   apply J0
   intro i
   rw[N1]
   by_cases hi:i < k+1
   .have hi2:i < (m+1)*(k+1):=lP hi (Nat.le_mul_of_pos_left _ (Uq m))
    rw[Ge hi2,uo,ud om,dE hi,Gd,ue om]; rfl
   .rw[sA om,N1,hk]
    by_cases h2:i < (m+1)*(k+1)
    .have h3:i - (k+1) < m*(k+1):=by rw[Nat.succ_mul] at h2; omega
     rw[Ge h2,Ge h3,uo,uo,Nat.mod_eq_sub_mod om]
    .have h3:¬i - (k+1) < m*(k+1):=by rw[Nat.succ_mul] at h2; omega
     rw[CL (by rw[N2]; omega),CL (by rw[N2]; omega)]
  rw[e]; exact h
theorem akB {q:IntKind} {m:X} {n:Nat} (hm:N m=n):aS bs [.a [q] m (.i 0)] ((List.range n).map λ_=>Value.int q 0):=by
 refine⟨_,[],(qO _).symm,⟨by rw[List.length_map,N2,hm],λi hi=>⟨q,?_,?_,?_⟩⟩,rfl⟩
 .show [q][(0+i) % 1]?=_; rw[sB]; rfl
 .rw[List.length_map,N2] at hi
  rw[N1,Ge hi]; rfl
 .show gu q 0
  unfold gu
  cases q <;>simp only[kc,fX] <;>omega
theorem au7 {e:TypeId} {z:List ai} {q:IntKind} {cs:List Value} (h:KW I e=some q) (hz:I.zs e=some z) (hc:aS Nm.no z cs):cs=[.int q 0]:=by
 unfold KW at h
 rw[hz] at h
 split at h
 .rename_i k k' _ hz'
  obtain⟨hk,rfl⟩:=m9 h
  cases hz'
  obtain⟨v,ws,rfl,⟨h1,_⟩,h2⟩:=hc
  rw[show ws=[] from h2,h1,uI hk]; rfl
 .cases h
theorem aFr {cs:List Value} {k m:Nat} (hn:cs.length=k+1):((Array.range m).map λi=>cs.toArray[i % cs.toArray.size]!)=((List.range m).map λi=>cs.getD (i % (k+1)) undef).toArray:=by
 apply NS
 simp only[Array.toList_map,Array.toList_range]
 apply J1
 intro i _
 have hmod:i % (k+1) < cs.length:=by rw[hn]; exact gT _ (Uq _)
 rw[asa,hn,Gd,ue hmod]
 simp[hmod]
theorem aEg {t:TypeId} {i:TypeInfo} {zv:Value} (hi:P.info? t=some i) (hz:i.zero=some zv) (w:World):(zeroValue t).run P w=.ok zv w:=by
 simp[zeroValue,typeInfo,hi,hz]
theorem ayx (hI:dm P I) (hE:ER bs ρ a) {op:Op} {q:Option (X×X)} {b:Bl} (hm:mk I ρ op=some (q,b)) (dst:Option Nat) (ty:TypeId) (pos:String) (af:Array Edge) (g:Option (Nat×Bool)) (w:World):∃(cs:List Value) (u:Option (Nat×Nat)),(execOp a.eval ⟨dst,op,ty,pos,af,g⟩).run P w=.ok (.value (DB w.heap.size u)) (w.alloc (.cells cs.toArray b.t (0,0)))/\aS bs b.ss cs/\QR q u:=by
 have hF:=hI.F
 cases op with
 | alloc t=>
  simp only[mk] at hm
  split at hm
  case h_2=>cases hm
  rename_i m z hs hz
  cases hm
  obtain⟨i,zv,h1,h2,cs,h3,h4,h5⟩:=hI.zs t z hz
  exact⟨cs,none,by simp[execOp,Instr.alloc,aEg h1 h2,newVar,newRow,h3,DB,ptr],h5.mono (Le.bot _),trivial⟩
 | box t x=>
  simp only[mk] at hm
  split at hm
  case h_2=>cases hm
  rename_i x' hx
  obtain⟨l,hl,he⟩:=sD.1 hm
  obtain⟨_,he⟩:=m9 he
  cases he
  obtain⟨vs,h1,h2⟩:=(hE _ _ hx).cells hl
  exact⟨vs,none,by simp[execOp,Instr.box,newVar,newRow,h1,DB,ptr],h2,trivial⟩
 | buildSlice t m ps=>
  simp only[mk] at hm
  split at hm
  case h_2=>cases hm
  rename_i e hd
  split at hm
  case h_2=>cases hm
  rename_i k z hs hz
  obtain⟨h14,hm⟩:=cm hm
  have h14:=sI h14
  obtain⟨c,hc,he⟩:=eR.1 hm
  cases he
  obtain⟨i,zv,h1,h2,cs,h3,h4,h5⟩:=hI.zs e z hz
  have h4:=h4 _ hs
  have hsz:=hI.sz e _ hs
  have hp:=Gt.of hE ps.toList
  have hl:(ps.map λ(p:Nat×Operand)=>(p.1,a.eval p.2)).toList=ps.toList.map λ(p:Nat×Operand)=>(p.1,a.eval p.2):=by simp
  have hrow:aS bs (match KW I e with | some q=>[.a [q] (.i m) (.i 0)] | none=>Qv m z) ((List.range (m*(k+1))).map λi=>cs.getD (i % (k+1)) undef):=by
   split
   .rename_i q hq
    have hcs:=au7 hq hz h5
    subst hcs
    have hk0:k=0:=by have:1=k+1:=h4; omega
    subst hk0
    have:=akB (bs:=bs) (q:=q) (m:=.i (m:Int)) (n:=m) rfl
    rw[show (List.range (m*(0+1))).map (λi=>[Value.int q 0].getD (i % (0+1)) undef)=(List.range m).map λ_=>Value.int q 0 from by
     rw[Nat.zero_add,um]
     apply J1
     intro i _
     rw[sB]; rfl]
    exact this
   .exact aky (h5.mono (Le.bot bs)) h4 m
  obtain⟨cs',h6,h7,h8⟩:=Vl hF (d:=.slice e) (pl:=λi=>some (i*(k+1),k+1)) (λi q hq=>by
    simp only[place,hs,uo,cu] at hq
    rw[hq]) _ _ _ c _ hp hrow hc
  have hm16:m<=16384:=An (ase m (Uq k)) h14
  refine⟨cs',some (m,m),?_,aTj hF h8,rfl,rfl,fv _,by omega⟩
  have hle:¬(m*(k+1)>16777216):=by omega
  have key:(Instr.buildSlice t m (ps.map λ(p:Nat×Operand)=>(p.1,a.eval p.2))).run P w=.ok (.slice (some ⟨w.heap.size,0,none⟩) m m) (w.alloc (.cells cs'.toArray e (0,0))):=by
   rw[<- hl] at h6
   generalize hps:(ps.map λ(p:Nat×Operand)=>(p.1,a.eval p.2))=parts at h6
   rw[<- aFr h4] at h6
   by_cases h0:m*(k+1)=0
   .have h6':Instr.fill (λi=>some (i*(k+1),k+1)) #[] parts.toList=some cs'.toArray:=by
     rw[h0,show Array.range 0=#[] from rfl,Array.map_empty] at h6; exact h6
    simp[Instr.buildSlice,run_underlying (hI.td _ _ hd),Go.Sym.run_sizeOf hsz,h0,show Array.range 0=#[] from rfl,h6',newRow]
   .generalize cs.toArray=Z at h3 h6
    generalize hB:((Array.range (m*(k+1))).map λi=>Z[i % Z.size]!)=base at h6
    simp only[Instr.buildSlice,Oa,run_underlying (hI.td _ _ hd),Go.Sym.run_sizeOf hsz,Gv]
    rw[if_neg hle]
    simp only[h0,if_false,Oa,Sem.run_pure,aEg h1 h2,Gv,h3,hB,h6]
    simp[newRow]
  simp[execOp,key,DB]
 | makeSlice t l c=>
  simp only[mk] at hm
  split at hm
  case h_2=>cases hm
  rename_i e xn xm hd hl hc
  split at hm
  case h_2=>cases hm
  rename_i k z hs hz
  obtain⟨hb,he⟩:=cm hm
  simp only[ar] at hb
  have hn0:0<=N xn:=aT hF hb.1
  have hnm:=aT hF hb.2.1
  have hm20:N xm<=1048576:=aT hF hb.2.2
  obtain⟨n,hn⟩:=qi hn0
  obtain⟨m,hm'⟩:=qi (show 0<=N xm by omega)
  obtain⟨i,zv,h1,h2,cs,h3,h4,h5⟩:=hI.zs e z hz
  have h4:=h4 _ hs
  have hsz:i.size=k+1:=by have:=hI.sz e _ hs; rw[h1] at this; simpa using this
  have hby:=hI.by_ e _ i hs h1
  obtain⟨k1,hl'⟩:=HX hE hl
  obtain⟨k2,hc'⟩:=HX hE hc
  rw[hn] at hl'
  rw[hm'] at hc'
  have hbm:i.bytes*m<=1048576*1048576:=J7 hby om
  have go:m*(k+1)<=16777216->∀ss,b=⟨e,ss,false,0⟩->q=some (xn,xm)->aS bs ss ((List.range (m*(k+1))).map λi=>cs.getD (i % (k+1)) undef)->∃(cs:List Value) (u:Option (Nat×Nat)),(execOp a.eval ⟨dst,.makeSlice t l c,ty,pos,af,g⟩).run P w=.ok (.value (DB w.heap.size u)) (w.alloc (.cells cs.toArray b.t (0,0)))/\aS bs b.ss cs/\QR q u:=by
   intro hmk ss hb' hq hss
   subst hb' hq
   have key:=run_makeSlice (P:=P) w t e i zv (hI.td _ _ hd) h1 h2 k1 k2 (n:Int) (m:Int) om om (by rw[fg,hsz]; omega) (by
    have:((i.bytes*m:Nat):Int)<=((1048576*1048576:Nat):Int):=Gb.2 hbm
    rw[gm] at this
    omega) om
   rw[fg,fg,hsz,h3,show madeCells cs.toArray (m*(k+1))=((List.range (m*(k+1))).map λi=>cs.getD (i % (k+1)) undef).toArray from aFr h4] at key
   exact⟨_,some (n,m),by simp[execOp,hl',hc',key,DB],hss,hn,hm',by omega,by omega⟩
  split at he
  .rename_i q' hq
   cases he
   have hcs:=au7 hq hz h5
   subst hcs
   have hk0:k=0:=by have:1=k+1:=h4; omega
   subst hk0
   refine go om _ rfl rfl ?_
   have:=akB (bs:=bs) (q:=q') (m:=xm) (n:=m) hm'
   rw[show (List.range (m*(0+1))).map (λi=>[Value.int q' 0].getD (i % (0+1)) undef)=(List.range m).map λ_=>Value.int q' 0 from by
    rw[Nat.zero_add,um]
    apply J1
    intro i _
    rw[sB]; rfl]
   exact this
  .split at he
   case h_2=>cases he
   rename_i m' hlm
   obtain⟨h14,he⟩:=m9 he
   cases he
   have:=sQ hlm
   have hmm:m'=m:=by omega
   subst hmm
   exact go (by have:=sI h14; omega) _ rfl rfl (aky (h5.mono (Le.bot bs)) h4 m')
 | _=>simp[mk] at hm
end Go.Z
namespace Go.Z
open Go Go.Sym Go.RowKit
open Go.Ev (T K Ex DH DF a7)
variable [bI] [Env]
variable {P:Program} {I:Info} {F:Fx} {bs bs':Nm} {s:Fr} {ρ:jy} {a:Act} {n:Nat} {w w':World} {h h':Hp} {v:V}
variable {dst:Option Nat} {ty:TypeId} {pos:String} {af:Array Edge} {g:Option (Nat×Bool)}
theorem aee (w:World) (cs:List Value) (t:TypeId):(w.alloc (.cells cs.toArray t (0,0))).heap[w.heap.size]?=some (.cells cs.toArray t (0,0))/\w.heap.size < (w.alloc (.cells cs.toArray t (0,0))).heap.size:=by
 have h:=((Mem.refl w).alloc t cs).qf ⟨w.heap.size,t,cs⟩ (uh.2 rfl)
 exact⟨h,as4 h⟩
theorem aed (w:World) (cs:List Value) (t:TypeId):Ext w (w.alloc (.cells cs.toArray t (0,0))):=Ext.azh ((Mem.refl w).alloc t cs) (fv _)
theorem ayw {w':World} {k:Nat} {id:Nat} {q:Option Nat} {b:Bl} {cs:List Value} (hh:w'.heap[k]?=some (.cells cs.toArray b.t (0,0))) (hc:Al q b.ks cs.length cs.length) (ht:aS bs b.ss cs) (hle:Le bs (iO bs id k q)):BR w' (iO bs id k q) id b k:=
 BR.of (us:=cs) (ws:=[]) (by rw[qO]; exact hh) HW (λ_=>rfl) (ht.mono hle) (by rw[PA,qO]; exact hc)
theorem ayv {id k:Nat} {q:Option (X×X)} {u:Option (Nat×Nat)} {c:Option Nat} (hq:QR q u):VR (iO bs id k c) (yR id q) (DB k u):=by
 cases q with
 | none=>cases u with
  | none=>exact⟨k,ov,aP _,by rw[HW]; rfl⟩
  | some p=>exact hq.elim
 | some p=>cases u with
  | none=>exact hq.elim
  | some r=>
   obtain⟨x,y⟩:=p
   obtain⟨n,m⟩:=r
   obtain⟨h1,h2,h3,h4⟩:=hq
   have e:(N x).toNat=n:=by omega
   exact⟨k,0,m,by rw[e]; rfl,by omega,by omega,λ_=>⟨ov,aP _,by rw[HW]; rfl⟩,h2.symm,by omega⟩
theorem Hp.Wr {id:Nat} {b:Bl} (hn:h.new id b=some h'):id < 4096/\h'=h.put id (some b):=by
 unfold Hp.new at hn
 obtain⟨h1,h2⟩:=m9 hn
 exact⟨iw h1,h2.symm⟩
theorem UZ (hI:dm P I) (hE:ER bs ρ a) (hR:HR w bs h) {op:Op} (he:((mk I ρ op).bind λ(q,b)=>((⟨h.h,h.nx+1⟩:Hp).new h.nx b).map (yR h.nx q,·))=some (v,h')):lO P ⟨dst,op,ty,pos,af,g⟩ a w (iI w bs h v h'):=by
 obtain⟨⟨q,b⟩,h1,h2⟩:=sD.1 he
 obtain⟨h3,h4,h5⟩:=eR.1 h2
 cases h5
 obtain⟨hid,rfl⟩:=Hp.Wr h4
 obtain⟨cs,u,h6,h7,h8⟩:=ayx hI hE h1 dst ty pos af g w
 obtain⟨hg,hlt⟩:=aee w cs b.t
 obtain⟨hn,hc⟩:=hR.nx h.nx (fv _)
 have hbr:=ayw (bs:=bs) (id:=h.nx) (q:=none) hg rfl h7 (DE hn hc)
 obtain⟨hR',hM⟩:=hR.made hid (aed w cs b.t) (fv _) hlt hbr
 exact .inl ⟨_,_,.inl h6,_,hR',hM,ayv h8⟩
theorem a89 {t bt:TypeId} {k off:Nat} {cs vs:List Value} {u:Value} (hs:(P.info? t).map (·.size)=some vs.length) (hu:u.cells=vs.toArray) (h1:∀v∈vs,v.oneCell'=true) (hk:w.heap[k]?=some (.cells cs.toArray bt (0,0))) (hle:off+vs.length<=cs.length):∃w',(storeVar t ⟨k,off,none⟩ u).run P w=.ok () w'/\Mem w w' [⟨k,bt,jG cs off vs⟩]:=by
 obtain⟨w',h2,h3⟩:=QJ (P:=P) vs cs off 0 w (Mem.start hk) (j:=0) rfl h1 om
 refine⟨w',?_,by simpa [setAt] using h3⟩
 simp[storeVar,Go.Sym.run_sizeOf hs,hu,h2]
theorem HR.store (hR:HR w bs h) (hF:ah F) {id k off:Nat} {e m:X} {b:Bl} {l ss':List ai} {vs:List Value} (hg:h.get id=some b) (hk:bs.b id=some k) (hro:b.ro=false) (hst:storeAt F b.ss off e l m=some ss') (hl:aS bs l vs) (hm:(vs.length:Int)=N m) (h0:0<=N e):bs.o id=0/\∃cs:List Value,w.heap[k]?=some (.cells cs.toArray b.t (0,0))/\off+(N e).toNat+vs.length<=cs.length/\∀w',Mem w w' [⟨k,b.t,jG cs (off+(N e).toNat) vs⟩]->HR w' bs (h.put id (some ⟨b.t,ss',false,b.ks⟩))/\Mv w w' bs bs h (h.put id (some ⟨b.t,ss',false,b.ks⟩)):=by
 obtain⟨us,ws,h1,h2,h3,h4⟩:=(hR.at hg hk).live hro
 obtain⟨as,cL,rs,rfl,e1,e2,e3⟩:=aED hF hst h3 hl hm h0
 refine⟨h2,as++(cL++rs)++ws,h1,by simp only[eK]; omega,λw' hM=>?_⟩
 have hs:jG (as++(cL++rs)++ws) (off+(N e).toNat) vs=as++(vs++rs)++ws:=by
  rw[<- e2,List.append_assoc,List.append_assoc,akM e1,List.append_assoc,List.append_assoc]
 rw[hs] at hM
 refine hR.write hg hk hro (Gw.azg hM) (BR.of (us:=as++(vs++rs)) (ws:=ws) (hM.qf _ (uh.2 rfl)) h2 (λ_=>rfl) e3 ?_)
 have hlen:(as++(vs++rs)).length=(as++(cL++rs)).length:=by simp only[eK]; omega
 have e9:Al (bs.c id) b.ks (as++(vs++rs)).length (as++(vs++rs)++ws).length:=by
  rw[show (as++(vs++rs)++ws).length=(as++(cL++rs)++ws).length from by simp only[eK]; omega,hlen]; exact h4
 exact e9
theorem aRy (hI:dm P I) (hE:ER bs ρ a) (hR:HR w bs h) {t:TypeId} {x y:Operand} {nid:Nat} (he:eE I ρ h nid (.store t x y)=some (v,h')):lO P ⟨none,.store t x y,ty,pos,af,g⟩ a w (iI w bs h v h'):=by
 simp only[eE] at he
 split at he
 case h_2=>cases he
 rename_i id off e y' hx hy
 obtain⟨h2,h3,h4⟩:=eR.1 he
 cases h4
 unfold store at h3
 split at h3
 case h_2=>cases h3
 rename_i b l m hg hl hs
 obtain⟨hb,h3⟩:=cm h3
 simp only[ar,Ai] at hb
 obtain⟨ss',hst,rfl⟩:=eR.1 h3
 have hm:N (q9 l)=(m:Int):=gq hI.F hb.1
 obtain⟨k,hk,h0,hu⟩:=hE _ _ hx
 obtain⟨vs,hv1,hv2⟩:=(hE _ _ hy).cells hl
 have hvl:(vs.length:Int)=(m:Int):=by rw[hv2.len,hm]
 obtain⟨c0,cs,c1,c2,c3⟩:=hR.store hI.F hg hk hb.2 hst hv2 hvl h0
 rw[c0,Nat.zero_add] at hu
 obtain⟨w',r1,r2⟩:=a89 (P:=P) (t:=t) (off:=off+(N e).toNat) (by rw[hI.sz t m hs]; congr 1; omega) hv1 hv2.one c1 c2
 obtain⟨hR',hM'⟩:=c3 w' r2
 exact .inl ⟨undef,w',.inr ⟨by simp[execOp,hu,Instr.storeAt,Instr.sureAddr,r1],rfl,rfl⟩,bs,hR',hM',[],trivial,rfl⟩
theorem aSr {k o:Nat} {cs:List Value} {t:TypeId} {fr:Nat×Nat} (hk:w.heap[k]?=some (.cells cs.toArray t fr)):Gw w (w.freeze ⟨k,o,none⟩ 1) k/\∃fr',(w.freeze ⟨k,o,none⟩ 1).heap[k]?=some (.cells cs.toArray t fr'):=by
 unfold World.freeze
 rw[if_neg dc]
 refine⟨⟨rfl,rfl,rfl,by simp,λj _ hne=>?_⟩,?_⟩
 .show (w.heap.modify k _)[j]?=w.heap[j]?
  rw[ayC,if_neg (λe=>hne e.symm)]
 .obtain⟨lo,hi⟩:=fr
  refine⟨if lo==hi then (o,o+1) else (min lo o,max hi (o+1)),?_⟩
  show (w.heap.modify k _)[k]?=_
  rw[ayC,if_pos rfl,hk]
  rfl
theorem atg {c:gj} (h:UN c=true):c.told:=by cases c <;>first | trivial | cases h
theorem aRx (hI:dm P I) (hE:ER bs ρ a) (hR:HR w bs h) {t d e e':TypeId} {x:Operand} {id off:Nat} {ex len:X} {cap:gj} {b:Bl} (hx:ρ x=some (.c (.sl id off ex len cap))) (hd:I.td d=some (.slice e)) (ht:I.td t=some (.slice e')) (htd:t=d) (he:Av I e=true) (hc:(UN cap || ay I.F (.i 1) len)=true) (hro:b.ro=false) (hg:h.get id=some b):lO P ⟨dst,.convert t d x,ty,pos,af,g⟩ a w (iI w bs h (.c (.sl id off ex len cap)) (h.put id (some ⟨b.t,b.ss,true,b.ks⟩))):=by
 have hu:=hE _ _ hx
 obtain⟨k,o,c,hu',h1,h2,hloc,h5⟩:=hu
 have htold:0 < N len\/cap.told:=by
  rw[dt] at hc
  rcases hc with hc | hc
  .exact .inr (atg hc)
  .have:1<=N len:=aT hI.F hc
   exact .inl om
 obtain⟨hk,h0,ho⟩:=hloc htold
 obtain⟨us,ws,c1,c2,c3,c4⟩:=(hR.at hg hk).live hro
 have hsh:w.shape? k=some (b.t,(us++ws).length):=by unfold World.shape?; rw[c1]; simp
 obtain⟨hU,fr',hf⟩:=aSr (o:=(us++ws).length) c1
 obtain⟨hR',hM'⟩:=hR.write (b':=⟨b.t,b.ss,true,b.ks⟩) hg hk hro hU (BR.of (us:=us) (ws:=ws) hf c2 (λe=>(nomatch e)) c3 c4)
 refine .inl ⟨.slice (some ⟨k,o,none⟩) (N len).toNat c,_,.inl ?_,bs,hR',hM',k,o,c,rfl,h1,h2,hloc,h5⟩
 subst htd
 have ee:e=e':=by rw[hd] at ht; cases ht; rfl
 subst ee
 simp only[eK] at hsh
 simp[execOp,hu',convert,run_underlying (hI.td _ _ hd),run_underlying (aew hI he),markStringish,hsh]
end Go.Z
namespace Go.Sym
open Go Go.RowKit
section
variable {P:Program} {Q:Exit->Act->World->Prop} {a:Act} {w w0 w1:World} {n:Nat} {E:Nat->Option Value} {L Lx:List dC} {ops:Array Oper} {rest:List Oper}
variable {dst:Option Nat} {ty:TypeId} {pos:String} {af:Array Edge} {g:Option (Nat×Bool)}
def zs (z:Value) (m:Nat):List Value:=(Builtin.zeroCells z.cells m).toList
set_option linter.unusedSimpArgs false in
theorem a1X {t tx e : TypeId} {z v : Value} {bytes m : Nat} {xs : List Value} (he : adK P t e z bytes) (htx : P.underlying tx = some (.int .i64)) (hz1 : ∀ u ∈ zs z m, u.oneCell' = true) (hM : Mem w0 w (L ++ Lx)) (ho : CX w0.heap.size e v xs Lx) (hn : xs.length + m ≤ 1099511627776) : ∃ v' w' Lx', (Builtin.append_ #[t, tx] ty #[v, N m]).run P w = .ok v' w' ∧ CX w0.heap.size e v' (xs ++ zs z m) Lx' ∧ Mem w0 w' (L ++ Lx') := by
  obtain ⟨i, hi⟩ : ∃ i, P.info? e = some i := by
    cases h : P.info? e with
    | none => have := he.hi; rw [h] at this; cases this
    | some i => exact ⟨i, rfl⟩
  have hh := he.hi
  rw [hi] at hh
  simp only [uo, cu, Prod.mk.injEq] at hh
  obtain ⟨hz, h1, hby⟩ := hh
  have hb8 := he.hb
  have hzc : ∀ k, (Builtin.zeroCells z.cells k).size = k := fun k => by rw [size_zeroCells, he.hz, um]
  have hml : (zs z m).length = m := Eq.trans T1 (hzc _)
  have hbm : m * i.bytes ≤ m * 8 := Uo _ om
  have wr : IntKind.i64.wrap (m : Int) = (m : Int) := Q6 _ om
  have Bk : IntKind.i64.wrap 0 = 0 := Q6 0 om
  have ng : ¬ ((m : Int) < 0) := by omega
  have big : ¬ ((281474976710656 : Int) < (m : Int) * (i.bytes : Int)) := by
    have : ((m * i.bytes : Nat) : Int) ≤ ((m * 8 : Nat) : Int) := Gb.2 hbm
    rw [gm] at this
    omega
  have fits : ∀ cL, cL < xs.length + m → Builtin.nextslicecap (xs.length + m) cL * i.bytes ≤ 281474976710656 := fun cL hlt => growslice_fits hlt (by
    have : (xs.length + m) * i.bytes ≤ (xs.length + m) * 8 := Uo _ om
    omega)
  have grow : ∀ (base : Option Addr) (cap : Nat), v = .slice base xs.length cap → cap < xs.length + m → (Builtin.firstCells 1 xs.length (.slice base xs.length cap)).run P w.drew = .ok xs.toArray w.drew →
      ∃ v' w' Lx', (Builtin.append_ #[t, tx] ty #[v, N m]).run P w = .ok v' w' ∧ CX w0.heap.size e v' (xs ++ zs z m) Lx' ∧ Mem w0 w' (L ++ Lx') := by
    intro base cap hv hlt hold
    subst hv
    have h48 := fits cap hlt
    have hn' : ¬ (xs.length + m ≤ cap) := by omega
    have h63' : ¬ (9223372036854775807 < ((xs.length : Int) + (m : Int))) := by omega
    have h48' : ¬ (281474976710656 < Builtin.nextslicecap (xs.length + m) cap * i.bytes) := by omega
    have e0 : m = 0 → (Builtin.zeroCells z.cells m) = #[] := fun h => by
      have := hzc m
      rw [h] at this ⊢
      exact Array.eq_empty_of_size_eq_zero this
    have hr : (Builtin.append_ #[t, tx] ty #[.slice base xs.length cap, N m]).run P w =
        .ok (.slice (some ⟨w.heap.size, 0, none⟩) (xs.length + m) (grownCap w (xs.length + m) cap e))
          (w.drew.alloc (.cells ((xs ++ zs z m).toArray ++ Builtin.zeroCells z.cells (grownCap w (xs.length + m) cap e - (xs.length + m))) e)) := by
      by_cases hm0 : m = 0
      · have := e0 hm0
        subst hm0
        have hn2 : ¬ xs.length ≤ cap := by omega
        have h632 : ¬ (9223372036854775807 < (xs.length : Int)) := by omega
        have h482 : ¬ (281474976710656 < Builtin.nextslicecap xs.length cap * i.bytes) := by simpa using h48'
        simp [hn2, h632, h482, Builtin.append_, N, asInt, asIntOf, Bk, wr, ng, big, run_underlying he.ht, run_underlying htx, sizeOf, typeInfo, zeroValue, hi, hz, h1, hn', h63', h48', Question.forced, hold, newRow, grownCap, zs, this]
      · simp [Builtin.append_, N, asInt, asIntOf, Bk, wr, ng, big, run_underlying he.ht, run_underlying htx, sizeOf, typeInfo, zeroValue, hi, hz, h1, hn', h63', h48', Question.forced, hold, newRow, grownCap, zs, hm0]
        congr 2
        apply NS
        simp [List.append_assoc]
    have hge := grownCap_ge w (xs.length + m) cap e
    have hL : Mem w0 w.drew L := (hM.dropRight ho.ge).drew
    have hA := hL.aPX e ((xs ++ zs z m) ++ (Builtin.zeroCells z.cells (grownCap w (xs.length + m) cap e - (xs.length + m))).toList)
    refine ⟨_, _, _, hr, .inr ⟨w.heap.size, grownCap w (xs.length + m) cap e, (Builtin.zeroCells z.cells (grownCap w (xs.length + m) cap e - (xs.length + m))).toList, ?_, hM.size, ?_, rfl⟩, ?_⟩
    · rw [eK, hml]
    · have h4 : (Builtin.zeroCells z.cells (grownCap w (xs.length + m) cap e - (xs.length + m))).toList.length = grownCap w (xs.length + m) cap e - (xs.length + m) := Eq.trans T1 (hzc _)
      rw [eK, hml, h4]; omega
    · have e1 : ((xs ++ zs z m).toArray ++ Builtin.zeroCells z.cells (grownCap w (xs.length + m) cap e - (xs.length + m))) = ((xs ++ zs z m) ++ (Builtin.zeroCells z.cells (grownCap w (xs.length + m) cap e - (xs.length + m))).toList).toArray := by
        apply NS
        simp
      rw [e1]
      exact hA
  rcases ho with ⟨rfl, rfl, rfl⟩ | ⟨b, cap, sp, rfl, hb, hc, rfl⟩
  · by_cases hm : m = 0
    · subst hm
      have hnews : zs z 0 = [] := JZ hml
      rw [hnews]
      refine ⟨.slice none 0 0, w, [], ?_, .inl ⟨rfl, rfl, rfl⟩, hM⟩
      simp [Builtin.append_, N, asInt, asIntOf, Bk, Q6 0 om, run_underlying he.ht, run_underlying htx, sizeOf, typeInfo, hi, h1]
    · exact grow none 0 rfl (by simp; omega) (run_firstCells_none w.drew 1 0 0 0)
  · by_cases hroom : xs.length + m ≤ cap
    · have hj : (L ++ [⟨b, e, xs ++ sp⟩])[L.length]? = some ⟨b, e, xs ++ sp⟩ := by simp
      obtain ⟨w', hst, hM'⟩ := QJ (P := P) (zs z m) (xs ++ sp) xs.length 0 w hM hj hz1 (by rw [eK, hml]; omega)
      have hsp : jG (xs ++ sp) (xs.length + 0) (zs z m) = xs ++ zs z m ++ sp.drop m := by
        have h2 : xs ++ sp = xs ++ sp.take m ++ sp.drop m := by rw [List.append_assoc, Am]
        rw [h2, Nat.add_zero]
        exact a9r (zs z m) xs (sp.take m) (sp.drop m) (by rw [qP, hml]; omega)
      rw [hsp, a9f] at hM'
      refine ⟨.slice (some ⟨b, 0, none⟩) (xs.length + m) cap, w', _, ?_, .inr ⟨b, cap, sp.drop m, by rw [eK, hml], hb, by rw [eK, hml, Gf]; omega, rfl⟩, hM'⟩
      by_cases hm0 : m = 0
      · have e0 : zs z m = [] := JZ (by rw [hml, hm0])
        rw [e0] at hst
        subst hm0
        have hr2 : xs.length ≤ cap := by omega
        simp [hr2, Builtin.append_, N, asInt, asIntOf, Bk, wr, ng, big, run_underlying he.ht, run_underlying htx, sizeOf, typeInfo, zeroValue, hi, hz, h1, hroom, t8, hst]
      · have hst' : (storeCells ⟨b, xs.length, none⟩ (Builtin.zeroCells z.cells m).toList 0).run P w = .ok () w' := hst
        simp [Builtin.append_, N, asInt, asIntOf, Bk, wr, ng, big, run_underlying he.ht, run_underlying htx, sizeOf, typeInfo, zeroValue, hi, hz, h1, hroom, t8, hst', hm0]
    · have hj : (L ++ [⟨b, e, xs ++ sp⟩])[L.length]? = some ⟨b, e, xs ++ sp⟩ := by simp
      refine grow _ cap rfl om (run_firstCells_some w.drew 1 xs.length _ _ _ xs (by rw [um]) (fun j u hu => ?_))
      have hjl : j < xs.length := (k8.1 hu).1
      rw [t8, Nat.zero_add, hM.drew.cell hj, ud hjl]
      exact hu
end
end Go.Sym
namespace Go.Z
open Go Go.Sym Go.RowKit
open Go.Ev (T K Ex DH DF a7)
variable [bI] [Env]
variable {P:Program} {I:Info} {F:Fx} {bs bs':Nm} {s:Fr} {ρ:jy} {a:Act} {n:Nat} {w w':World} {h h':Hp} {v:V}
variable {dst:Option Nat} {ty:TypeId} {pos:String} {af:Array Edge} {g:Option (Nat×Bool)}
structure Sl (P:Program) (w:World) (bs:Nm) (k m:Nat) (l:List ai) (u:Value):Prop where
 ex:∃ad c,u=.slice ad m c/\m<=c/\(ad=none->c=0)
 cells:∃vs:List Value,aS bs l vs/\vs.length=m*k/\∀n,n<=m->(Builtin.firstCells k n u).run P w=.ok (vs.take (n*k)).toArray w/\(Builtin.firstCells k n u).run P w.drew=.ok (vs.take (n*k)).toArray w.drew
theorem afB {x:V} {xm:X} {u:Value} (hv:VR bs x u) (hm:Du x=some xm):0<=N xm/\N xm<=9223372036854775807:=by
 unfold Du at hm
 split at hm
 .cases hm; exact⟨aP _,(show (0:Int)<=9223372036854775807 by decide)⟩
 .cases hm
  obtain⟨q,o,c,_,h1,h2,_,_,h3⟩:=hv
  exact⟨h1,by omega⟩
 .cases hm
theorem akI (hR:HR w bs h) (hF:ah F) {k m:Nat} {l:List ai} {x:V} {xm:X} {u:Value} (hv:VR bs x u) (hm:Du x=some xm) (hm':N xm=m) (hc:contents F h k x=some l):Sl P w bs k m l u:=by
 unfold contents at hc
 split at hc
 .cases hc
  cases hm
  have h0:m=0:=by have:(0:Int)=(m:Int):=hm'; omega
  subst h0
  have hu:u=.slice none 0 0:=hv
  subst hu
  refine⟨⟨none,0,rfl,fv _,λ_=>rfl⟩,[],rfl,by simp,λn hn=>?_⟩
  have:n=0:=by omega
  subst this
  exact⟨by simp[Builtin.firstCells],by simp[Builtin.firstCells]⟩
 .rename_i id off e len cap
  have hm2:len=xm:=Option.some.inj hm
  subst hm2
  obtain⟨q,o,c,rfl,h0,h1,hloc,_,_⟩:=hv
  have hlt:(N len).toNat=m:=by omega
  rw[hlt] at h1 ⊢
  have empty:m=0->aS bs l []->Sl P w bs k m l (.slice (some ⟨q,o,none⟩) m c):=by
   intro hm0 hl
   subst hm0
   refine⟨⟨some ⟨q,o,none⟩,c,rfl,Aq _,λe=>nomatch e⟩,[],hl,by simp,λn hn=>?_⟩
   have:n=0:=by omega
   subst this
   rw[List.take_nil]
   exact⟨run_firstCells_some w k 0 _ 0 c [] (by simp) (λj v hv=>by simp at hv),run_firstCells_some w.drew k 0 _ 0 c [] (by simp) (λj v hv=>by simp at hv)⟩
  rcases fF hc with ⟨hz,hc⟩ | ⟨_,hc⟩
  .cases hc
   have:N len=0:=gq hF hz
   exact empty om rfl
  obtain⟨hb,hc⟩:=cm hc
  rw[ar] at hb
  have hid:=iw hb.1
  have he0:0<=N e:=aT hF hb.2
  obtain⟨b,hg,hc⟩:=sD.1 hc
  have hmk:N (jd len k)=((m*k:Nat):Int):=by rw[uO,hm',gm]
  by_cases hz:0 < N len
  .obtain⟨hq,_,ho⟩:=hloc (.inl hz)
   obtain⟨vs,h2,h3,h4⟩:=hR.range hF hg hq hc he0 om
   have hlen:vs.length=m*k:=by omega
   rw[<- ho] at h4
   refine⟨⟨some ⟨q,o,none⟩,c,rfl,h1,λe=>nomatch e⟩,vs,h3,hlen,λn hn=>?_⟩
   have hnk:n*k<=m*k:=Gp k hn
   have ht:(vs.take (n*k)).length=n*k:=by rw[qP]; omega
   have hcell:∀j u,(vs.take (n*k))[j]?=some u->w.cell? ((⟨q,o,none⟩:Addr).add j)=some u:=λj u hu=>by
    rw[Uf] at hu
    split at hu
    .rw[t8]; exact h4 j u hu
    .cases hu
   exact⟨run_firstCells_some w k n _ m c _ ht hcell,run_firstCells_some w.drew k n _ m c _ ht (by simpa using hcell)⟩
  .have hm0:m=0:=by omega
   obtain⟨k',_,_,us,ws,_,fr,_,_,_,h3,_⟩:=hR.ig id b hid hg
   obtain⟨as,xs,rs,_,e1,e2,_⟩:=Xv hF hc h3 he0 om
   have:xs=[]:=JZ (by rw[hm0,sC] at hmk; omega)
   subst this
   exact empty hm0 e2
 .cases hc
theorem aS.range (hF:ah F) {l l':List ai} {n:X} {m:Nat} {vs:List Value} (h:w5 F l 0 (.i 0) n=some l') (hl:aS bs l vs) (hn:N n=m):aS bs l' (vs.take m):=by
 obtain⟨as,us,ws,rfl,e1,e2,e3⟩:=Xv hF h hl (aP _) om
 have:=aDO (as:=as) (us:=us) (ws:=ws) (o:=0) (m:=m) om (e3.elim .inl .inr)
 rw[List.drop_zero] at this
 rw[this]; exact e2
theorem aRw (hI:dm P I) (hE:ER bs ρ a) (hR:HR w bs h) {t t':TypeId} {x y:Operand} {nid:Nat} (he:eE I ρ h nid (.call ⟨.builtin .copy,#[x,y],#[t,t']⟩)=some (v,h')):lO P ⟨dst,.call ⟨.builtin .copy,#[x,y],#[t,t']⟩,ty,pos,af,g⟩ a w (iI w bs h v h'):=by
 have hF:=hI.F
 simp only[eE] at he
 split at he
 case h_2=>cases he
 rename_i e e' d src ht ht' hx hy
 split at he
 case h_2=>cases he
 rename_i k hs
 have hsz:=hI.sz e k hs
 unfold cpy at he
 split at he
 case h_2=>cases he
 rename_i xm l hm hl
 have hnn:=afB (hE _ _ hy) hm
 obtain⟨m,hm'⟩:=qi hnn.1
 have hsl:=akI (P:=P) hR hF (hE _ _ hy) hm hm' hl
 obtain⟨⟨ad,c,hu,_,_⟩,vs,h1,h2,h3⟩:=hsl
 have hv:=hE _ _ hx
 split at he
 .rename_i id off ex len cap
  obtain⟨q,o,c',hv',hl0,hl1,hloc,_,hbig⟩:=hv
  obtain⟨ln,hln⟩:=qi hl0
  have hlt:(N len).toNat=ln:=by omega
  rw[hlt] at hv' hl1
  have goal:∀{xn:X} {l':List ai} {n:Nat},N xn=n->n=Nat.min m ln->aS bs l' (vs.take (n*k))->(0 < N len\/cap.told)->UQ I.F h k id off ex xn l'=some (v,h')->lO P ⟨dst,.call ⟨.builtin .copy,#[x,y],#[t,t']⟩,ty,pos,af,g⟩ a w (iI w bs h v h'):=by
   intro xn l' n hn hmin hl' htold hc
   obtain⟨hq,he0,ho⟩:=hloc htold
   unfold UQ at hc
   split at hc
   case h_2=>cases hc
   rename_i b hg
   obtain⟨hro,hc⟩:=cm hc
   obtain⟨ss',hst,hc⟩:=eR.1 hc
   cases hc
   have hro:b.ro=false:=by simpa using hro
   have hnm:n<=m:=by rw[hmin]; exact Nat.min_le_left _ _
   have hnk:n*k<=m*k:=Gp k hnm
   have htk:(vs.take (n*k)).length=n*k:=by rw[qP]; omega
   have hmul:N (jd xn k)=((n*k:Nat):Int):=by rw[uO,hn,gm]
   obtain⟨c0,cs,c1,c2,c3⟩:=hR.store hF hg hq hro hst hl' (by rw[htk,hmul]) he0
   rw[c0,Nat.zero_add] at ho
   rw[<- ho] at c2 c3
   obtain⟨w',r1,r2⟩:=QJ (P:=P) (vs.take (n*k)) cs o 0 w (Mem.start c1) (j:=0) rfl hl'.one om
   have r2':Mem w w' [⟨q,b.t,jG cs o (vs.take (n*k))⟩]:=by simpa [setAt] using r2
   obtain⟨hR',hM'⟩:=c3 w' r2'
   obtain⟨f1,_⟩:=h3 _ hnm
   rw[hmin] at f1 r1
   refine .inl ⟨.int .i64 (Nat.min m ln:Nat),w',.inl ?_,bs,hR',hM',by rw[hn,hmin],by rw[hn]; exact⟨by simp only[kc,fX]; omega,by simp only[kc,fX]; omega⟩⟩
   rw[hu] at f1
   simp only[execOp,resolve,invoke,builtin]
   simp[hv',hu,Builtin.copy_,run_underlying (hI.td _ _ ht),Go.Sym.run_sizeOf hsz,Builtin.lenOf,f1,r1,goInt]
  rcases fF he with ⟨hb,he⟩ | ⟨_,he⟩
  .rw[ar] at hb
   have hm0:N xm=0:=gq hF hb.2
   have hm0':m=0:=by omega
   cases he
   obtain⟨f1,_⟩:=h3 0 (Aq _)
   refine .inl ⟨.int .i64 0,w,.inl ?_,bs,hR,Mv.refl _ _ _,by rw[hm0],by rw[hm0]; exact⟨(show (-9223372036854775808:Int)<=0 by decide),(show (0:Int)<=9223372036854775807 by decide)⟩⟩
   rw[hu,hm0'] at f1
   subst hm0'
   simp only[execOp,resolve,invoke,builtin]
   simp[hv',hu,Builtin.copy_,run_underlying (hI.td _ _ ht),Go.Sym.run_sizeOf hsz,Builtin.lenOf,f1,goInt,storeCells]
  rcases fF he with ⟨hb,he⟩ | ⟨_,he⟩
  .rw[ar] at hb
   have h4:=aT hF hb.1
   have ht2:0 < N len\/cap.told:=by
    have:=hb.2
    rw[dt] at this
    rcases this with h | h
    .exact .inr (atg h)
    .have:1<=N len:=aT hF h
     exact .inl om
   exact goal hm' (ad2 (show m<=ln by omega)).symm (by rw[adW om]; exact h1) ht2 he
  .obtain⟨hb,he⟩:=cm he
   rw[ar] at hb
   have h4:=aT hF hb.1
   have h5:1<=N len:=aT hF hb.2
   obtain⟨l',hr,he⟩:=sD.1 he
   exact goal hln (Nat.min_eq_right (show ln<=m by omega)).symm (h1.range hF hr (by rw[uO,hln,gm])) (.inl om) he
 .cases he
  have hv':a.eval x=.slice none 0 0:=hv
  obtain⟨f1,_⟩:=h3 0 (Aq _)
  refine .inl ⟨.int .i64 0,w,.inl ?_,bs,hR,Mv.refl _ _ _,rfl,(show (-9223372036854775808:Int)<=0 by decide),(show (0:Int)<=9223372036854775807 by decide)⟩
  rw[hu] at f1
  simp only[execOp,resolve,invoke,builtin]
  simp[hv',hu,Builtin.copy_,run_underlying (hI.td _ _ ht),Go.Sym.run_sizeOf hsz,Builtin.lenOf,f1,goInt]
 .cases he
theorem Sl.src {k m:Nat} {l:List ai} {u:Value} {t e:TypeId} (h:Sl P w bs k m l u) (ht:P.underlying t=some (.slice e)):∃vs:List Value,aS bs l vs/\Src P k t u m vs w:=by
 obtain⟨⟨ad,c,hu,_,_⟩,vs,h1,h2,h3⟩:=h
 obtain⟨f1,f2⟩:=h3 m (fv _)
 rw[adW om] at f1 f2
 exact⟨vs,h1,.inl ⟨e,ht⟩,λ_=>by rw[hu]; rfl,f1,f2,h2,h1.one⟩
theorem Ext.drew (w:World):Ext w w.drew:=⟨rfl,rfl,rfl,fv _,λ_ _=>rfl⟩
theorem Ext.trans {w w1 w2:World} (h:Ext w w1) (h':Ext w1 w2):Ext w w2:=⟨h'.os.trans h.os,h'.tape.trans h.tape,h'.output.trans h.output,An h.size h'.size,λk hk=>(h'.cL k (lP hk h.size)).trans (h.cL k hk)⟩
theorem avh (hF:ah F) {l l2:List ai} {vs vs2:List Value} (h1:aS bs l vs) (h2:aS bs l2 vs2):aS bs (VI F l l2) (vs++vs2):=by
 have h:=h1.app h2
 unfold VI
 split
 .split
  .rename_i hr
   exact⟨_,[],(qO _).symm,LJ hF hr h,rfl⟩
  .exact h
 .exact h
theorem aTl (hF:ah F) {k:Nat} {l l2:List ai} {vs vs2:List Value} (h1:aS bs l vs) (h2:aS bs l2 vs2):aS bs (afx F k l l2) (vs++vs2):=by
 have h:=h1.app h2
 unfold afx
 split
 .have e:vs=[]:=h1
  subst e
  show aS bs (bif Nat.beq (O9 l2).length k && Nat.blt 1 k then _ else _) vs2
  cases hc:Nat.beq (O9 l2).length k && Nat.blt 1 k with
  | false=>exact h2
  | true=>
   rw[ar] at hc
   have hk:1 < k:=iw hc.2
   have hl:(O9 l2).length=k:=beq_eq hc.1
   rw[cond_true]
   split
   .rename_i m y hr
    obtain⟨a1,a2⟩:=akC hF hr h2
    exact⟨vs2,[],(qO _).symm,⟨a1,a2 om⟩,rfl⟩
   .exact h2
 .rename_i ks n x
  split
  .rename_i m y hp hr
   cases hc:Nat.beq ks.length k && (Nat.blt 1 k && ay F (.i 0) n) with
   | false=>exact h
   | true=>
    simp only[ar] at hc
    have hk:1 < k:=iw hc.2.1
    have hl:ks.length=k:=beq_eq hc.1
    have hn:0<=N n:=aT hF hc.2.2
    rw[cond_true]
    obtain⟨us,ws,e,⟨b1,b2⟩,e2⟩:=h1
    have e2:ws=[]:=e2
    subst e2
    rw[qO] at e
    rw[e]
    obtain⟨a1,a2⟩:=akC hF hr h2
    have a2:=a2 om
    have hph:=Qo hp hn
    refine⟨us++vs2,[],(qO _).symm,⟨?_,λi hi=>?_⟩,rfl⟩
    .rw[eK,eU]; omega
    .rw[yB hF]
     unfold p6
     by_cases q:i < us.length
     .obtain⟨k',c1,c2,c3⟩:=b2 i q
      refine⟨k',c1,?_,?_⟩
      .rw[ud q,if_pos om]; exact c2
      .rw[if_pos om]; exact c3
     .rw[eK] at hi
      obtain⟨k',c1,c2,c3⟩:=a2 (i - us.length) om
      have e3:i - (N n).toNat=i - us.length:=by omega
      refine⟨k',?_,?_,?_⟩
      .rw[Nat.zero_add] at c1 ⊢
       rw[show i=(N n).toNat+(i - us.length) by omega,adX,hph,Nat.zero_add,wi]
       exact c1
      .rw[sA om,if_neg om,e3]; exact c2
      .rw[if_neg om,e3]; exact c3
  .exact h
 .exact h
theorem avf (hF:ah F) {k:Nat} {l l2:List ai} {vs vs2:List Value} (h1:aS bs l vs) (h2:aS bs l2 vs2):aS bs (Dt F k l l2) (vs++vs2):=by
 unfold Dt
 split
 .split
  .have:vs=[]:=h1
   subst this
   have:=avh hF h2 (show aS bs [] [] from rfl)
   rwa [qO] at this
  .exact avh hF h1 h2
 .exact aTl hF h1 h2
theorem agF {w':World} {k:Nat} {id:Nat} {q:Option Nat} {b:Bl} {us ws:List Value} (hh:w'.heap[k]?=some (.cells (us++ws).toArray b.t (0,0))) (hc:Al q b.ks us.length (us++ws).length) (ht:aS bs b.ss us) (hle:Le bs (iO bs id k q)):BR w' (iO bs id k q) id b k:=
 BR.of hh HW (λ_=>rfl) (ht.mono hle) (by rw[PA]; exact hc)
theorem aeM (hI:dm P I) (hR:HR w bs h) {t t' e e':TypeId} {k n m:Nat} {xn xm:X} {z l l2:List ai} {u uy:Value} {base:Option Addr} {cap:Nat} (ht:P.underlying t=some (.slice e)) (ht':P.underlying t'=some (.slice e')) (hs:I.sz e=some (k+1)) (hz:I.zs e=some z) (hxn:N xn=n) (hxm:N xm=m) (hnm:n+m<=1048576) (hu:u=.slice base n cap) (ha:Sl P w bs (k+1) n l u) (hb:Sl P w bs (k+1) m l2 uy) (hlt:cap < n+m) (hn:((⟨h.h,h.nx+1⟩:Hp).new h.nx ⟨e,Dt I.F (k+1) l l2,false,k+1⟩)=some h'):∃u' w' bs',(Builtin.append_ #[t,t'] ty #[u,uy]).run P w=.ok u' w'/\HR w' bs' h'/\Mv w w' bs bs' h h'/\VR bs' (.c (.sl h.nx 0 (.i 0) (b9 xn xm) .g)) u':=by
 obtain⟨hid,rfl⟩:=Hp.Wr hn
 obtain⟨i,zv,h1,h2,cs,h3,h4,h5⟩:=hI.zs e z hz
 have h4:=h4 _ hs
 have hsz:i.size=k+1:=by have:=hI.sz e _ hs; rw[h1] at this; simpa using this
 have hby:=hI.by_ e _ i hs h1
 obtain⟨vs,hvs,hsrc⟩:=ha.src ht
 obtain⟨vs2,hvs2,hsrc2⟩:=hb.src ht'
 have hfit:Builtin.nextslicecap (n+m) cap*i.bytes<=281474976710656:=growslice_fits hlt (by
  have:(n+m)*i.bytes<=1048576*1048576:=J7 hnm hby
  omega)
 subst hu
 have hr:=run_append_grow_src (P:=P) w t t' ty e i zv ht h1 h2 base n cap vs (by rw[hsz]; exact hsrc.cellsD) uy m vs2 (by rw[hsz]; exact hsrc2) hlt om hfit
 have hge:=grownCap_ge w (n+m) cap e
 have hmax:grownCap w (n+m) cap e<=maxLen:=grownCap_le_maxLen w (n+m) cap e (by unfold maxLen; omega)
 have e1:((vs++vs2).toArray++Builtin.zeroCells zv.cells (grownCap w (n+m) cap e - (n+m)))=(vs++vs2++(Builtin.zeroCells zv.cells (grownCap w (n+m) cap e - (n+m))).toList).toArray:=by
  apply NS
  simp
 rw[e1] at hr
 have hvl:=hsrc.newsLen
 have hvl2:=hsrc2.newsLen
 have hzl:(Builtin.zeroCells zv.cells (grownCap w (n+m) cap e - (n+m))).toList.length=(grownCap w (n+m) cap e - (n+m))*(k+1):=by
  rw[T1,size_zeroCells,h3,asa,h4]
 have hlen:(vs++vs2++(Builtin.zeroCells zv.cells (grownCap w (n+m) cap e - (n+m))).toList).length=grownCap w (n+m) cap e*(k+1):=by
  rw[eK,eK,hvl,hvl2,hzl,<- yr,<- yr]
  congr 1
  omega
 obtain⟨hg,hltk⟩:=aee w.drew (vs++vs2++(Builtin.zeroCells zv.cells (grownCap w (n+m) cap e - (n+m))).toList) e
 have hE:=(Ext.drew w).trans (aed w.drew (vs++vs2++(Builtin.zeroCells zv.cells (grownCap w (n+m) cap e - (n+m))).toList) e)
 obtain⟨hn0,hc0⟩:=hR.nx h.nx (fv _)
 have hbr:=agF (bs:=bs) (id:=h.nx) (q:=some (grownCap w (n+m) cap e)) (b:=⟨e,Dt I.F (k+1) l l2,false,k+1⟩) hg (show _=_*_ from hlen) (avf hI.F hvs hvs2) (DE hn0 hc0)
 obtain⟨hR',hM'⟩:=hR.made hid hE (fv _) hltk hbr
 have hN:N (b9 xn xm)=((n+m:Nat):Int):=by rw[eU,hxn,hxm]; omega
 have hNt:(N (b9 xn xm)).toNat=n+m:=by rw[hN]; exact fg _
 exact⟨_,_,_,hr,hR',hM',w.heap.size,0,grownCap w (n+m) cap e,by rw[hNt],by omega,by rw[hNt]; exact hge,λ_=>⟨ov,aP _,by rw[HW]; rfl⟩,PA,by unfold maxLen at hmax; omega⟩
theorem akD {t t' e e':TypeId} {i:TypeInfo} {k off n m c:Nat} {cs vs2:List Value} {uy:Value} {bt:TypeId} (ht:P.underlying t=some (.slice e)) (h1:P.info? e=some i) (ht':P.underlying t'=some (.slice e')) (hsrc:Src P i.size t' uy m vs2 w) (hroom:n+m<=c) (hk:w.heap[k]?=some (.cells cs.toArray bt (0,0))) (hle:off+n*i.size+vs2.length<=cs.length):∃w',(Builtin.append_ #[t,t'] ty #[.slice (some ⟨k,off,none⟩) n c,uy]).run P w=.ok (.slice (some ⟨k,off,none⟩) (n+m) c) w'/\Mem w w' [⟨k,bt,jG cs (off+n*i.size) vs2⟩]:=by
 obtain⟨w',r1,r2⟩:=QJ (P:=P) vs2 cs (off+n*i.size) 0 w (Mem.start hk) (j:=0) rfl hsrc.one om
 refine⟨w',?_,by simpa [setAt] using r2⟩
 simp[Builtin.append_,run_underlying ht,run_underlying ht',sizeOf,typeInfo,h1,hsrc.len,hroom,hsrc.cells,t8,r1]
theorem aRu (hI:dm P I) (hE:ER bs ρ a) (hR:HR w bs h) {t t':TypeId} {x y:Operand} {e e':TypeId} {p src:V} {k:Nat} {z:List ai} (ht:I.td t=some (.slice e)) (ht':I.td t'=some (.slice e')) (hx:ρ x=some p) (hy:ρ y=some src) (hs:I.sz e=some (k+1)) (hz:I.zs e=some z) (he:app I.F (⟨h.h,h.nx+1⟩:Hp) h.nx e (k+1) p src=some (v,h')):lO P ⟨dst,.call ⟨.builtin .append,#[x,y],#[t,t']⟩,ty,pos,af,g⟩ a w (iI w bs h v h'):=by
 have hF:=hI.F
 have hR1:HR w bs (⟨h.h,h.nx+1⟩:Hp):=hR.AT (Gk _)
 unfold app at he
 split at he
 case h_2=>cases he
 rename_i xn xm l l2 hn hm hl hl2
 obtain⟨n,hn'⟩:=qi (afB (hE _ _ hx) hn).1
 obtain⟨m,hm'⟩:=qi (afB (hE _ _ hy) hm).1
 have ha:=akI (P:=P) hR1 hF (hE _ _ hx) hn hn' hl
 have hb:=akI (P:=P) hR1 hF (hE _ _ hy) hm hm' hl2
 have hxv:=hE _ _ hx
 have hN:N (b9 xn xm)=((n+m:Nat):Int):=by rw[eU,hn',hm']; omega
 have hNt:(N (b9 xn xm)).toNat=n+m:=by rw[hN]; exact fg _
 have fin:∀{u':Value} {w':World} {bs':Nm},(Builtin.append_ #[t,t'] ty #[a.eval x,a.eval y]).run P w=.ok u' w'->HR w' bs' h'->Mv w w' bs bs' h h'->VR bs' v u'->lO P ⟨dst,.call ⟨.builtin .append,#[x,y],#[t,t']⟩,ty,pos,af,g⟩ a w (iI w bs h v h'):=λr1 r2 r3 r4=>
  .inl ⟨_,_,.inl (by simp[execOp,resolve,invoke,builtin,r1]),_,r2,r3,r4⟩
 obtain⟨i,zv,h1,h2,_⟩:=hI.zs e z hz
 have hsz:i.size=k+1:=by have:=hI.sz e _ hs; rw[h1] at this; simpa using this
 have hT:=hI.td _ _ ht
 have hT':=hI.td _ _ ht'
 have big:∀{b:Bool},b=true->(b=ay I.F (b9 xn xm) (.i 1048576))->n+m<=1048576:=by
  intro b hb hbe
  rw[hbe] at hb
  have:N (b9 xn xm)<=1048576:=aT hF hb
  omega
 dsimp only at he
 split at he
 .rename_i id off ex len c
  have hn2:len=xn:=Option.some.inj hn
  subst hn2
  obtain⟨q,o,c',hu,_,hlc,hloc,hc',hbig⟩:=hxv
  have hlt0:(N len).toNat=n:=by omega
  rw[hlt0] at hu hlc
  have hc':(c':Int)=N c:=hc'
  obtain⟨hq,he0,ho⟩:=hloc (.inr trivial)
  rcases fF he with ⟨hroom,he⟩ | ⟨_,he⟩
  .have hroom:=aT hF hroom
   have hroom':n+m<=c':=by omega
   split at he
   case h_2=>cases he
   rename_i b hg
   obtain⟨hb2,he⟩:=cm he
   obtain⟨ss',hst,he⟩:=eR.1 he
   cases he
   have hro:b.ro=false:=by simpa using hb2
   obtain⟨vs2,hvs2,hsrc⟩:=hb.src hT'
   have hl2n:=hsrc.newsLen
   have hm2:N (jd xm (k+1))=((m*(k+1):Nat):Int):=by rw[uO,hm',gm]
   have hn2:N (jd len (k+1))=((n*(k+1):Nat):Int):=by rw[uO,hn',gm]
   have hex:N (b9 ex (jd len (k+1)))=N ex+((n*(k+1):Nat):Int):=by rw[eU,hn2]
   obtain⟨c0,cs,c1,c2,c3⟩:=hR1.store hF hg hq hro hst hvs2 (by rw[hm2,hl2n]) om
   have hoff:off+(N (b9 ex (jd len (k+1)))).toNat=o+n*(k+1):=by rw[ho,c0]; omega
   rw[hoff] at c2 c3
   obtain⟨w',r1,r2⟩:=akD (P:=P) (ty:=ty) (off:=o) (n:=n) hT h1 hT' (by rw[hsz]; exact hsrc) hroom' c1 (by rw[hsz]; exact c2)
   rw[hsz] at r2
   obtain⟨hR',hM'⟩:=c3 w' r2
   rw[<- hu] at r1
   have hM0:Mv w w bs bs h (⟨h.h,h.nx+1⟩:Hp):=(Mv.refl w bs h).AT (Gk _)
   exact fin r1 hR' (hM0.trans hM') ⟨q,o,c',by rw[hNt],by omega,by omega,λ_=>⟨hq,he0,ho⟩,hc',hbig⟩
  .obtain⟨hb2,he⟩:=cm he
   rw[ar] at hb2
   obtain⟨h3,h4,h5⟩:=eR.1 he
   cases h5
   have hlt:=lZ hF hb2.1
   have hlt:c' < n+m:=by omega
   obtain⟨u',w',bs',r1,r2,r3,r4⟩:=aeM (P:=P) (ty:=ty) hI hR hT hT' hs hz hn' hm' (big hb2.2 rfl) hu ha hb hlt h4
   exact fin r1 r2 r3 r4
 .have hn2:(.i 0:X)=xn:=Option.some.inj hn
  subst hn2
  have hn0:n=0:=by have:(0:Int)=(n:Int):=hn'; omega
  subst hn0
  have hu:a.eval x=.slice none 0 0:=hxv
  rcases fF he with ⟨hm0,he⟩ | ⟨_,he⟩
  .cases he
   have hm0:N xm=0:=gq hF hm0
   have hm0:m=0:=by omega
   subst hm0
   obtain⟨vs2,hvs2,hsrc⟩:=hb.src hT'
   have hM0:Mv w w bs bs h (⟨h.h,h.nx+1⟩:Hp):=(Mv.refl w bs h).AT (Gk _)
   have hcl:=hsrc.cells
   refine fin (u':=.slice none 0 0) (w':=w) ?_ hR1 hM0 rfl
   rw[hu]
   simp[Builtin.append_,run_underlying hT,run_underlying hT',sizeOf,typeInfo,h1,hsrc.len,hsz,hcl]
  .obtain⟨hb2,he⟩:=cm he
   rw[ar] at hb2
   obtain⟨h3,h4,h5⟩:=eR.1 he
   cases h5
   have hm1:1<=N xm:=aT hF hb2.1
   have hlt:0 < 0+m:=by omega
   obtain⟨u',w',bs',r1,r2,r3,r4⟩:=aeM (P:=P) (ty:=ty) hI hR hT hT' hs hz hn' hm' (big hb2.2 rfl) hu ha hb hlt h4
   exact fin r1 r2 r3 r4
 .rename_i id len
  have hn2:len=xn:=Option.some.inj hn
  subst hn2
  obtain⟨q,o,c,hu,_,hlc,hloc,hcc,hbig⟩:=hxv
  have hlt0:(N len).toNat=n:=by omega
  rw[hlt0] at hu hlc
  obtain⟨hq,_,ho⟩:=hloc (.inr trivial)
  have hcc:bs.c id=some c:=hcc
  rcases fF he with ⟨hm0,he⟩ | ⟨_,he⟩
  .cases he
   have hm0:N xm=0:=gq hF hm0
   have hm0:m=0:=by omega
   subst hm0
   obtain⟨vs2,hvs2,hsrc⟩:=hb.src hT'
   have hvs0:vs2=[]:=JZ (by rw[hsrc.newsLen,sC])
   subst hvs0
   have hM0:Mv w w bs bs h (⟨h.h,h.nx+1⟩:Hp):=(Mv.refl w bs h).AT (Gk _)
   have hcl:=hsrc.cells
   refine fin (u':=.slice (some ⟨q,o,none⟩) n c) (w':=w) ?_ hR1 hM0 ⟨q,o,c,by rw[hlt0],by omega,by omega,λ_=>⟨hq,aP _,ho⟩,hcc,hbig⟩
   rw[hu]
   simp[Builtin.append_,run_underlying hT,run_underlying hT',sizeOf,typeInfo,h1,hsrc.len,hsz,hcl,hlc,storeCells]
  .obtain⟨hbg,he⟩:=cm he
   split at he
   case h_2=>cases he
   rename_i b hg
   rcases fF he with ⟨hb2,he⟩ | ⟨_,he⟩
   .simp only[ar,Ai] at hb2
    obtain⟨hb3,hb4,hb5,hb6⟩:=hb2
    have hbt:=beq_eq hb4
    have hbk:=beq_eq hb5
    obtain⟨h3,h4,h5⟩:=eR.1 he
    cases h5
    have hid:=(hR.fp id q hq).1
    obtain⟨hid',hput⟩:=Hp.Wr h4
    by_cases hroom:n+m<=c
    .obtain⟨vs2,hvs2,hsrc⟩:=hb.src hT'
     have hl2n:=hsrc.newsLen
     obtain⟨us,ws,c1,c2,c3,c4⟩:=(hR1.at hg hq).live hb3
     have ho:o=0:=by rw[ho,c2]; rfl
     subst ho
     have hcl:(us++ws).length=c*b.ks:=by rw[hcc] at c4; exact c4
     rw[hbk] at hcl
     have hul:us.length=n*(k+1):=by
      have e1:=c3.len
      have e2:=gq hF hb6
      have e3:N (jd len (k+1))=((n*(k+1):Nat):Int):=by rw[uO,hn',gm]
      omega
     have hcm:(n+m)*(k+1)<=c*(k+1):=Gp _ hroom
     have hadd:(n+m)*(k+1)=n*(k+1)+m*(k+1):=yr ..
     obtain⟨w',r1,r2⟩:=akD (P:=P) (ty:=ty) (off:=0) (n:=n) hT h1 hT' (by rw[hsz]; exact hsrc) hroom c1 (by rw[hsz]; omega)
     rw[hsz,Nat.zero_add] at r2
     have hC1:aS bs l us:=by
      unfold contents at hl
      rcases fF hl with ⟨hz0,hl⟩ | ⟨_,hl⟩
      .cases hl
       have hz0:N len=0:=gq hF hz0
       have hn0:n=0:=by omega
       rw[hn0,sC] at hul
       exact JZ hul
      .obtain⟨_,hl⟩:=cm hl
       obtain⟨b2,hg2,hl'⟩:=sD.1 hl
       have hbb:b2=b:=Option.some.inj (hg2.symm.trans hg)
       subst hbb
       have:=c3.range hF hl' (m:=n*(k+1)) (by rw[uO,hn',gm])
       rwa [adW om] at this
     have hsp:jG (us++ws) (n*(k+1)) vs2=(us++vs2)++ws.drop vs2.length:=by
      have hwl:vs2.length<=ws.length:=by rw[eK] at hcl; omega
      have h5:us++ws=us++(ws.take vs2.length++ws.drop vs2.length):=by rw[Am]
      rw[h5,<- hul,akM (by rw[qP]; omega),List.append_assoc]
     have hCC:=avf hF (k:=k+1) hC1 hvs2
     obtain⟨hn0,hc0⟩:=hR.nx h.nx (fv _)
     rw[hsp] at r2
     have hbr:BR w' (iO bs h.nx q (some c)) h.nx ⟨e,Dt I.F (k+1) l l2,false,k+1⟩ q:=
      agF (by rw[<- hbt]; exact r2.qf _ (uh.2 rfl)) (show _=c*(k+1) by rw[<- hcl,eK,eK,eK,Gf]; rw[eK] at hcl; omega) hCC (DE hn0 hc0)
     obtain⟨hR',hM'⟩:=hR.renamed hg hq hb3 hid' (Gw.azg r2) hbr
     rw[<- hu] at r1
     rw[<- hput] at hR' hM'
     exact fin r1 hR' hM' ⟨q,0,c,by rw[hNt],by omega,by omega,λ_=>⟨ov,aP _,by rw[HW]; rfl⟩,PA,hbig⟩
    .obtain⟨u',w',bs',r1,r2,r3,r4⟩:=aeM (P:=P) (ty:=ty) hI hR hT hT' hs hz hn' hm' (big hbg rfl) hu ha hb om h4
     exact fin r1 (r2.drop hid) (r3.drop hid) r4
   .obtain⟨hb2,he⟩:=cm he
    simp only[ar,Ai] at hb2
    obtain⟨hro,hb5,hb6⟩:=hb2
    have hbk:=beq_eq hb5
    have hle:=aT hF hb6
    obtain⟨ss',hst,he⟩:=eR.1 he
    cases he
    obtain⟨vs2,hvs2,hsrc⟩:=hb.src hT'
    have hl2n:=hsrc.newsLen
    have hroom:n+m<=c:=by
     obtain⟨us,ws,c1,c2,c3,c4⟩:=(hR1.at hg hq).live hro
     have hcl:(us++ws).length=c*b.ks:=by rw[hcc] at c4; exact c4
     rw[hbk,eK] at hcl
     have e1:=c3.len
     have e3:N (jd (b9 len xm) (k+1))=(((n+m)*(k+1):Nat):Int):=by rw[uO,hN,gm]
     have h9:(n+m)*(k+1)<=c*(k+1):=by omega
     exact Nat.le_of_mul_le_mul_right h9 (Uq k)
    have hm2:N (jd xm (k+1))=((m*(k+1):Nat):Int):=by rw[uO,hm',gm]
    have hn2:N (jd len (k+1))=((n*(k+1):Nat):Int):=by rw[uO,hn',gm]
    have hex:N (b9 (.i 0) (jd len (k+1)))=((n*(k+1):Nat):Int):=by rw[eU,hn2]; exact Int.zero_add _
    obtain⟨c0,cs,c1,c2,c3⟩:=hR1.store hF hg hq hro hst hvs2 (by rw[hm2,hl2n]) om
    have ho:o=0:=by rw[ho,c0]; rfl
    subst ho
    have hoff:0+(N (b9 (.i 0) (jd len (k+1)))).toNat=0+n*(k+1):=by omega
    rw[hoff] at c2 c3
    obtain⟨w',r1,r2⟩:=akD (P:=P) (ty:=ty) (off:=0) (n:=n) hT h1 hT' (by rw[hsz]; exact hsrc) hroom c1 (by rw[hsz]; exact c2)
    rw[hsz] at r2
    obtain⟨hR',hM'⟩:=c3 w' r2
    rw[<- hu] at r1
    have hM0:Mv w w bs bs h (⟨h.h,h.nx+1⟩:Hp):=(Mv.refl w bs h).AT (Gk _)
    exact fin r1 hR' (hM0.trans hM') ⟨q,0,c,by rw[hNt],by omega,by omega,λ_=>⟨hq,aP _,by rw[c0]; rfl⟩,hcc,hbig⟩
 .cases he
set_option linter.unusedSimpArgs false in
theorem aPZ {t tx e : TypeId} {z : Value} {bytes m b cap : Nat} {w' : World} (he : adK P t e z bytes) (htx : P.underlying tx = some (.int .i64)) (hm1 : 1 ≤ m) (hm2 : m ≤ 1048576) (hr : (Builtin.append_ #[t, tx] ty #[.slice none 0 0, Go.Sym.N m]).run P w = .ok (.slice (some ⟨b, 0, none⟩) m cap) w') : cap ≤ maxLen := by
  obtain ⟨i, hi⟩ : ∃ i, P.info? e = some i := by
    cases h : P.info? e with
    | none => have := he.hi; rw [h] at this; cases this
    | some i => exact ⟨i, rfl⟩
  have hh := he.hi
  rw [hi] at hh
  simp only [uo, cu, Prod.mk.injEq] at hh
  obtain ⟨hz, h1, hby⟩ := hh
  have hb8 := he.hb
  have hbm : m * i.bytes ≤ m * 8 := Uo _ om
  have wr : IntKind.i64.wrap (m : Int) = (m : Int) := Q6 _ om
  have Bk : IntKind.i64.wrap 0 = 0 := Q6 0 om
  have ng : ¬ ((m : Int) < 0) := by omega
  have big : ¬ ((281474976710656 : Int) < (m : Int) * (i.bytes : Int)) := by
    have : ((m * i.bytes : Nat) : Int) ≤ ((m * 8 : Nat) : Int) := Gb.2 hbm
    rw [gm] at this
    omega
  have fits : Builtin.nextslicecap m 0 * i.bytes ≤ 281474976710656 := growslice_fits om om
  have hn' : ¬ (m ≤ 0) := by omega
  have h63' : ¬ (9223372036854775807 < (m : Int)) := by omega
  have h48' : ¬ (281474976710656 < Builtin.nextslicecap m 0 * i.bytes) := by omega
  have hm0 : ¬ m = 0 := by omega
  have hr2 : (Builtin.append_ #[t, tx] ty #[.slice none 0 0, Go.Sym.N m]).run P w =
      .ok (.slice (some ⟨w.heap.size, 0, none⟩) m (grownCap w m 0 e)) (w.drew.alloc (.cells ((zs z m).toArray ++ Builtin.zeroCells z.cells (grownCap w m 0 e - m)) e)) := by
    simp [Builtin.append_, Go.Sym.N, asInt, asIntOf, Bk, wr, ng, big, run_underlying he.ht, run_underlying htx, sizeOf, typeInfo, zeroValue, hi, hz, h1, hn', h63', h48', Question.forced, Builtin.firstCells, newRow, grownCap, zs, hm0]
  rw [hr2] at hr
  cases hr
  exact grownCap_le_maxLen w m 0 e (by unfold maxLen; omega)
theorem aRv (hI:dm P I) (hE:ER bs ρ a) (hR:HR w bs h) {t t':TypeId} {x y:Operand} {e:TypeId} {z:X} (ht:I.td t=some (.slice e)) (ht':I.td t'=some (.int .i64)) (hx:ρ x=some (.c .cT)) (hy:ρ y=some (.c (.int .i64 z))) (hs:I.sz e=some 1) (hzs:I.zs e=some [.c (.int .u8 (.i 0))]) (hm1:1<=N z) (hm2:N z<=1048576) (hb:Av I e=true) (he:((⟨h.h,h.nx+1⟩:Hp).new h.nx ⟨e,[.a [.u8] z (.i 0)],false,1⟩)=some h'):lO P ⟨dst,.call ⟨.builtin .append,#[x,y],#[t,t']⟩,ty,pos,af,g⟩ a w (iI w bs h (.c (.sl h.nx 0 (.i 0) z .g)) h'):=by
 obtain⟨i,zv,h1,h2,cs,h3,h4,h5⟩:=hI.zs e _ hzs
 have hsz:i.size=1:=by have:=hI.sz e _ hs; rw[h1] at this; simpa using this
 have hu8:I.td e=some (.int .u8):=by
  unfold Av at hb
  split at hb
  .assumption
  .cases hb
 have hby:=hI.b1 e i hu8 h1
 have hx':a.eval x=.slice none 0 0:=hE _ _ hx
 obtain⟨hy',_⟩:=hE _ _ hy
 obtain⟨m,hm⟩:∃m:Nat,N z=((m+1:Nat):Int):=⟨(N z).toNat - 1,by omega⟩
 rw[hm] at hy'
 have hcs:cs=[Value.int .u8 0]:=by
  obtain⟨v,ws,rfl,⟨e1,_⟩,e3⟩:=h5
  rw[show ws=[] from e3,e1]; rfl
 have hzc:zv.cells=#[Value.int .u8 0]:=by rw[h3,hcs]
 have hzs':∀k,zs zv k=List.replicate k (Value.int .u8 0):=λk=>by
  unfold zs
  rw[hzc]
  apply J0
  intro j
  simp only[Builtin.zeroCells,aPx]
  by_cases hj:j < k
  .simp[hj,sB]
  .simp[hj]
 have hEl:adK P t e zv i.bytes:=⟨hI.td _ _ ht,by rw[h1]; simp[h2,hsz],by rw[hzc]; rfl,hby⟩
 obtain⟨hid,rfl⟩:=Hp.Wr he
 obtain⟨u',w',Lx',r1,r2,r3⟩:=a1X (P:=P) (ty:=ty) (m:=m+1) (w0:=w) (w:=w) (L:=[]) (Lx:=[]) hEl (hI.td _ _ ht') (λu hu=>by
  rw[hzs'] at hu
  rw[List.eq_of_mem_replicate hu]; rfl) (Mem.refl w) CX.nil (by simp; omega)
 rcases r2 with ⟨_,hnil,_⟩ | ⟨b,cap,sp,rfl,hb0,hcap,rfl⟩
 .rw[ar8,hzs'] at hnil; simp at hnil
 .rw[ar8,hzs',ar6] at hcap
  rw[ar8,hzs'] at r1 r3
  rw[ar6] at r1
  have hM:Mem w w' [⟨b,e,List.replicate (m+1) (Value.int .u8 0)++sp⟩]:=r3
  have hh:=hM.qf _ (uh.2 rfl)
  have hlen:(List.replicate (m+1) (Value.int .u8 0)++sp).length=cap:=by rw[eK,ar6]; exact hcap
  obtain⟨hn0,hc0⟩:=hR.nx h.nx (fv _)
  have hrow:=akB (bs:=bs) (q:=.u8) (m:=z) (n:=m+1) hm
  have e2:(List.range (m+1)).map (λ_=>Value.int .u8 0)=List.replicate (m+1) (Value.int .u8 0):=by
   apply J0
   intro j
   rw[N1,aPx]
   by_cases hj:j < m+1
   .rw[Ge hj,if_pos hj]; rfl
   .rw[CL (by rw[N2]; omega),if_neg hj]; rfl
  rw[e2] at hrow
  have hbr:=agF (bs:=bs) (id:=h.nx) (q:=some cap) (b:=⟨e,[.a [.u8] z (.i 0)],false,1⟩) hh (show _=cap*1 by rw[hlen,um]) hrow (DE hn0 hc0)
  obtain⟨hR',hM'⟩:=hR.made hid (Ext.azh hM hb0) hb0 (as4 hh) hbr
  have r1':(Builtin.append_ #[t,t'] ty #[a.eval x,a.eval y]).run P w=.ok (.slice (some ⟨b,0,none⟩) (m+1) cap) w':=by rw[hx',hy']; exact r1
  have hzt:(N z).toNat=m+1:=by omega
  refine .inl ⟨.slice (some ⟨b,0,none⟩) (m+1) cap,w',.inl (by simp[execOp,resolve,invoke,builtin,r1']),_,hR',hM',b,0,cap,by rw[hzt],by omega,by rw[hzt]; omega,λ_=>⟨ov,aP _,by rw[HW]; rfl⟩,PA,?_⟩
  have:=aPZ (P:=P) hEl (hI.td _ _ ht') om om r1
  unfold maxLen at this
  omega
theorem azk (hI:dm P I) (hE:ER bs ρ a) (hR:HR w bs h) {op:Op} (hst:∀t x y,op=.store t x y->dst=none) (he:eE I ρ (h.nxt op) h.nx op=some (v,h')):lO P ⟨dst,op,ty,pos,af,g⟩ a w (iI w bs h v h'):=by
 have hid:∀(b:Bool),b=false->(⟨h.h,bif b then h.nx+1 else h.nx⟩:Hp)=h:=λb hb=>by rw[hb]; rfl
 have pure_:∀{op:Op},(pop I ρ op).map (λx=>(x,h))=some (v,h')->lO P ⟨dst,op,ty,pos,af,g⟩ a w (iI w bs h v h'):=λhp=>by
  obtain⟨v',h1,h2⟩:=eR.1 hp
  cases h2
  exact ((aDq hI hE h1).rd).OD hR
 cases op with
 | load t x=>
  obtain⟨rfl,h2⟩:=aDT hI hE hR (show eE I ρ h h.nx (.load t x)=some (v,h') from he)
  exact h2.OD hR
 | store t x y=>
  have:=hst t x y rfl
  subst this
  exact aRy hI hE hR (show eE I ρ h h.nx (.store t x y)=some (v,h') from he)
 | alloc t=>exact UZ hI hE hR he
 | box t x=>exact UZ hI hE hR he
 | buildSlice t n ps=>exact UZ hI hE hR he
 | makeSlice t l c=>exact UZ hI hE hR he
 | convert t d x=>
  have he':eE I ρ h h.nx (.convert t d x)=some (v,h'):=he
  simp only[eE] at he'
  split at he'
  .rename_i hd
   obtain⟨v',h1,h2⟩:=eR.1 he'
   cases h2
   exact (aDU hI hE hR hd h1).OD hR
  .rename_i e hd
   split at he'
   case h_2=>cases he'
   rename_i id off ex len cap hx
   split at he'
   case h_2=>cases he'
   rename_i e' b ht hg
   obtain⟨hb,he2⟩:=m9 he'
   cases he2
   simp only[ar] at hb
   exact aRx hI hE hR hx hd ht (beq_eq hb.1) hb.2.1 hb.2.2.1 (by simpa using hb.2.2.2) hg
  .exact pure_ he'
 | call c=>
  obtain⟨f,⟨xs⟩,⟨ts⟩⟩:=c
  cases f with
  | builtin b=>
   cases b with
   | append=>
    rcases xs with _ | ⟨x,_ | ⟨y,_ | ⟨z,xs⟩⟩⟩ <;>rcases ts with _ | ⟨t,_ | ⟨t',_ | ⟨t2,ts⟩⟩⟩ <;>first
     | (simp[eE,pop] at he; done)
     | skip
    have he':eE I ρ (⟨h.h,h.nx+1⟩:Hp) h.nx (.call ⟨.builtin .append,#[x,y],#[t,t']⟩)=some (v,h'):=he
    simp only[eE] at he'
    split at he'
    .rename_i e e' p src ht ht' hx hy
     split at he'
     .rename_i k z hs hz
      exact aRu hI hE hR ht ht' hx hy hs hz he'
     .cases he'
    .rename_i e z ht ht' hx hy
     split at he'
     .rename_i hs hz
      obtain⟨hb,he2⟩:=cm he'
      simp only[ar] at hb
      obtain⟨h3,h4,h5⟩:=eR.1 he2
      cases h5
      exact aRv hI hE hR ht ht' hx hy hs hz (aT hI.F hb.2.1) (aT hI.F hb.2.2) hb.1 h4
     .cases he'
    .cases he'
   | copy=>
    rcases xs with _ | ⟨x,_ | ⟨y,_ | ⟨z,xs⟩⟩⟩ <;>rcases ts with _ | ⟨t,_ | ⟨t',_ | ⟨t2,ts⟩⟩⟩ <;>first
     | (simp[eE,pop] at he; done)
     | skip
    exact aRw hI hE hR (show eE I ρ h h.nx (.call ⟨.builtin .copy,#[x,y],#[t,t']⟩)=some (v,h') from he)
   | _=>exact pure_ he
  | _=>exact pure_ he
 | _=>exact pure_ he
end Go.Z
namespace Go.Z
open Go Go.Sym Go.RowKit
open Go.Ev (T K Ex DH DF a7)
variable [bI] [Env]
variable {P:Program} {I:Info} {bs bs':Nm} {s s':Fr} {ρ:jy} {a:Act} {n:Nat} {w w':World} {h h':Hp} {v:V}
variable {dst:Option Nat} {ty:TypeId} {pos:String} {af:Array Edge} {g:Option (Nat×Bool)}
def n5 (P:Program) (f:FuncId) (vs:Array Value) (w:World) (R:Value->World->Prop):Prop:=
 (∃v w',(callFunc f vs).run P w=.ok (.value v) w'/\R v w')\/
  ((callFunc f vs).run P w=.ok (.enter f vs) w/\Calls P f vs w (λe w'=>∃v,e=.returned v/\R v w'))
def ua (P:Program) (call:FuncId->List V->Hp->Option (V×Hp)):Prop:=
 ∀f as h v h',call f as h=some (v,h')->∀bs vs w,jS bs as vs->HR w bs h->n5 P f vs.toArray w (iI w bs h v h')
variable {call:FuncId->List V->Hp->Option (V×Hp)}
theorem asN (hE:ER bs ρ a):∀{xs:List Operand} {l:List V},args ρ xs=some l->jS bs l (xs.map a.eval)
 | [],l,he=>by simp only[args,cu] at he; subst he; trivial
 | x::xs,l,he=>by
  simp only[args] at he
  split at he
  .rename_i v l' hv hl
   cases he
   exact⟨hE _ _ hv,asN hE hl⟩
  .cases he
theorem n5.OD {f:FuncId} {vs:Array Value} {R:Value->World->Prop} {o:Oper} (hc:n5 P f vs w R) (ho:execOp a.eval o=callFunc f vs):lO P o a w R:=by
 rcases hc with ⟨v,w',h1,h2⟩ | ⟨h1,h2⟩
 .exact .inl ⟨v,w',.inl (by rw[ho]; exact h1),h2⟩
 .exact .inr ⟨f,vs,by rw[ho]; exact h1,h2⟩
theorem aEC (hI:dm P I) (hC:ua P call) (hE:ER bs ρ a) (hR:HR w bs h) {o:Oper} (he:step I call ρ h o=some (v,h')):lO P o a w (iI w bs h v h'):=by
 obtain⟨d0,op,ty,pos,af,g⟩:=o
 unfold step at he
 simp only at he
 split at he
 .rename_i f xs ats
  split at he
  case h_2=>cases he
  rename_i g' caps l hf hl
  obtain⟨cv,hcv,hfv⟩:=hE _ _ hf
  have hargs:=(asN hE hl).app (capsR.vs hcv)
  refine (hC _ _ _ _ _ he bs _ w hargs hR).OD ?_
  have h1:execOp a.eval ⟨d0,.call ⟨.value f,xs,ats⟩,ty,pos,af,g⟩=(do let d <- resolve a.eval ⟨.value f,xs,ats⟩ ty; invoke d.target d.args):=rfl
  rw[h1]
  unfold resolve
  simp only[hfv]
  show callFunc g' (#[]++xs.map a.eval++cv.toArray)=_
  congr 1
  apply NS
  simp
 .rename_i t x y
  split at he
  .exact azk hI hE hR (op:=.store t x y) (λ_ _ _ _=>rfl) he
  .cases he
 .rename_i hns
  exact azk hI hE hR (λt x y e=>absurd e (hns t x y)) he
theorem aFf (hF:ah I.F) {o:Oper} {all:List Oper} {b:Bool} (hg:∀(j:Nat) (c:Bool) (oj:Oper) (t:Nat) (v:V),o.guard=some (j,c)->all[j]?=some oj->oj.dst=some t->t < 512->s.get t=some v->∃u,a.tmps[t]?=some u/\VR bs v u) (he:wanted I.F all s o.guard=some b):Region.wanted o (yielded all.toArray a.tmps)=b:=by
 unfold wanted at he
 split at he
 .rename_i hg
  cases he
  simp[Region.wanted,hg]
 .rename_i j c hgd
  split at he
  case h_2=>cases he
  rename_i o' ho'
  split at he
  case h_2=>cases he
  rename_i d hd
  have hopd:∀v,dy s (.tmp d)=some v->∃u,a.tmps[d]?=some u/\VR bs v u:=λv hv=>by
   unfold dy at hv
   obtain⟨h1,h2⟩:=cm hv
   exact hg j c o' d v hgd ho' hd (iw h1) h2
  split at he
  .rename_i b' hv
   cases he
   obtain⟨u,hu,hr⟩:=hopd _ hv
   have hr':u=.bool b':=hr
   subst hr'
   simp[Region.wanted,hgd,yielded,ho',hd,hu]
   cases c <;>cases b' <;>rfl
  .rename_i x hv
   obtain⟨b',hb',rfl⟩:=eR.1 he
   obtain⟨u,hu,hr⟩:=hopd _ hv
   have hr':u=.bool (decide (N x≠0)):=hr
   rw[Bi hF hb'] at hr'
   subst hr'
   simp[Region.wanted,hgd,yielded,ho',hd,hu]
   cases c <;>cases b' <;>rfl
  .rename_i hv
   cases he
   obtain⟨u,hu,vs,hr,rfl⟩:=hopd _ hv
   cases vs with
   | cons x l=>exact hr.elim
   | nil=>simp[Region.wanted,hgd,yielded,ho',hd,hu]
  .cases he
theorem aFg (hF:ah I.F) (hS:SR bs s a n) {o:Oper} {all:List Oper} {b:Bool} (he:wanted I.F all s o.guard=some b):Region.wanted o (yielded all.toArray a.tmps)=b:=
 aFf hF (λ_ _ _ t v _ _ _ ht hv=>hS.get t v ht hv) he
theorem lO.wp {o:Oper} {R:Value->World->Prop} {Q:Exit->Act->World->Prop} {K:Act->World->Prop} (hd:lO P o a w R) (hK:∀u w',R u w'->K (a.put o.dst u) w'):o.wp P a w K Q:=by
 unfold Oper.wp
 rcases hd with ⟨u,w',h1 | ⟨h1,h2,h3⟩,hR⟩ | ⟨f,vs,h1,h2⟩
 .rw[h1]; exact hK u w' hR
 .rw[h1,Oper.upon_skip,<- h3]; exact hK u w' hR
 .rw[h1,Oper.upon_enter]
  refine h2.mono ?_
  rintro e w' ⟨u,rfl,hR⟩
  exact hK u w' hR
theorem ahf (hI:dm P I) (hC:ua P call) {all:List Oper} {Q:Exit->Act->World->Prop}:∀(l:List Oper) (s:Fr) (h:Hp) (bs:Nm) (a:Act) (w:World),ops I call n all l s h=some (s',h')->SR bs s a n->HR w bs h->(∀a' w' bs',SR bs' s' a' n->HR w' bs' h'->Mv w w' bs bs' h h'->Q .normal a' w')->wpList P all.toArray Q l a w
 | [],s,h,bs,a,w,he,hS,hR,hQ=>by
  simp only[ops,cu,Prod.mk.injEq] at he
  obtain⟨rfl,rfl⟩:=he
  exact hQ a w bs hS hR (Mv.refl _ _ _)
 | o::r,s,h,bs,a,w,he,hS,hR,hQ=>by
  simp only[ops] at he
  unfold wpList
  split at he
  .rename_i hw
   rw[if_pos (aFg hI.F hS hw)]
   split at he
   case h_2=>cases he
   rename_i v h1 hst
   split at he
   case h_2=>cases he
   rename_i s1 hp
   refine .inl ((aEC hI hC hS.env hR hst).wp ?_)
   rintro u w1 ⟨bs1,hR1,hM1,hv1⟩
   exact ahf hI hC r s1 h1 bs1 _ w1 he ((hS.mono hM1.le).put hv1 hp) hR1 λa' w' bs' hS' hR' hM'=>hQ a' w' bs' hS' hR' (hM1.trans hM')
  .rename_i hw
   rw[if_neg (by rw[aFg hI.F hS hw]; exact Bool.false_ne_true)]
   split at he
   case h_2=>cases he
   rename_i s1 hp
   exact ahf hI hC r s1 h bs _ w he (hS.put (v:=.dK []) (u:=undef) ⟨[],trivial,rfl⟩ hp) hR hQ
  .cases he
end Go.Z
namespace Go.Sym
open Go Go.RowKit
def frn {α:Type} (k:Nat->α):Nat->α
 | 0=>k 0
 | n+1=>k (n+1)
theorem aSs {α:Type} (k:Nat->α) (n:Nat):frn k n=k n:=by cases n <;>rfl
def w7 (acc:List Nat) (k:Nat):List Edge->Nat
 | []=>0
 | e::l=>bif Region.binds .any e then (2 ^ e.on ||| acc.getD (k - 1 - e.on) 0) ||| w7 acc k l else w7 acc k l
def XH:List Oper->Nat->List Nat->List Nat
 | [],_,acc=>acc
 | o::l,k,acc=>frn (λr=>XH l (k+1) (r::acc)) (w7 acc k o.after.toList)
def LK (ops:List Oper):List Nat:=XH ops 0 []
def LC (tab:List Nat) (n i j:Nat):Bool:=Nat.testBit (tab.getD (n - 1 - i) 0) j
section
variable {ops:List Oper}
theorem aku (hl:Dv ops=true):∀f g k,k < f->k < g->reach ops f k=reach ops g k
 | 0,_,_,h,_=>absurd h (CU _)
 | _+1,0,_,_,h=>absurd h (CU _)
 | f+1,g+1,k,h1,h2=>by
  show (match ops[k]? with | none=>[] | some o=>o.after.toList.flatMap λe=>if Region.binds .any e then e.on::reach ops f e.on else [])=(match ops[k]? with | none=>[] | some o=>o.after.toList.flatMap λe=>if Region.binds .any e then e.on::reach ops g e.on else [])
  cases ho:ops[k]? with
  | none=>rfl
  | some o=>
   dsimp only
   have key:∀l:List Edge,(∀e∈l,e∈o.after)->(l.flatMap λe=>if Region.binds .any e then e.on::reach ops f e.on else [])=(l.flatMap λe=>if Region.binds .any e then e.on::reach ops g e.on else []):=by
    intro l
    induction l with
    | nil=>intro _; rfl
    | cons e l ih=>
     intro hm
     rw[List.flatMap_cons,List.flatMap_cons,ih (λe he=>hm e (mt he))]
     by_cases hb:Region.binds .any e=true
     .have hlt:=Pd hl k o ho e (hm e mh) hb
      rw[if_pos hb,if_pos hb,aku hl f g e.on om om]
     .rw[if_neg hb,if_neg hb]
   exact key _ (λe he=>NU.1 he)
theorem aD9 (acc:List Nat) (k j:Nat):∀l:List Edge,(w7 acc k l).testBit j=true↔∃e∈l,Region.binds .any e=true/\(j=e.on\/(acc.getD (k - 1 - e.on) 0).testBit j=true)
 | []=>by simp[w7]
 | e::l=>by
  have ih:=aD9 acc k j l
  show (bif Region.binds .any e then (2 ^ e.on ||| acc.getD (k - 1 - e.on) 0) ||| w7 acc k l else w7 acc k l).testBit j=true↔_
  cases hb:Region.binds .any e with
  | false=>
   rw[cond_false,ih]
   constructor
   .rintro⟨e',he,h⟩; exact⟨e',mt he,h⟩
   .rintro⟨e',he,h1,h2⟩
    rcases ep.1 he with rfl | he
    .rw[hb] at h1; cases h1
    .exact⟨e',he,h1,h2⟩
  | true=>
   rw[cond_true,Nat.testBit_or,Nat.testBit_or,Nat.testBit_two_pow,dt,dt,ih,decide_eq_true_eq]
   constructor
   .rintro ((h | h) | ⟨e',he,h⟩)
    .exact⟨e,mh,hb,.inl h.symm⟩
    .exact⟨e,mh,hb,.inr h⟩
    .exact⟨e',mt he,h⟩
   .rintro⟨e',he,h1,h2⟩
    rcases ep.1 he with rfl | he
    .rcases h2 with h2 | h2
     .exact .inl (.inl h2.symm)
     .exact .inl (.inr h2)
    .exact .inr ⟨e',he,h1,h2⟩
def akz (ops:List Oper) (k:Nat) (acc:List Nat):Prop:=acc.length=k/\∀i,i < k->∀j,(acc.getD (k - 1 - i) 0).testBit j=true↔j∈reach ops (ops.length+1) i
theorem aEc (hl:Dv ops=true):∀(l:List Oper) (pre:List Oper) (acc:List Nat),ops=pre++l->akz ops pre.length acc->akz ops ops.length (XH l pre.length acc)
 | [],pre,acc,he,hg=>by
  rw[qO] at he
  rw[he] at hg ⊢
  exact hg
 | o::l,pre,acc,he,hg=>by
  show akz ops ops.length (frn (λr=>XH l (pre.length+1) (r::acc)) (w7 acc pre.length o.after.toList))
  rw[aSs]
  have h1:=aEc hl l (pre++[o]) (w7 acc pre.length o.after.toList::acc) (by rw[he]; simp) (by
   rw[eK]
   refine⟨by rw[mz,hg.1]; rfl,λi hi j=>?_⟩
   show ((w7 acc pre.length o.after.toList::acc).getD (pre.length+1 - 1 - i) 0).testBit j=true↔_
   have hi':i < pre.length+1:=hi
   by_cases h:i=pre.length
   .subst h
    rw[show pre.length+1 - 1 - pre.length=0 by omega]
    show (w7 acc pre.length o.after.toList).testBit j=true↔_
    rw[aD9]
    have ho:ops[pre.length]?=some o:=by rw[he]; simp
    have hlen:pre.length < ops.length:=by rw[he]; simp
    show _↔j∈(match ops[pre.length]? with | none=>[] | some o=>o.after.toList.flatMap λe=>if Region.binds .any e then e.on::reach ops ops.length e.on else [])
    rw[ho]
    dsimp only
    rw[ar7]
    constructor
    .rintro⟨e,hm,hb,h⟩
     have hlt:=Pd hl _ o ho e (NU.1 hm) hb
     refine⟨e,hm,?_⟩
     rw[if_pos hb]
     rcases h with h | h
     .rw[h]; exact mh
     .rw[aku hl ops.length (ops.length+1) e.on om om]
      exact mt ((hg.2 e.on hlt j).1 h)
    .rintro⟨e,hm,h⟩
     by_cases hb:Region.binds .any e=true
     .have hlt:=Pd hl _ o ho e (NU.1 hm) hb
      rw[if_pos hb] at h
      refine⟨e,hm,hb,?_⟩
      rcases ep.1 h with h | h
      .exact .inl h
      .rw[aku hl ops.length (ops.length+1) e.on om om] at h
       exact .inr ((hg.2 e.on hlt j).2 h)
     .rw[if_neg hb] at h; cases h
   .have hlt:i < pre.length:=by omega
    rw[show pre.length+1 - 1 - i=(pre.length - 1 - i)+1 by omega]
    exact hg.2 i hlt j)
  rw[eK] at h1
  exact h1
theorem a8E (hl:Dv ops=true) {i:Nat} (hi:i < ops.length) (j:Nat):(reach ops (ops.length+1) i).contains j=LC (LK ops) ops.length i j:=by
 have h:=(aEc hl ops [] [] rfl ⟨rfl,λi hi=>absurd hi (CU i)⟩).2 i hi j
 rw[arU,List.contains_iff_mem]
 exact h.symm
variable {P:Program} {Q:Exit->Act->World->Prop} {n:Nat}
end
end Go.Sym
namespace Go.Z
open Go Go.Sym Go.RowKit
open Go.Ev (T K Ex DH DF a7)
variable [bI] [Env]
variable {I:Info} {ρ ρ':jy} {h:Hp} {nid:Nat} {call:FuncId->List V->Hp->Option (V×Hp)}
def ib (ρ ρ':jy) (l:List Operand):Prop:=∀x∈l,ρ x=ρ' x
theorem ib.parts {l:List (Nat×Operand)} (hs:∀p:Nat×Operand,p∈l->ρ p.2=ρ' p.2):(l.map λ(i,x)=>(i,ρ x))=l.map λ(i,x)=>(i,ρ' x):=by
 apply J1
 rintro⟨i,x⟩ hp
 show (i,ρ x)=(i,ρ' x)
 rw[hs (i,x) hp]
theorem ib.bU {x:Option Operand} {d:X} (hs:∀y,x=some y->ρ y=ρ' y):bU ρ d x=bU ρ' d x:=by
 cases x with
 | none=>rfl
 | some y=>simp only[Z.bU]; rw[hs y rfl]
theorem ib.args {l:List Operand} (hs:ib ρ ρ' l):args ρ l=args ρ' l:=by
 induction l with
 | nil=>rfl
 | cons x l ih=>simp only[Z.args]; rw[hs x mh,ih λy hy=>hs y (mt hy)]
theorem Xn {op:Op} (hs:ib ρ ρ' op.operands.toList):pop I ρ op=pop I ρ' op:=by
 cases op with
 | move x=>exact hs x (by simp[Op.operands])
 | assign x=>exact hs x (by simp[Op.operands])
 | pick c x y=>
  simp only[pop]
  rw[hs c (by simp[Op.operands]),hs x (by simp[Op.operands]),hs y (by simp[Op.operands])]
 | build t ps=>
  simp only[pop]
  rw[ib.parts λp hp=>hs p.2 (by simp only[Op.operands,yn]; exact⟨p,hp,rfl⟩)]
 | nilCheck x=>simp only[pop]; rw[hs x (by simp[Op.operands])]
 | binOp op t x y t'=>simp only[pop]; rw[hs x (by simp[Op.operands]),hs y (by simp[Op.operands])]
 | unOp op t x=>simp only[pop]; rw[hs x (by simp[Op.operands])]
 | convert s d x=>simp only[pop]; rw[hs x (by simp[Op.operands])]
 | sliceToArrayPointer t x=>simp only[pop]; rw[hs x (by simp[Op.operands])]
 | makeFunc f first cs=>
  cases f with
  | func f=>
   obtain⟨l⟩:=first
   cases l with
   | nil=>
    simp only[pop]
    have:(cs.toList.mapM λx=>(ρ x).bind Ox)=cs.toList.mapM λx=>(ρ' x).bind Ox:=by
     have hs':ib ρ ρ' cs.toList:=λx hx=>hs x (by simpa [Op.operands] using hx)
     generalize cs.toList=l at hs'
     induction l with
     | nil=>rfl
     | cons x l ih=>simp only[N3]; rw[hs' x mh,ih λy hy=>hs' y (mt hy)]
    rw[this]
   | cons x l=>rfl
  | _=>rfl
 | slice t x lo hi mx=>
  simp only[pop]
  have hl:∀d,bU ρ d lo=bU ρ' d lo:=λd=>ib.bU λy e=>hs y (by subst e; simp[Op.operands])
  have hh:∀d,bU ρ d hi=bU ρ' d hi:=λd=>ib.bU λy e=>hs y (by subst e; simp[Op.operands])
  have hm:wt ρ mx=wt ρ' mx:=by
   cases mx with
   | none=>rfl
   | some y=>simp only[wt]; rw[hs y (by simp[Op.operands])]
  rw[hs x (by simp[Op.operands]),hm]
  simp only[hl,hh]
 | fieldAddr t x f=>simp only[pop]; rw[hs x (by simp[Op.operands])]
 | field t x f=>simp only[pop]; rw[hs x (by simp[Op.operands])]
 | indexAddr t x y=>simp only[pop]; rw[hs x (by simp[Op.operands]),hs y (by simp[Op.operands])]
 | index t x y=>simp only[pop]; rw[hs x (by simp[Op.operands]),hs y (by simp[Op.operands])]
 | extract x i=>simp only[pop]; rw[hs x (by simp[Op.operands])]
 | call c=>
  obtain⟨f,⟨xs⟩,⟨ts⟩⟩:=c
  cases f with
  | builtin b=>
   have hs':ib ρ ρ' xs:=λx hx=>hs x (by simpa [Op.operands,Call.operands] using hx)
   cases b with
   | len=>rcases xs with _ | ⟨x,_ | ⟨y,xs⟩⟩ <;>rcases ts with _ | ⟨t,_ | ⟨t',ts⟩⟩ <;>first | rfl | (simp only[pop]; rw[hs' x (by simp)])
   | cap=>rcases xs with _ | ⟨x,_ | ⟨y,xs⟩⟩ <;>rcases ts with _ | ⟨t,_ | ⟨t',ts⟩⟩ <;>first | rfl | (simp only[pop]; rw[hs' x (by simp)])
   | min=>rcases xs with _ | ⟨x,_ | ⟨y,_ | ⟨z,xs⟩⟩⟩ <;>first | rfl | (simp only[pop]; rw[hs' x (by simp),hs' y (by simp)])
   | max=>rcases xs with _ | ⟨x,_ | ⟨y,_ | ⟨z,xs⟩⟩⟩ <;>first | rfl | (simp only[pop]; rw[hs' x (by simp),hs' y (by simp)])
   | _=>rfl
  | _=>rfl
 | _=>rfl
theorem mk_congr {op:Op} (hs:ib ρ ρ' op.operands.toList):mk I ρ op=mk I ρ' op:=by
 cases op with
 | box t x=>simp only[mk]; rw[hs x (by simp[Op.operands])]
 | buildSlice t n ps=>
  simp only[mk]
  rw[ib.parts λp hp=>hs p.2 (by simp only[Op.operands,yn]; exact⟨p,hp,rfl⟩)]
 | makeSlice t l c=>simp only[mk]; rw[hs l (by simp[Op.operands]),hs c (by simp[Op.operands])]
 | _=>rfl
theorem PE {op:Op} (hs:ib ρ ρ' op.operands.toList):eE I ρ h nid op=eE I ρ' h nid op:=by
 cases op with
 | load t x=>simp only[eE]; rw[hs x (by simp[Op.operands])]
 | convert s d x=>simp only[eE]; rw[hs x (by simp[Op.operands]),Xn hs]
 | store t x y=>simp only[eE]; rw[hs x (by simp[Op.operands]),hs y (by simp[Op.operands])]
 | alloc t=>rfl
 | box t x=>simp only[eE]; rw[mk_congr hs]
 | buildSlice t n ps=>simp only[eE]; rw[mk_congr hs]
 | makeSlice t l c=>simp only[eE]; rw[mk_congr hs]
 | call c=>
  obtain⟨f,⟨xs⟩,⟨ts⟩⟩:=c
  cases f with
  | builtin b=>
   have hs':ib ρ ρ' xs:=λx hx=>hs x (by simpa [Op.operands,Call.operands] using hx)
   cases b with
   | append=>rcases xs with _ | ⟨x,_ | ⟨y,_ | ⟨z,xs⟩⟩⟩ <;>rcases ts with _ | ⟨t,_ | ⟨t',_ | ⟨t2,ts⟩⟩⟩ <;>first | rfl | (simp only[eE]; rw[hs' x (by simp),hs' y (by simp)])
   | copy=>rcases xs with _ | ⟨x,_ | ⟨y,_ | ⟨z,xs⟩⟩⟩ <;>rcases ts with _ | ⟨t,_ | ⟨t',_ | ⟨t2,ts⟩⟩⟩ <;>first | rfl | (simp only[eE]; rw[hs' x (by simp),hs' y (by simp)])
   | _=>first | rfl | (simp only[eE]; rw[Xn hs])
  | _=>rfl
 | _=>first | rfl | (simp only[eE]; rw[Xn hs])
theorem aEA {o:Oper} (hs:ib ρ ρ' o.op.operands.toList):step I call ρ h o=step I call ρ' h o:=by
 obtain⟨d0,op,ty,pos,af,g⟩:=o
 cases op with
 | call c=>
  obtain⟨f,⟨xs⟩,⟨ts⟩⟩:=c
  cases f with
  | value f=>
   have hs':ib ρ ρ' (f::xs):=λx hx=>hs x (by simpa [Op.operands,Call.operands] using hx)
   simp only[step]
   rw[hs' f mh,ib.args λx hx=>hs' x (mt hx)]
  | _=>simp only[step]; exact PE hs
 | store t x y=>
  cases d0 with
  | none=>simp only[step]; exact PE hs
  | some d=>rfl
 | _=>simp only[step]; exact PE hs
def G6 (I:Info):Op->Bool
 | .move _ | .assign _ | .pick _ _ _ | .build _ _ | .nilCheck _ | .binOp _ _ _ _ _ | .unOp _ _ _ | .sliceToArrayPointer _ _ | .makeFunc _ _ _ | .slice _ _ _ _ _ | .fieldAddr _ _ _ | .field _ _ _ | .indexAddr _ _ _ | .index _ _ _ | .extract _ _=>true
 | .convert _ d _=>match I.td d with
  | some (.int _)=>true
  | _=>false
 | .call ⟨.builtin .len,_,_⟩ | .call ⟨.builtin .cap,_,_⟩ | .call ⟨.builtin .min,_,_⟩ | .call ⟨.builtin .max,_,_⟩=>true
 | _=>false
def O8 (I:Info):Op->Bool
 | .load _ _=>true
 | .convert _ d _=>match I.td d with
  | some .string=>true
  | _=>false
 | _=>false
theorem aTw {op:Op} (hk:G6 I op=true):eE I ρ h nid op=(pop I ρ op).map (·,h):=by
 cases op with
 | convert s d x=>
  simp only[G6] at hk
  split at hk
  .rename_i k hd
   simp only[eE]
   rw[hd]
  .cases hk
 | call c=>
  obtain⟨f,⟨xs⟩,⟨ts⟩⟩:=c
  cases f with
  | builtin b=>cases b <;>first | rfl | (simp[G6] at hk)
  | _=>simp[G6] at hk
 | _=>first | rfl | (simp[G6] at hk)
end Go.Z
namespace Go.Z
open Go Go.Sym Go.RowKit
open Go.Ev (T K Ex DH DF a7 la jD sL lone qh)
variable [bI] [Env]
variable {P:Program} {I:Info} {n base:Nat} {all:List Oper} {ks0:List K} {call:FuncId->List V->Hp->Option (V×Hp)} {sF:Fr} {h:Hp}
def du:List K->Nat
 | []=>0
 | .m _::r=>du r+1
 | _::r=>du r
def uq (sF:Fr) (o:Oper) (v:V):Prop:=∀d,o.dst=some d->sF.get d=some v
def PF (I:Info) (all:List Oper) (ks0:List K) (sF:Fr) (x:Nat×Bl):Prop:=∃(i:Nat) (o:Oper) (qq:Option (X×X)),ks0[i]?=some (K.f x.1)/\all[i]?=some o/\mk I (dy sF) o.op=some (qq,x.2)
def Gs (o:Oper) (t:Nat):Prop:=Operand.tmp t∈o.op.operands.toList
def adM (all:List Oper) (s0 sF:Fr) (i:Nat) (o:Oper) (s1:Fr):Prop:=∀t,Gs o t->t < 512->((∀(k:Nat) o',all[k]?=some o'->o'.dst=some t->k < i)->s1.get t=sF.get t)/\(∀(k:Nat) o',all[k]?=some o'->o'.dst=some t->i<=k->s1.get t=s0.get t)
def F6 (I:Info) (call:FuncId->List V->Hp->Option (V×Hp)) (base:Nat) (all:List Oper) (ks0:List K) (s0 sF:Fr) (hs:List Hp) (p i:Nat) (o:Oper):K->Prop
 | .n=>(wanted I.F all sF o.guard=some true/\∃v s1 H h',hs[p]?=some H/\eE I (dy s1) H 0 o.op=some (v,h')/\uq sF o v/\adM all s0 sF i o s1)\/(wanted I.F all sF o.guard=some false/\uq sF o (.dK []))
 | .m js=>∃H Hj H' pd pd',hs[p]?=some H/\hs[p+1]?=some H'/\(∀x∈pd,PF I all ks0 sF x)/\uH base js pd H=some (pd',Hj)/\
   ((wanted I.F all sF o.guard=some true/\∃v,step I call (dy sF) Hj o=some (v,H')/\uq sF o v)\/(wanted I.F all sF o.guard=some false/\H'=Hj/\uq sF o (.dK [])))
 | .f q=>∃qq b,mk I (dy sF) o.op=some (qq,b)/\base+q < 4096/\uq sF o (yR (base+q) qq)
 | _=>(wanted I.F all sF o.guard=some true/\∃v H h',hs[p]?=some H/\eE I (dy sF) H 0 o.op=some (v,h')/\uq sF o v)\/(wanted I.F all sF o.guard=some false/\uq sF o (.dK []))
theorem F6.up {hs:List Hp} {s0:Fr} {H0:Hp} {p i:Nat} {o:Oper} {k:K} (hf:F6 I call base all ks0 s0 sF hs p i o k):F6 I call base all ks0 s0 sF (H0::hs) (p+1) i o k:=by
 cases k with
 | m js=>exact hf
 | f q=>exact hf
 | n=>exact hf
 | r lo hi=>exact hf
def NW (all:List Oper) (o:Oper) (t:Nat):Prop:=∃j b oj,o.guard=some (j,b)/\all[j]?=some oj/\oj.dst=some t
theorem a1J {s s':Fr} {l:List Operand} (hs:∀t,Operand.tmp t∈l->t < 512->s.get t=s'.get t):ib (dy s) (dy s') l:=λx hx=>by
 cases x with
 | tmp t=>
  by_cases ht:t < 512
  .simp only[dy]; rw[hs t hx ht]
  .simp only[dy]; rw[UG ht]; rfl
 | const v=>rfl
 | global g=>rfl
 | func f=>rfl
theorem a_u {s s':Fr} {g:Option (Nat×Bool)} (hs:∀t j b oj,g=some (j,b)->all[j]?=some oj->oj.dst=some t->t < 512->s.get t=s'.get t):wanted I.F all s g=wanted I.F all s' g:=by
 cases g with
 | none=>rfl
 | some p=>
  obtain⟨j,b⟩:=p
  simp only[wanted]
  cases hj:all[j]? with
  | none=>rfl
  | some oj=>
   simp only
   cases hd:oj.dst with
   | none=>rfl
   | some t=>
    simp only
    have:dy s (.tmp t)=dy s' (.tmp t):=by
     by_cases ht:t < 512
     .simp only[dy]; rw[hs t j b oj rfl hj hd ht]
     .simp only[dy]; rw[UG ht]; rfl
    rw[this]
theorem aDD {s s':Fr} {d:Option Nat} {v:V} (hn:n<=512) (hp:qk n s d v=some s'):(∀t,t < 512->d≠some t->s'.get t=s.get t)/\∀t,d=some t->t < n/\s'.get t=some v:=by
 unfold qk at hp
 cases d with
 | none=>cases hp; exact⟨λt _ _=>rfl,λt h=>nomatch h⟩
 | some d=>
  obtain⟨hb,rfl⟩:=m9 hp
  have hd:=iw hb
  refine⟨λt ht hne=>?_,λt e=>?_⟩
  .have:=T.qe 9 s d t (some v) (show d < 512 by omega) ht
   rw[show DF=9 from rfl,this,if_neg (λe=>hne (by rw[e]))]
  .cases e
   have:=T.qe 9 s d d (some v) (show d < 512 by omega) (show d < 512 by omega)
   exact⟨hd,by rw[show DF=9 from rfl,this,if_pos rfl]⟩
theorem avw {q:Nat} {b:Bl}:∀{pd:List (Nat×Bl)},look q pd=some b->(q,b)∈pd
 | [],h=>by simp[look] at h
 | (j,c)::r,h=>by
  simp only[look] at h
  cases hb:Nat.beq q j with
  | true=>
   rw[hb] at h
   cases h
   rw[beq_eq hb]
   exact mh
  | false=>rw[hb] at h; exact mt (avw h)
theorem aeN {q:Nat} {x:Nat×Bl}:∀{pd:List (Nat×Bl)},x∈drop q pd->x∈pd
 | [],h=>by simp[drop] at h
 | (j,c)::r,h=>by
  simp only[drop] at h
  cases hb:Nat.beq q j with
  | true=>rw[hb] at h; exact mt h
  | false=>
   rw[hb] at h
   rcases ep.1 h with h | h
   .rw[h]; exact mh
   .exact mt (aeN h)
theorem avg:∀{js:List Nat} {pd pd':List (Nat×Bl)} {h h':Hp},uH base js pd h=some (pd',h')->∀x∈pd',x∈pd
 | [],pd,pd',h,h',he,x,hx=>by simp only[uH,cu,Prod.mk.injEq] at he; rw[he.1]; exact hx
 | j::js,pd,pd',h,h',he,x,hx=>by
  simp only[uH] at he
  split at he
  .exact aeN (avg he x hx)
  .cases he
def Inv1 (I:Info) (call:FuncId->List V->Hp->Option (V×Hp)) (base:Nat) (all:List Oper) (s:Fr) (h h1:Hp) (pd pd1:List (Nat×Bl)) (hs hs1:List Hp) (o:Oper) (v:V):K->Prop
 | .m js=>∃Hj,uH base js pd h=some (pd1,Hj)/\hs=h::hs1/\((wanted I.F all s o.guard=some true/\step I call (dy s) Hj o=some (v,h1))\/(wanted I.F all s o.guard=some false/\v=.dK []/\h1=Hj))
 | .f q=>hs=hs1/\h1=h/\∃qq b,mk I (dy s) o.op=some (qq,b)/\base+q < 4096/\v=yR (base+q) qq/\pd1=(q,b)::pd
 | _=>hs=hs1/\h1=h/\pd1=pd/\((wanted I.F all s o.guard=some true/\∃h',eE I (dy s) h 0 o.op=some (v,h'))\/(wanted I.F all s o.guard=some false/\v=.dK []))
theorem azx {o:Oper} {r:List Oper} {k:K} {ks:List K} {s:Fr} {pd:List (Nat×Bl)} {hs:List Hp} {hF:Hp} {pF:List (Nat×Bl)} (he:jV I call n base all (o::r) (k::ks) s h pd=some (sF,hs,hF,pF)):∃s1 v h1 pd1 hs1,qk n s o.dst v=some s1/\jV I call n base all r ks s1 h1 pd1=some (sF,hs1,hF,pF)/\Inv1 I call base all s h h1 pd pd1 hs hs1 o v k:=by
 have plain:(match wanted I.F all s o.guard with
  | some true=>match eE I (dy s) h 0 o.op with
   | some (v,_)=>match qk n s o.dst v with
    | some s'=>jV I call n base all r ks s' h pd
    | none=>none
   | none=>none
  | some false=>match qk n s o.dst (.dK []) with
   | some s'=>jV I call n base all r ks s' h pd
   | none=>none
  | none=>none)=some (sF,hs,hF,pF)->∃s1 v,qk n s o.dst v=some s1/\jV I call n base all r ks s1 h pd=some (sF,hs,hF,pF)/\((wanted I.F all s o.guard=some true/\∃h',eE I (dy s) h 0 o.op=some (v,h'))\/(wanted I.F all s o.guard=some false/\v=.dK [])):=by
  intro he
  split at he
  .rename_i hw
   split at he
   .rename_i v h' h1
    split at he
    .rename_i s1 hp; exact⟨s1,v,hp,he,.inl ⟨hw,h',h1⟩⟩
    .cases he
   .cases he
  .rename_i hw
   split at he
   .rename_i s1 hp; exact⟨s1,_,hp,he,.inr ⟨hw,rfl⟩⟩
   .cases he
  .cases he
 cases k with
 | m js=>
  simp only[jV] at he
  split at he
  case h_2=>cases he
  rename_i pd' Hj hj
  split at he
  .rename_i hw
   split at he
   case h_2=>cases he
   rename_i v h1 hst
   split at he
   case h_2=>cases he
   rename_i s1 hp
   split at he
   case h_2=>cases he
   rename_i hrun
   cases he
   exact⟨s1,v,h1,pd',_,hp,hrun,Hj,hj,rfl,.inl ⟨hw,hst⟩⟩
  .rename_i hw
   split at he
   case h_2=>cases he
   rename_i s1 hp
   split at he
   case h_2=>cases he
   rename_i hrun
   cases he
   exact⟨s1,_,Hj,pd',_,hp,hrun,Hj,hj,rfl,.inr ⟨hw,rfl,rfl⟩⟩
  .cases he
 | f q=>
  simp only[jV] at he
  split at he
  case h_2=>cases he
  rename_i qq b hm
  obtain⟨hb,he⟩:=cm he
  split at he
  case h_2=>cases he
  rename_i s1 hp
  exact⟨s1,_,h,_,hs,hp,he,rfl,rfl,qq,b,hm,iw hb,rfl,rfl⟩
 | n=>
  simp only[jV] at he
  obtain⟨s1,v,h1,h2,h3⟩:=plain he
  exact⟨s1,v,h,pd,hs,h1,h2,rfl,rfl,rfl,h3⟩
 | r lo hi=>
  simp only[jV] at he
  obtain⟨s1,v,h1,h2,h3⟩:=plain he
  exact⟨s1,v,h,pd,hs,h1,h2,rfl,rfl,rfl,h3⟩
theorem WC (hn:n<=512):∀(l:List Oper) (ks:List K) (s:Fr) (h:Hp) (pd:List (Nat×Bl)) (sF:Fr) (hs:List Hp) (hF:Hp) (pF:List (Nat×Bl)),jV I call n base all l ks s h pd=some (sF,hs,hF,pF)->∀d,d < 512->(∀o∈l,o.dst≠some d)->sF.get d=s.get d
 | [],[],s,h,pd,sF,hs,hF,pF,he,d,hd,hno=>by
  simp only[jV,cu,Prod.mk.injEq] at he
  rw[he.1]
 | [],k::ks,s,h,pd,sF,hs,hF,pF,he,d,hd,hno=>by cases k <;>simp[jV] at he
 | o::r,[],s,h,pd,sF,hs,hF,pF,he,d,hd,hno=>by simp[jV] at he
 | o::r,k::ks,s,h,pd,sF,hs,hF,pF,he,d,hd,hno=>by
  obtain⟨s1,v,h1,pd1,hs1,hp,hrun,_⟩:=azx he
  rw[WC hn r ks s1 h1 pd1 sF hs1 hF pF hrun d hd λo' ho'=>hno o' (mt ho'),(aDD hn hp).1 d hd (hno o mh)]
theorem a1N (hn:n<=512) (hdst:KD n all=true) (hap:∀(i:Nat) (o:Oper),all[i]?=some o->∀t,(NW all o t\/(Gs o t/\ks0[i]?≠some .n))->∀(k:Nat) (o':Oper),all[k]?=some o'->o'.dst=some t->k < i) (s0:Fr):∀(l:List Oper) (ks:List K) (pre:List Oper) (preK:List K) (s:Fr) (h:Hp) (pd:List (Nat×Bl)) (sF:Fr) (hs:List Hp) (hF:Hp) (pF:List (Nat×Bl)),all=pre++l->ks0=preK++ks->pre.length=preK.length->jV I call n base all l ks s h pd=some (sF,hs,hF,pF)->(∀x∈pd,PF I all ks0 sF x)->(∀t,t < 512->(∀o∈pre,o.dst≠some t)->s.get t=s0.get t)->ks.length=l.length/\hs.length=du ks+1/\hs[0]?=some h/\hs[du ks]?=some hF/\(∀x∈pF,PF I all ks0 sF x)/\∀(i:Nat) o k,l[i]?=some o->ks[i]?=some k->F6 I call base all ks0 s0 sF hs (du (ks.take i)) (pre.length+i) o k:=by
 intro l
 induction l with
 | nil=>
  intro ks pre preK s h pd sF hs hF pF hall hk0 hlen he hpd hs0
  cases ks with
  | nil=>
   simp only[jV,cu,Prod.mk.injEq] at he
   obtain⟨rfl,rfl,rfl,rfl⟩:=he
   exact⟨rfl,rfl,rfl,rfl,hpd,λi o k hi=>by simp at hi⟩
  | cons k ks=>cases k <;>simp[jV] at he
 | cons o r ih=>
  intro ks pre preK s h pd sF hs hF pF hall hk0 hlen he hpd hs0
  cases ks with
  | nil=>simp[jV] at he
  | cons k ks=>
   obtain⟨s1,v,h1,pd1,hs1,hp,hrun,hinv⟩:=azx he
   have hoi:all[pre.length]?=some o:=by rw[hall]; simp
   have hki:ks0[pre.length]?=some k:=by rw[hk0,hlen]; simp
   have hall':all=(pre++[o])++r:=by rw[hall]; simp
   have hk0':ks0=(preK++[k])++ks:=by rw[hk0]; simp
   have hlen':(pre++[o]).length=(preK++[k]).length:=by rw[eK,eK,hlen]; rfl
   have hrn:∀o'∈r,∀t,o.dst=some t->o'.dst≠some t:=λo' ho' t ht ht'=>by
    obtain⟨q,hq⟩:=Ue ho'
    have h1:all[pre.length+1+q]?=some o':=by
     rw[hall',sA (by simp)]
     rw[show pre.length+1+q - (pre++[o]).length=q by simp]
     exact hq
    have:=(KE hdst _ _ _ _ _ hoi h1 ht ht').1
    omega
   have hnow:∀t,(∀(k:Nat) (o':Oper),all[k]?=some o'->o'.dst=some t->k < pre.length)->∀o'∈o::r,o'.dst≠some t:=λt hl o' ho' ht=>by
    obtain⟨q,hq⟩:=Ue ho'
    have h1:all[pre.length+q]?=some o':=by
     rw[hall,sA om,show pre.length+q - pre.length=q by omega]
     exact hq
    have:=hl _ _ h1 ht
    omega
   have f1:=WC hn _ _ _ _ _ _ _ _ _ he
   obtain⟨g1,g2⟩:=aDD hn hp
   have f2:uq sF o v:=λd hd=>by
    obtain⟨hlt,hg⟩:=g2 d hd
    rw[WC hn r ks s1 h1 pd1 sF hs1 hF pF hrun d (lP hlt hn) λo' ho'=>hrn o' ho' d hd,hg]
   have hsame:k≠.n->ib (dy s) (dy sF) o.op.operands.toList:=λhkn=>a1J λt ht hlt=>(f1 t hlt (hnow t λk' o' h1 h2=>hap _ _ hoi t (.inr ⟨ht,by rw[hki]; exact λe=>hkn (Option.some.inj e)⟩) k' o' h1 h2)).symm
   have hat:adM all s0 sF pre.length o s:=λt ht hlt=>⟨λhl=>(f1 t hlt (hnow t hl)).symm,λk' o' h1 h2 h3=>hs0 t hlt λo2 ho2 h4=>by
    obtain⟨q,hq⟩:=Ue ho2
    have hql:q < pre.length:=(k8.1 hq).1
    have h5:all[q]?=some o2:=by rw[hall,ud hql]; exact hq
    have:=(KE hdst _ _ _ _ _ h1 h5 h2 h4).1
    omega⟩
   have hwant:wanted I.F all s o.guard=wanted I.F all sF o.guard:=a_u λt j b oj hg hj hd hlt=>(f1 t hlt (hnow t (hap _ _ hoi t (.inl ⟨j,b,oj,hg,hj,hd⟩)))).symm
   have hs1':∀t,t < 512->(∀o'∈pre++[o],o'.dst≠some t)->s1.get t=s0.get t:=λt hlt hno=>by
    rw[g1 t hlt (hno o (by simp)),hs0 t hlt λo' ho'=>hno o' (CM _ ho')]
   have hpd1:∀x∈pd1,PF I all ks0 sF x:=by
    cases k with
    | m js=>obtain⟨Hj,h2,_⟩:=hinv; exact λx hx=>hpd x (avg h2 x hx)
    | f q=>
     obtain⟨_,_,qq,b,h2,_,_,_,rfl⟩:=hinv
     intro x hx
     rcases ep.1 hx with rfl | hx
     .exact⟨_,o,qq,hki,hoi,by rw[<- mk_congr (hsame (by simp))]; exact h2⟩
     .exact hpd x hx
    | n=>obtain⟨_,_,rfl,_⟩:=hinv; exact hpd
    | r lo hi=>obtain⟨_,_,rfl,_⟩:=hinv; exact hpd
   obtain⟨i1,i2,i3,i4,i6,i7⟩:=ih ks (pre++[o]) (preK++[k]) s1 h1 pd1 sF hs1 hF pF hall' hk0' hlen' hrun hpd1 hs1'
   have i8:∀(i:Nat) o' k',r[i]?=some o'->ks[i]?=some k'->F6 I call base all ks0 s0 sF hs1 (du (ks.take i)) (pre.length+(i+1)) o' k':=λi o' k' hi hk=>by
    have:=i7 i o' k' hi hk
    rwa [eK,List.length_singleton,Nat.add_assoc,Nat.add_comm 1 i] at this
   cases k with
   | m js=>
    obtain⟨Hj,h2,rfl,h3⟩:=hinv
    refine⟨by simp[i1],by simp[i2,du],rfl,by simpa [du] using i4,i6,λi o' k' hi hk=>?_⟩
    cases i with
    | zero=>
     simp at hi hk
     subst hi hk
     refine⟨h,Hj,h1,pd,pd1,rfl,by simpa [du] using i3,hpd,h2,?_⟩
     rcases h3 with ⟨hw,hst⟩ | ⟨hw,rfl,rfl⟩
     .exact .inl ⟨by rw[<- hwant]; exact hw,v,by rw[<- aEA (hsame (by simp))]; exact hst,f2⟩
     .exact .inr ⟨by rw[<- hwant]; exact hw,rfl,f2⟩
    | succ i=>
     rw[eD] at hi hk
     exact (i8 i o' k' hi hk).up
   | f q=>
    obtain⟨rfl,rfl,qq,b,h2,h3,rfl,_⟩:=hinv
    refine⟨by simp[i1],i2,i3,i4,i6,λi o' k' hi hk=>?_⟩
    cases i with
    | zero=>
     simp at hi hk
     subst hi hk
     exact⟨qq,b,by rw[<- mk_congr (hsame (by simp))]; exact h2,h3,f2⟩
    | succ i=>
     rw[eD] at hi hk
     exact i8 i o' k' hi hk
   | n=>
    obtain⟨rfl,rfl,_,h3⟩:=hinv
    refine⟨by simp[i1],i2,i3,i4,i6,λi o' k' hi hk=>?_⟩
    cases i with
    | zero=>
     simp at hi hk
     subst hi hk
     rcases h3 with ⟨hw,h',h3⟩ | ⟨hw,rfl⟩
     .exact .inl ⟨by rw[<- hwant]; exact hw,v,s,_,h',i3,h3,f2,hat⟩
     .exact .inr ⟨by rw[<- hwant]; exact hw,f2⟩
    | succ i=>
     rw[eD] at hi hk
     exact i8 i o' k' hi hk
   | r lo hi=>
    obtain⟨rfl,rfl,_,h3⟩:=hinv
    refine⟨by simp[i1],i2,i3,i4,i6,λi o' k' hi hk=>?_⟩
    cases i with
    | zero=>
     simp at hi hk
     subst hi hk
     rcases h3 with ⟨hw,h',h3⟩ | ⟨hw,rfl⟩
     .exact .inl ⟨by rw[<- hwant]; exact hw,v,_,h',i3,by rw[<- PE (hsame (by simp))]; exact h3,f2⟩
     .exact .inr ⟨by rw[<- hwant]; exact hw,f2⟩
    | succ i=>
     rw[eD] at hi hk
     exact i8 i o' k' hi hk
end Go.Z
namespace Go.Z
open Go Go.Sym Go.RowKit
open Go.Ev (T K Ex DH DF a7 la jD sL lone qh)
variable [bI] [Env]
variable {P:Program} {I:Info} {n base:Nat} {all:List Oper} {ks:List K} {call:FuncId->List V->Hp->Option (V×Hp)} {sF s:Fr} {h h0 H H1:Hp} {w w0 w1:World} {bs bs0 bs1:Nm} {a a0:Act}
def FR (w0 w:World) (bs:Nm) (H:Hp) (id:Nat) (b:Bl):Prop:=∃k,bs.b id=some k/\w0.heap.size<=k/\BR w bs id b k/\¬mA H bs k/\∀id',bs.b id'=some k->id'=id
theorem FR.move {id:Nat} {b:Bl} (hf:FR w0 w bs H id b) (hR:HR w bs H) (hid:id < H.nx) (hM:Mv w w1 bs bs1 H H1):FR w0 w1 bs1 H1 id b:=by
 obtain⟨k,h1,h2,h3,h4,h5⟩:=hf
 have hk:=(hR.fp id k h1).2
 refine⟨k,hM.le.b _ _ h1,h2,h3.mono (hM.cL k hk λo=>h4 o.a) hM.le (hM.low id hid).2 (hM.le.o _ _ h1),λho=>h4 (hM.l7 k hk ho),λid' e=>?_⟩
 rcases hM.range id' k e hk with e1 | e1
 .exact h5 id' e1
 .exact absurd e1 h4
theorem FR.other {id id2:Nat} {b b2:Bl} (hf:FR w0 w bs H id b) (hf2:FR w0 w bs H id2 b2) (hR:HR w bs H) (hne:id2≠id):FR w0 w bs (H.put id2 (some b2)) id b:=by
 obtain⟨k,h1,h2,h3,h4,h5⟩:=hf
 obtain⟨k2,g1,_⟩:=hf2
 refine⟨k,h1,h2,h3,λho=>?_,h5⟩
 rcases aht (hR.fp id2 k2 g1).1 g1 ho with e | e
 .subst e
  exact hne (h5 id2 g1)
 .exact h4 e
theorem afy:∀{js:List Nat} {pd pd':List (Nat×Bl)} {H Hj:Hp},uH base js pd H=some (pd',Hj)->js.Nodup->HR w bs H->Mv w0 w bs0 bs h0 H->(∀x∈pd,x.1∈js->FR w0 w bs H (base+x.1) x.2)->HR w bs Hj/\Mv w0 w bs0 bs h0 Hj/\Hj.nx=H.nx/\∀q b,q∉js->FR w0 w bs H (base+q) b->FR w0 w bs Hj (base+q) b
 | [],pd,pd',H,Hj,he,_,hR,hM,_=>by
  simp only[uH,cu,Prod.mk.injEq] at he
  obtain⟨rfl,rfl⟩:=he
  exact⟨hR,hM,rfl,λ_ _ _ h=>h⟩
 | j::js,pd,pd',H,Hj,he,hnd,hR,hM,hf=>by
  simp only[uH] at he
  split at he
  case h_2=>cases he
  rename_i b hb
  have hj:=hf _ (avw hb) mh
  obtain⟨k,h1,h2,h3,h4,h5⟩:=hj
  have hid:=(hR.fp _ k h1).1
  rw[CO] at hnd
  obtain⟨r1,r2,r3,r4⟩:=afy he hnd.2 (hR.join h1 h3 h4) (hM.join hid h1 h2) (λx hx hxj=>by
   have hne:j≠x.1:=λe=>hnd.1 (by rw[e]; exact hxj)
   exact (hf x (aeN hx) (mt hxj)).other (b2:=b) ⟨k,h1,h2,h3,h4,h5⟩ hR om)
  refine⟨r1,r2,r3,λq b' hq hfr=>r4 q b' (λe=>hq (mt e)) (hfr.other (b2:=b) ⟨k,h1,h2,h3,h4,h5⟩ hR ?_)⟩
  have:j≠q:=λe=>hq (by rw[e]; exact mh)
  omega
def jn:List K->Nat->Nat->Bool
 | [],_,_=>false
 | .m _::_,0,_=>false
 | .m js::r,p+1,q=>js.contains q || jn r p q
 | _::r,p,q=>jn r p q
theorem KZ:∀{ks:List K} {p q:Nat},jn ks p q=true->q∈la ks
 | [],p,q,h=>by simp[jn] at h
 | .m js::r,0,q,h=>by simp[jn] at h
 | .m js::r,p+1,q,h=>by
  simp only[jn,dt] at h
  rw[la,Gg]
  rcases h with h | h
  .exact .inl (by simpa using h)
  .exact .inr (KZ h)
 | .n::r,p,q,h=>KZ (ks:=r) h
 | .r _ _::r,p,q,h=>KZ (ks:=r) h
 | .f _::r,p,q,h=>KZ (ks:=r) h
theorem VG:∀(ks:List K) (q:Nat),jn ks 0 q=false
 | [],_=>rfl
 | .m _::_,_=>rfl
 | .n::r,q=>VG r q
 | .r _ _::r,q=>VG r q
 | .f _::r,q=>VG r q
theorem KY:∀{ks:List K} {i:Nat} {js:List Nat},(la ks).Nodup->ks[i]?=some (.m js)->js.Nodup/\∀q,jn ks (du (ks.take i)+1) q=(jn ks (du (ks.take i)) q || js.contains q)/\(q∈js->jn ks (du (ks.take i)) q=false)
 | [],i,js,_,h=>by simp at h
 | k::r,0,js,hnd,h=>by
  simp at h
  subst h
  rw[la,J2] at hnd
  refine⟨hnd.1,λq=>⟨?_,λ_=>rfl⟩⟩
  show (js.contains q || jn r 0 q)=(false || js.contains q)
  rw[VG,Bool.or_false,Bool.false_or]
 | .m js'::r,i+1,js,hnd,h=>by
  rw[eD] at h
  rw[la,J2] at hnd
  obtain⟨h1,h2⟩:=KY hnd.2.1 h
  have hmem:∀q,q∈js->q∈la r:=λq hq=>KZ (p:=du (r.take i)+1) (by rw[(h2 q).1,dt]; exact .inr (by simpa using hq))
  refine⟨h1,λq=>⟨?_,λhq=>?_⟩⟩
  .show (js'.contains q || jn r (du (r.take i)+1) q)=((js'.contains q || jn r (du (r.take i)) q) || js.contains q)
   rw[(h2 q).1,Bool.or_assoc]
  .show (js'.contains q || jn r (du (r.take i)) q)=false
   rw[(h2 q).2 hq,Bool.or_false]
   cases hb:js'.contains q with
   | false=>rfl
   | true=>exact absurd rfl (hnd.2.2 q (by simpa using hb) q (hmem q hq))
 | .n::r,i+1,js,hnd,h=>KY (ks:=r) hnd (by rwa [eD] at h)
 | .r _ _::r,i+1,js,hnd,h=>KY (ks:=r) hnd (by rwa [eD] at h)
 | .f _::r,i+1,js,hnd,h=>KY (ks:=r) hnd (by rwa [eD] at h)
theorem Kx:∀{ks:List K} {p:Nat},p < du ks->∃(i:Nat) (js:List Nat),ks[i]?=some (.m js)/\du (ks.take i)=p
 | [],p,h=>by simp[du] at h
 | .m js::r,0,h=>⟨0,js,rfl,rfl⟩
 | .m js::r,p+1,h=>by
  obtain⟨i,js',h1,h2⟩:=Kx (ks:=r) (p:=p) (by simp only[du] at h; omega)
  exact⟨i+1,js',by rw[eD]; exact h1,by simp only[asb,du,h2]⟩
 | .n::r,p,h=>by obtain⟨i,js',h1,h2⟩:=Kx (ks:=r) (p:=p) h; exact⟨i+1,js',by rw[eD]; exact h1,h2⟩
 | .r _ _::r,p,h=>by obtain⟨i,js',h1,h2⟩:=Kx (ks:=r) (p:=p) h; exact⟨i+1,js',by rw[eD]; exact h1,h2⟩
 | .f _::r,p,h=>by obtain⟨i,js',h1,h2⟩:=Kx (ks:=r) (p:=p) h; exact⟨i+1,js',by rw[eD]; exact h1,h2⟩
theorem Ky:∀{ks:List K} {i e:Nat} {js:List Nat},e < i->ks[e]?=some (.m js)->du (ks.take e) < du (ks.take i)
 | [],i,e,js,_,h=>by simp at h
 | k::r,0,e,js,hl,_=>by omega
 | k::r,i+1,0,js,_,h=>by simp at h; subst h; simp[du]
 | .m _::r,i+1,e+1,js,hl,h=>by
  rw[eD] at h
  have:=Ky (ks:=r) (i:=i) (e:=e) om h
  simp only[asb,du]; omega
 | .n::r,i+1,e+1,js,hl,h=>by rw[eD] at h; exact Ky (ks:=r) (i:=i) (e:=e) om h
 | .r _ _::r,i+1,e+1,js,hl,h=>by rw[eD] at h; exact Ky (ks:=r) (i:=i) (e:=e) om h
 | .f _::r,i+1,e+1,js,hl,h=>by rw[eD] at h; exact Ky (ks:=r) (i:=i) (e:=e) om h
end Go.Z
namespace Go.Z
open Go Go.Sym Go.RowKit
open Go.Ev (T K Ex DH DF a7 la jD sL lone qh)
variable [bI] [Env]
variable {P:Program} {I:Info} {n:Nat} {all:List Oper} {ks:List K} {call:FuncId->List V->Hp->Option (V×Hp)} {sF s:Fr} {hs:List Hp} {h h0 H:Hp} {w w0 w1:World} {bs bs0 bs1:Nm} {a:Act} {S:Nat->Bool} {i j:Nat} {o:Oper} {v:V} {u:Value}
theorem ath:∀{l l':List (Nat×Nat)},Kv l l'=true->l=l'
 | [],[],_=>rfl
 | (a,b)::r,(c,d)::t,h=>by
  simp only[Kv,ar] at h
  rw[beq_eq h.1,beq_eq h.2.1,ath h.2.2]
 | [],_::_,h=>by simp[Kv] at h
 | _::_,[],h=>by simp[Kv] at h
theorem aE4 {F:Fx} (hF:ah F) {x:X} {b:Bool} (h:X9 F x=some b):decide (N x≠0)=b:=by
 unfold X9 at h
 split at h
 .rename_i c hc; cases h; exact Bi hF hc
 .have:=Bi hF h; rwa [Ii hF] at this
theorem aQT (hF:ah I.F) {id:Nat}:∀{c c':gj},atb I.F c c'=true->(c'.told->c.told)/\∀n,CJ bs id c n->CJ bs id c' n
 | .k x,.k y,h=>⟨λ_=>trivial,λn (e:(n:Int)=N x)=>show (n:Int)=N y by rw[e,Dl hF h]⟩
 | .g,.g,_=>⟨λ_=>trivial,λ_ h=>h⟩
 | .a,.a,_=>⟨λh=>h,λ_ h=>h⟩
 | .k _,.a,_=>⟨λh=>h.elim,λ_ _=>trivial⟩
 | .g,.a,_=>⟨λh=>h.elim,λ_ _=>trivial⟩
 | .k _,.g,h=>by cases h
 | .g,.k _,h=>by cases h
 | .a,.k _,h=>by cases h
 | .a,.g,h=>by cases h
theorem UM (hF:ah I.F) {a b:C} {u:Value} (h:Ku I.F a b=true) (hu:CR bs a u):CR bs b u:=by
 unfold Ku at h
 split at h
 .rw[ar] at h
  obtain⟨h1,h2⟩:=h
  have e:=Dl hF h2
  obtain⟨e1,e2⟩:=hu
  rw[uI h1] at e1 e2
  rw[e] at e1 e2
  exact⟨e1,e2⟩
 .rw[<- eq_of_beq h]; exact hu
 .split at h
  .rename_i b hb
   show u=.bool (decide (N _≠0))
   rw[aE4 hF hb,<- eq_of_beq h]; exact hu
  .cases h
 .split at h
  .rename_i b hb
   have hu:u=.bool (decide (N _≠0)):=hu
   rw[aE4 hF hb,eq_of_beq h] at hu
   exact hu
  .cases h
 .have e:=Dl hF h
  show u=.bool (decide (N _≠0))
  rw[<- e]; exact hu
 .rw[ar] at h
  have e:=Dl hF h.1
  have e2:=atV hF h.2
  obtain⟨h1,h2,h3⟩:=hu
  refine⟨by rw[<- e]; exact h1,?_,λi hi=>?_⟩
  .rw[h2,<- e]
   congr 1
   apply J1
   intro i hi
   have:=ug.1 hi
   rw[e2 i om]
  .rw[<- e2 i om]; exact h3 i om
 .exact hu
 .simp only[ar] at h
  have e:=Dl hF h.2.2
  obtain⟨b,h1,h2,h3⟩:=hu
  rw[beq_eq h.1] at h1 h3
  rw[beq_eq h.2.1,e] at h3
  exact⟨b,h1,by rw[<- e]; exact h2,h3⟩
 .exact hu
 .simp only[ar] at h
  obtain⟨a1,a2,a3,a4,a5⟩:=h
  have e3:=Dl hF a3
  have e4:=Dl hF a4
  obtain⟨b,o,c,h1,h2,h3,h4,h5,h6⟩:=hu
  obtain⟨c1,c2⟩:=aQT (bs:=bs) hF (id:=_) a5
  rw[beq_eq a1] at h4 h5
  rw[beq_eq a2,e3] at h4
  rw[e4] at h1 h2 h3 h4
  exact⟨b,o,c,h1,h2,h3,λhh=>h4 (hh.imp (λh=>h) c1),c2 c h5,h6⟩
 .exact hu
 .rw[ar] at h; rw[<- beq_eq h.1,<- ath h.2]; exact hu
 .cases h
theorem Ij (hF:ah I.F):∀{l l':List ai} {us:List Value},qn I.F l l'=true->aS bs l us->aS bs l' us
 | [],[],_,_,h=>h
 | .c a::r,.c b::t,_,h,hu=>by
  simp only[qn,ar] at h
  obtain⟨v,ws,h1,h2,h3⟩:=hu
  exact⟨v,ws,h1,UM hF h.1 h2,Ij hF h.2 h3⟩
 | .a ks n x::r,.a ks' m y::t,_,h,hu=>by
  simp only[qn,ar] at h
  obtain⟨us,ws,h1,⟨h2,h3⟩,h4⟩:=hu
  have hk:=avi h.1
  subst hk
  have e:=Dl hF h.2.1
  have e2:=atV hF h.2.2.1
  refine⟨us,ws,h1,⟨by rw[<- e]; exact h2,λi hi=>?_⟩,Ij hF h.2.2.2 h4⟩
  rw[<- e2 i om]
  exact h3 i hi
 | [],_::_,_,h,_=>by simp[qn] at h
 | .c _::_,[],_,h,_=>by simp[qn] at h
 | .c _::_,.a _ _ _::_,_,h,_=>by simp[qn] at h
 | .a _ _ _::_,[],_,h,_=>by simp[qn] at h
 | .a _ _ _::_,.c _::_,_,h,_=>by simp[qn] at h
theorem Q2 (hF:ah I.F) {a b:V} {u:Value} (h:Ix I.F a b=true) (hu:VR bs a u):VR bs b u:=by
 unfold Ix at h
 split at h
 .exact UM hF h hu
 .obtain⟨vs,h1,h2⟩:=hu
  exact⟨vs,Ij hF h h1,h2⟩
 .cases h
theorem aDY (hF:ah I.F) {ρ:jy} {op:Op}:∀{l:List Hp},readAll I ρ op v l=true->∀H∈l,∃v' h',eE I ρ H 0 op=some (v',h')/\∀bs u,VR bs v' u->VR bs v u
 | [],_,H,hH=>by cases hH
 | H0::l,h,H,hH=>by
  simp only[readAll] at h
  split at h
  .rename_i v' h' h1
   rw[ar] at h
   rcases ep.1 hH with rfl | hH
   .exact⟨v',h',h1,λbs u hu=>Q2 hF h.1 hu⟩
   .exact aDY hF h.2 H hH
  .cases h
theorem aDZ (hF:ah I.F):∀{l:List Oper} {ks:List K},recheck I all sF hs l ks=true->∀(i:Nat) (o:Oper) (lo hi:Nat),l[i]?=some o->ks[i]?=some (.r lo hi)->wanted I.F all sF o.guard=some true->∃d v,o.dst=some d/\dy sF (.tmp d)=some v/\∀(j:Nat) H,lo<=j->j<=hi->hs[j]?=some H->∃v' h',eE I (dy sF) H 0 o.op=some (v',h')/\∀bs u,VR bs v' u->VR bs v u
 | [],ks,_,i,o,lo,hi,hi',_,_=>by simp at hi'
 | o'::l,[],_,i,o,lo,hi,_,hk,_=>by simp at hk
 | o'::l,k::ks,h,0,o,lo,hi,ho,hk,hw=>by
  simp at ho hk
  subst ho hk
  simp only[recheck] at h
  rw[hw] at h
  simp only at h
  split at h
  case h_2=>cases h
  rename_i d hd
  split at h
  case h_2=>cases h
  rename_i v hv
  rw[ar] at h
  refine⟨d,v,hd,hv,λj H h1 h2 h3=>aDY hF h.1 H ?_⟩
  refine Uh (i:=j - lo) ?_
  rw[Uf,if_pos om,Ud,show lo+(j - lo)=j by omega]
  exact h3
 | o'::l,k::ks,h,i+1,o,lo,hi,ho,hk,hw=>by
  rw[eD] at ho hk
  refine aDZ hF (l:=l) (ks:=ks) ?_ i o lo hi ho hk hw
  cases k with
  | r lo' hi'=>
   simp only[recheck] at h
   split at h
   .split at h
    case h_2=>cases h
    split at h
    case h_2=>cases h
    rw[ar] at h
    exact h.2
   .exact h
   .cases h
  | n=>exact h
  | m js=>exact h
  | f q=>exact h
theorem a8H (hI:dm P I) {ρ:jy} {h':Hp} {nid:Nat} {op:Op} (hk:O8 I op=true) (hE:ER bs ρ a) (hR:HR w bs h) (he:eE I ρ h nid op=some (v,h')):CZ P a w bs op v:=by
 cases op with
 | load t x=>exact (aDT hI hE hR he).2
 | convert t d x=>
  simp only[O8] at hk
  split at hk
  .rename_i hd
   simp only[eE,hd] at he
   obtain⟨v',h1,h2⟩:=eR.1 he
   cases h2
   exact aDU hI hE hR hd h1
  .cases hk
 | _=>simp[O8] at hk
def iZ (all:List Oper) (i k:Nat):Prop:=(reach all (all.length+1) i).contains k=true
def ava:Op->Bool
 | .alloc _=>true
 | .box _ _=>true
 | .buildSlice _ _ _=>true
 | .makeSlice _ _ _=>true
 | _=>false
structure Stat (I:Info) (n:Nat) (all:List Oper) (ks:List K):Prop where
 lex:Dv all=true
 dst:KD n all=true
 looks:∀(i:Nat) (o:Oper),all[i]?=some o->∀t,(NW all o t\/(Gs o t/\ks[i]?≠some .n))->∀(k:Nat) (o':Oper),all[k]?=some o'->o'.dst=some t->iZ all i k
 avx:∀(i:Nat) (o:Oper),all[i]?=some o->∀t,Gs o t->∀(k:Nat) (o':Oper),all[k]?=some o'->o'.dst=some t->iZ all i k\/iZ all k i\/k=i
 kn:∀(i:Nat) (o:Oper),all[i]?=some o->ks[i]?=some .n->G6 I o.op=true
 kr:∀(i:Nat) (o:Oper) lo hi,all[i]?=some o->ks[i]?=some (.r lo hi)->O8 I o.op=true/\(lo=0\/∃(e:Nat) (js:List Nat),ks[e]?=some (.m js)/\du (ks.take e)+1=lo/\iZ all i e)/\(hi=du ks\/∃(e:Nat) (js:List Nat),ks[e]?=some (.m js)/\du (ks.take e)=hi/\iZ all e i)
 km:∀(i:Nat) js,ks[i]?=some (.m js)->(∀(e:Nat) js',e < i->ks[e]?=some (.m js')->iZ all i e)/\∀q∈js,∃e,ks[e]?=some (.f q)/\iZ all i e
 kf:∀(i:Nat) (o:Oper) q,all[i]?=some o->ks[i]?=some (.f q)->q < (jD ks).length/\o.guard=none/\ava o.op=true
 uf:∀(i i':Nat) q,ks[i]?=some (.f q)->ks[i']?=some (.f q)->i=i'
 nd:(la ks++sL ks).Nodup
theorem aDX (hl:Dv all=true):∀(f k:Nat),∀j∈reach all f k,j < k
 | 0,k,j,hj=>by simp[reach] at hj
 | f+1,k,j,hj=>by
  simp only[reach] at hj
  cases hok:all[k]? with
  | none=>simp[hok] at hj
  | some ok=>
   simp only[hok,ar7] at hj
   obtain⟨e,he,hj⟩:=hj
   split at hj
   .rename_i hb
    have hlt:=Pd hl k ok hok e (NU.1 he) hb
    rcases ep.1 hj with rfl | hj
    .exact hlt
    .have:=aDX hl f e.on j hj
     omega
   .cases hj
theorem iZ.lt (hl:Dv all=true) {i k:Nat} (h:iZ all i k):k < i:=aDX hl _ _ _ (by simpa [iZ] using h)
structure DI (I:Info) (n:Nat) (all:List Oper) (ks:List K) (s sF:Fr) (hs:List Hp) (w0:World) (bs0:Nm) (h0:Hp) (S:Nat->Bool) (a:Act) (w:World) (bs:Nm) (j:Nat) (H:Hp):Prop where
 defers:a.defers=[]
 size:a.tmps.size=n
 out:∀t v,t < 512->(∀(k:Nat) o,all[k]?=some o->o.dst=some t->S k=false)->s.get t=some v->∃u,a.tmps[t]?=some u/\VR bs v u
 val:∀(i:Nat) o t v,all[i]?=some o->S i=true->o.dst=some t->sF.get t=some v->∃u,a.tmps[t]?=some u/\VR bs v u
 AZ:∀(i:Nat) js,ks[i]?=some (.m js)->(S i=true↔du (ks.take i) < j)
 hj:hs[j]?=some H
 hr:HR w bs H
 mv:Mv w0 w bs0 bs h0 H
 nx:h0.nx+(jD ks).length<=H.nx
 fl:∀(i:Nat) q o qq b,ks[i]?=some (.f q)->all[i]?=some o->mk I (dy sF) o.op=some (qq,b)->jn ks j q=false->(S i=true->FR w0 w bs H (h0.nx+q) b)/\(S i=false->bs.b (h0.nx+q)=none/\bs.c (h0.nx+q)=none)
theorem aDH {d:Option Nat} {t:Nat} (h:d≠some t):(a.put d u).tmps[t]?=a.tmps[t]?:=by
 cases d with
 | none=>rfl
 | some d=>
  simp only[Act.put,aPn]
  rw[if_neg (λe=>h (by rw[e]))]
theorem a8t {t:Nat} (ht:t < a.tmps.size):(a.put (some t) u).tmps[t]?=some u:=by
 simp[Act.put,ht]
theorem akn {d:Option Nat}:(a.put d u).tmps.size=a.tmps.size:=by cases d <;>simp[Act.put]
theorem put_defers {d:Option Nat}:(a.put d u).defers=a.defers:=by cases d <;>rfl
theorem DI.frame (hst:Stat I n all ks) (hd:DI I n all ks s sF hs w0 bs0 h0 S a w bs j H) (ho:all[i]?=some o) (hv:uq sF o v) (hr:VR bs1 v u) (hl:Le bs bs1):(∀t v,t < 512->(∀(k:Nat) o,all[k]?=some o->o.dst=some t->sN S i true k=false)->s.get t=some v->∃u',(a.put o.dst u).tmps[t]?=some u'/\VR bs1 v u')/\∀(i':Nat) o' t v',all[i']?=some o'->sN S i true i'=true->o'.dst=some t->sF.get t=some v'->∃u',(a.put o.dst u).tmps[t]?=some u'/\VR bs1 v' u':=by
 refine⟨λt v' ht hno hs'=>?_,λi' o' t v' ho' hS ht hg=>?_⟩
 .have hne:∀(k:Nat) o',all[k]?=some o'->o'.dst=some t->k≠i:=λk o' h1 h2 e=>by
   have:=hno k o' h1 h2
   rw[e,Vq] at this; cases this
  obtain⟨u',h1,h2⟩:=hd.out t v' ht (λk o' h1 h2=>by
   have:=hno k o' h1 h2
   rwa [AQ S true (hne k o' h1 h2)] at this) hs'
  exact⟨u',by rw[aDH (λe=>hne i o ho e rfl)]; exact h1,h2.mono hl⟩
 .by_cases e:i'=i
  .subst e
   have:o'=o:=Option.some.inj (ho'.symm.trans ho)
   subst this
   have htn:=(KE hst.dst _ _ _ _ _ ho ho ht ht).2
   rw[hv t ht] at hg
   cases hg
   exact⟨u,by rw[ht]; exact a8t (by rw[hd.size]; exact htn),hr⟩
  .rw[AQ S true e] at hS
   obtain⟨u',h1,h2⟩:=hd.val i' o' t v' ho' hS ht hg
   refine⟨u',?_,h2.mono hl⟩
   rw[aDH (λh=>e (KE hst.dst _ _ _ _ _ ho' ho ht h).1)]
   exact h1
theorem a1I {x:Operand} (hx:∀t v,x=.tmp t->t < 512->s.get t=some v->∃u,a.tmps[t]?=some u/\VR bs v u) (hv:dy s x=some v):VR bs v (a.eval x):=by
 cases x with
 | tmp t=>
  simp only[dy] at hv
  obtain⟨h1,h2⟩:=cm hv
  obtain⟨u,h3,h4⟩:=hx t v rfl (iw h1) h2
  have:a.eval (.tmp t)=u:=by simp[Act.eval,h3]
  rw[this]; exact h4
 | const c=>exact atz hv
 | global g=>cases hv
 | func f=>
  simp only[dy,cu] at hv
  subst hv
  exact⟨[],trivial,rfl⟩
theorem DI.env (hd:DI I n all ks s sF hs w0 bs0 h0 S a w bs j H) (hfr:∀t,t < 512->(∀(k:Nat) o,all[k]?=some o->o.dst≠some t)->sF.get t=s.get t) {t:Nat} {v:V} (hl:∀(k:Nat) o',all[k]?=some o'->o'.dst=some t->S k=true) (ht:t < 512) (hg:sF.get t=some v):∃u,a.tmps[t]?=some u/\VR bs v u:=by
 by_cases hex:∃(k:Nat) (o':Oper),all[k]?=some o'/\o'.dst=some t
 .obtain⟨k,o',h1,h2⟩:=hex
  exact hd.val k o' t v h1 (hl k o' h1 h2) h2 hg
 .have hno:∀(k:Nat) o,all[k]?=some o->o.dst≠some t:=λk o' h1 h2=>hex ⟨k,o',h1,h2⟩
  exact hd.out t v ht (λk o' h1 h2=>absurd h2 (hno k o' h1)) (by rw[<- hfr t ht hno]; exact hg)
theorem ayu {l:List Operand} {s1:Fr} (hat:∀t v,Operand.tmp t∈l->t < 512->s1.get t=some v->∃u,a.tmps[t]?=some u/\VR bs v u):∃ρ:jy,ib (dy s1) ρ l/\ER bs ρ a:=by
 refine⟨λx=>@ite _ (x∈l) (Classical.propDecidable _) (dy s1 x) none,λx hx=>(if_pos hx).symm,λx v hx=>?_⟩
 have hx:@ite _ (x∈l) (Classical.propDecidable _) (dy s1 x) none=some v:=hx
 by_cases hm:x∈l
 .rw[if_pos hm] at hx
  exact a1I (λt v e ht hg=>hat t v (by rw[<- e]; exact hm) ht hg) hx
 .rw[if_neg hm] at hx; cases hx
theorem DI.a_v (hF:ah I.F) (hst:Stat I n all ks) (hd:DI I n all ks s sF hs w0 bs0 h0 S a w bs j H) (hfr:∀t,t < 512->(∀(k:Nat) o,all[k]?=some o->o.dst≠some t)->sF.get t=s.get t) (ho:all[i]?=some o) (hp:∀k,iZ all i k->S k=true):∀b,wanted I.F all sF o.guard=some b->Region.wanted o (yielded all.toArray a.tmps)=b:=λ_ hb=>
 aFf hF (λj c oj t _ hg hj hd' ht hv=>hd.env hfr (λk o' h1 h2=>hp k (hst.looks i o ho t (.inl ⟨j,c,oj,hg,hj,hd'⟩) k o' h1 h2)) ht hv) hb
theorem DI.look (hst:Stat I n all ks) (hd:DI I n all ks s sF hs w0 bs0 h0 S a w bs j H) (hfr:∀t,t < 512->(∀(k:Nat) o,all[k]?=some o->o.dst≠some t)->sF.get t=s.get t) (ho:all[i]?=some o) (hk:ks[i]?≠some .n) (hp:∀k,iZ all i k->S k=true):∃ρ:jy,ib (dy sF) ρ o.op.operands.toList/\ER bs ρ a:=
 ayu λt _ hl ht hg=>hd.env hfr (λk o' h1 h2=>hp k (hst.looks i o ho t (.inr ⟨hl,hk⟩) k o' h1 h2)) ht hg
theorem DI.aUn (hst:Stat I n all ks) (hd:DI I n all ks s sF hs w0 bs0 h0 S a w bs j H) (hfr:∀t,t < 512->(∀(k:Nat) o,all[k]?=some o->o.dst≠some t)->sF.get t=s.get t) (ho:all[i]?=some o) (hp:∀k,iZ all i k->S k=true) (hno:∀e,iZ all e i->S e=false) (hS:S i=false) {s1:Fr} (hat:adM all s sF i o s1):∃ρ:jy,ib (dy s1) ρ o.op.operands.toList/\ER bs ρ a:=by
 refine ayu λt v hl ht hg=>?_
 obtain⟨a1,a2⟩:=hat t hl ht
 by_cases hex:∃(k:Nat) (o':Oper),all[k]?=some o'/\o'.dst=some t/\i<=k
 .obtain⟨k,o',h1,h2,h3⟩:=hex
  rw[a2 k o' h1 h2 h3] at hg
  refine hd.out t v ht (λk' o2 h4 h5=>?_) hg
  have hkk:=(KE hst.dst _ _ _ _ _ h1 h4 h2 h5).1
  subst hkk
  rcases hst.avx i o ho t hl k o' h1 h2 with h6 | h6 | h6
  .have:=iZ.lt hst.lex h6; omega
  .exact hno k h6
  .rw[h6]; exact hS
 .have hlt:∀(k:Nat) o',all[k]?=some o'->o'.dst=some t->k < i:=λk o' h1 h2=>by
   rcases Ao k i with h | h
   .exact h
   .exact absurd ⟨k,o',h1,h2,h⟩ hex
  rw[a1 hlt] at hg
  refine hd.env hfr (λk o' h1 h2=>?_) ht hg
  rcases hst.avx i o ho t hl k o' h1 h2 with h6 | h6 | h6
  .exact hp k h6
  .have:=iZ.lt hst.lex h6
   have:=hlt k o' h1 h2
   omega
  .have:=hlt k o' h1 h2; omega
end Go.Z
namespace Go.Z
open Go Go.Sym Go.RowKit
open Go.Ev (T K Ex DH DF a7 la jD sL lone qh)
variable [bI] [Env]
variable {P:Program} {I:Info} {n:Nat} {all:List Oper} {ks:List K} {call:FuncId->List V->Hp->Option (V×Hp)} {sF s:Fr} {hs:List Hp} {h h0 H:Hp} {w w0 w1:World} {bs bs0 bs1:Nm} {a:Act} {S:Nat->Bool} {i j:Nat} {o:Oper} {v:V} {u:Value}
theorem lO.mono {R R':Value->World->Prop} (hd:lO P o a w R) (hr:∀u w',R u w'->R' u w'):lO P o a w R':=by
 rcases hd with ⟨u,w',h1,h2⟩ | ⟨f,vs,h1,h2⟩
 .exact .inl ⟨u,w',h1,hr _ _ h2⟩
 .exact .inr ⟨f,vs,h1,h2.mono λe w' ⟨u,h3,h4⟩=>⟨u,h3,hr _ _ h4⟩⟩
theorem CZ.atI {o:Oper} {R:Value->World->Prop} (hp:CZ P a w bs o.op v) (hr:∀u,VR bs v u->R u w):lO P o a w R:=by
 obtain⟨d,op,ty,pos,af,g⟩:=o
 obtain⟨u,h1,h2⟩:=hp d ty pos af g
 exact .inl ⟨u,w,.inl h1,hr u h2⟩
theorem ali:VR bs (.dK []) undef:=⟨[],trivial,rfl⟩
theorem DI.still (hst:Stat I n all ks) (hd:DI I n all ks s sF hs w0 bs0 h0 S a w bs j H) (ho:all[i]?=some o) (hk:∀js,ks[i]?≠some (.m js)) (hk':∀q,ks[i]?≠some (.f q)) (hv:uq sF o v) (hr:VR bs v u):DI I n all ks s sF hs w0 bs0 h0 (sN S i true) (a.put o.dst u) w bs j H:=by
 obtain⟨f1,f2⟩:=hd.frame hst ho hv hr (Le.refl _)
 refine⟨by rw[put_defers]; exact hd.defers,by rw[akn]; exact hd.size,f1,f2,λi' js h1=>?_,hd.hj,hd.hr,hd.mv,hd.nx,λi' q o' qq b h1 h2 h3 h4=>?_⟩
 .have e:i'≠i:=λe=>hk js (by rw[<- e]; exact h1)
  rw[AQ S true e]; exact hd.AZ i' js h1
 .have e:i'≠i:=λe=>hk' q (by rw[<- e]; exact h1)
  rw[AQ S true e]; exact hd.fl i' q o' qq b h1 h2 h3 h4
theorem Stat.ndJ (hst:Stat I n all ks):(la ks).Nodup:=(J2.1 hst.nd).1
theorem DI.aTm (hst:Stat I n all ks) (hd:DI I n all ks s sF hs w0 bs0 h0 S a w bs j H) {js:List Nat} (hk:ks[i]?=some (.m js)) (hj:du (ks.take i)=j) {Hj:Hp} {pd pd':List (Nat×Bl)} (hpd:∀x∈pd,PF I all ks sF x) (hjo:uH h0.nx js pd H=some (pd',Hj)) (hall:∀e,iZ all i e->S e=true):HR w bs Hj/\Mv w0 w bs0 bs h0 Hj/\Hj.nx=H.nx/\∀q b,q∉js->FR w0 w bs H (h0.nx+q) b->FR w0 w bs Hj (h0.nx+q) b:=by
 obtain⟨n1,n2⟩:=KY hst.ndJ hk
 refine afy hjo n1 hd.hr hd.mv (λx hx hxj=>?_)
 obtain⟨e,oe,qq,h1,h2,h3⟩:=hpd x hx
 obtain⟨e',h4,h5⟩:=(hst.km i js hk).2 x.1 hxj
 have he:=hst.uf _ _ _ h4 h1
 subst he
 exact (hd.fl _ _ _ _ _ h1 h2 h3 (by rw[<- hj]; exact (n2 x.1).2 hxj)).1 (hall _ h5)
theorem DI.main (hst:Stat I n all ks) (hd:DI I n all ks s sF hs w0 bs0 h0 S a w bs j H) (ho:all[i]?=some o) {js:List Nat} (hk:ks[i]?=some (.m js)) (hj:du (ks.take i)=j) (hv:uq sF o v) (hr:VR bs1 v u) {Hj H':Hp} (hJ:HR w bs Hj/\Mv w0 w bs0 bs h0 Hj/\Hj.nx=H.nx/\∀q b,q∉js->FR w0 w bs H (h0.nx+q) b->FR w0 w bs Hj (h0.nx+q) b) (hH:hs[j+1]?=some H') (hR:HR w1 bs1 H') (hM:Mv w w1 bs bs1 Hj H'):DI I n all ks s sF hs w0 bs0 h0 (sN S i true) (a.put o.dst u) w1 bs1 (j+1) H':=by
 obtain⟨j1,j2,j3,j4⟩:=hJ
 obtain⟨n1,n2⟩:=KY hst.ndJ hk
 rw[hj] at n2
 obtain⟨f1,f2⟩:=hd.frame hst ho hv hr hM.le
 have hnx:=hd.nx
 refine⟨by rw[put_defers]; exact hd.defers,by rw[akn]; exact hd.size,f1,f2,λi' js' h1=>?_,hH,hR,j2.trans hM,by have:=hM.nx; omega,λi' q o' qq b h1 h2 h3 h4=>?_⟩
 .by_cases e:i'=i
  .subst e
   rw[Vq]
   exact⟨λ_=>by omega,λ_=>rfl⟩
  .rw[AQ S true e,hd.AZ i' js' h1]
   have hne:du (ks.take i')≠j:=by
    rcases Nat.lt_or_gt_of_ne e with hlt | hlt
    .have:=Ky hlt h1; omega
    .have:=Ky hlt hk; omega
   omega
 .have e:i'≠i:=λe=>by rw[e,hk] at h1; cases h1
  rw[AQ S true e]
  have hqn:=(hst.kf i' o' q h2 h1).1
  have hjn:=(n2 q).1
  rw[h4] at hjn
  have hjn:=hjn.symm
  rw[Bool.or_eq_false_iff] at hjn
  have hq:q∉js:=λhq=>by have:=hjn.2; rw[List.contains_eq_mem,decide_eq_false_iff_not] at this; exact this hq
  obtain⟨g1,g2⟩:=hd.fl i' q o' qq b h1 h2 h3 hjn.1
  have hlt:h0.nx+q < Hj.nx:=by omega
  refine⟨λhS=>(j4 q b hq (g1 hS)).move j1 hlt hM,λhS=>?_⟩
  obtain⟨l1,l2⟩:=hM.low _ hlt
  rw[l1,l2]
  exact g2 hS
theorem O7:∀{ks:List K} {p q:Nat},jn ks p q=true->∃(e:Nat) (js:List Nat),ks[e]?=some (.m js)/\du (ks.take e) < p/\q∈js
 | [],p,q,h=>by simp[jn] at h
 | .m js::r,0,q,h=>by simp[jn] at h
 | .m js::r,p+1,q,h=>by
  simp only[jn,dt] at h
  rcases h with h | h
  .exact⟨0,js,rfl,Uq _,by simpa using h⟩
  .obtain⟨e,js',h1,h2,h3⟩:=O7 h
   exact⟨e+1,js',by rw[eD]; exact h1,by simp only[asb,du]; omega,h3⟩
 | .n::r,p,q,h=>by obtain⟨e,js',h1,h2,h3⟩:=O7 (ks:=r) h; exact⟨e+1,js',by rw[eD]; exact h1,h2,h3⟩
 | .r _ _::r,p,q,h=>by obtain⟨e,js',h1,h2,h3⟩:=O7 (ks:=r) h; exact⟨e+1,js',by rw[eD]; exact h1,h2,h3⟩
 | .f _::r,p,q,h=>by obtain⟨e,js',h1,h2,h3⟩:=O7 (ks:=r) h; exact⟨e+1,js',by rw[eD]; exact h1,h2,h3⟩
theorem DI.flt (hst:Stat I n all ks) (hd:DI I n all ks s sF hs w0 bs0 h0 S a w bs j H) (ho:all[i]?=some o) {q:Nat} (hk:ks[i]?=some (.f q)) (hS:S i=false) (hno:∀e,iZ all e i->S e=false) {qq:Option (X×X)} {b:Bl} (hm:Go.Z.mk I (dy sF) o.op=some (qq,b)) (hid:h0.nx+q < 4096) (hv:uq sF o (yR (h0.nx+q) qq)) {cs:List Value} {uu:Option (Nat×Nat)} (htr:aS bs b.ss cs) (hq:QR qq uu):DI I n all ks s sF hs w0 bs0 h0 (sN S i true) (a.put o.dst (DB w.heap.size uu)) (w.alloc (.cells cs.toArray b.t (0,0))) (iO bs (h0.nx+q) w.heap.size none) j H:=by
 have hqn:=(hst.kf i o q ho hk).1
 have hjn:jn ks j q=false:=by
  cases hb:jn ks j q with
  | false=>rfl
  | true=>
   obtain⟨e,js,h1,h2,h3⟩:=O7 hb
   obtain⟨e',h4,h5⟩:=(hst.km e js h1).2 q h3
   have:=hst.uf _ _ _ h4 hk
   subst this
   have h6:=hno e h5
   rw[(hd.AZ e js h1).2 h2] at h6
   cases h6
 obtain⟨hnb,hnc⟩:=(hd.fl i q o qq b hk ho hm hjn).2 hS
 have hnx:=hd.nx
 have hle:=DE (k:=w.heap.size) (q:=none) hnb hnc
 have hE:=aed w cs b.t
 obtain⟨hg,hlt⟩:=aee w cs b.t
 have hR':HR (w.alloc (.cells cs.toArray b.t (0,0))) (iO bs (h0.nx+q) w.heap.size none) H:=hd.hr.named hid hnb hnc om hE hlt
 have hgone:=hd.hr.gone hid hnb
 have hownW:∀k,k9 H (iO bs (h0.nx+q) w.heap.size none) k->k9 H bs k:=λk ⟨i',c,hi,hc,hb,hx⟩=>by
  have hne:i'≠h0.nx+q:=λe=>by rw[e,hgone] at hc; cases hc
  rw[kD hne] at hb
  exact⟨i',c,hi,hc,hb,hx⟩
 have hown:∀k,mA H (iO bs (h0.nx+q) w.heap.size none) k->mA H bs k:=λk ⟨i',c,hi,hc,hb⟩=>by
  have hne:i'≠h0.nx+q:=λe=>by rw[e,hgone] at hc; cases hc
  rw[kD hne] at hb
  exact⟨i',c,hi,hc,hb⟩
 have hsz:=hd.mv.size
 obtain⟨f1,f2⟩:=hd.frame hst ho hv (ayv (id:=h0.nx+q) (k:=w.heap.size) (c:=none) (bs:=bs) hq) hle
 have hownlt:∀k,mA H bs k->k < w.heap.size:=λk ⟨i',c,hi,hc,hb⟩=>(hd.hr.fp i' k hb).2
 refine⟨by rw[put_defers]; exact hd.defers,by rw[akn]; exact hd.size,f1,f2,λi' js h1=>?_,hd.hj,hR',?_,hd.nx,λi' q' o' qq' b' h1 h2 h3 h4=>?_⟩
 .have e:i'≠i:=λe=>by rw[e,hk] at h1; cases h1
  rw[AQ S true e]; exact hd.AZ i' js h1
 .have hm0:=hd.mv
  refine⟨hE.os.trans hm0.os,hE.tape.trans hm0.tape,hE.output.trans hm0.output,An hm0.size hE.size,hm0.le.trans hle,hm0.nx,λid hid'=>?_,λk hk' hn'=>?_,λk hk' ho'=>hm0.own k hk' (hownW k ho'),λk hk' ho'=>hm0.l7 k hk' (hown k ho'),λid k hb hk'=>?_⟩
  .obtain⟨l1,l2⟩:=hm0.low id hid'
   rw[kD om,A2 om]; exact⟨l1,l2⟩
  .rw[hE.cL k om]; exact hm0.cL k hk' hn'
  .by_cases e:id=h0.nx+q
   .rw[e,ov] at hb; cases hb; omega
   .rw[kD e] at hb; exact hm0.range id k hb hk'
 .by_cases e:i'=i
  .subst e
   rw[Vq]
   rw[hk] at h1; cases h1
   have:o'=o:=Option.some.inj (h2.symm.trans ho)
   subst this
   rw[hm] at h3
   cases h3
   refine⟨λ_=>⟨w.heap.size,ov,hsz,ayw (bs:=bs) hg rfl htr hle,λho'=>?_,λid' hb=>?_⟩,λh=>nomatch h⟩
   .have:=hownlt _ (hown _ ho'); omega
   .by_cases e:id'=h0.nx+q
    .exact e
    .rw[kD e] at hb; have:=(hd.hr.fp id' _ hb).2; omega
  .rw[AQ S true e]
   have hqq:q'≠q:=λe2=>e (hst.uf _ _ _ h1 (by rw[e2]; exact hk))
   have hidn:h0.nx+q'≠h0.nx+q:=by omega
   obtain⟨g1,g2⟩:=hd.fl i' q' o' qq' b' h1 h2 h3 h4
   refine⟨λhS'=>?_,λhS'=>by rw[kD hidn,A2 hidn]; exact g2 hS'⟩
   obtain⟨k,k1,k2,k3,k4,k5⟩:=g1 hS'
   have hklt:=(hd.hr.fp _ k k1).2
   refine⟨k,by rw[kD hidn]; exact k1,k2,k3.mono (hE.cL k hklt) hle (A2 hidn) (ag5 hidn),λho'=>k4 (hown k ho'),λid' hb=>?_⟩
   by_cases e2:id'=h0.nx+q
   .rw[e2,ov] at hb; cases hb; omega
   .rw[kD e2] at hb; exact k5 id' hb
end Go.Z
