import Derived.Test.YtgmieahcpkcabaaGreatBq1
import Derived.Laws.Pointers
import Derived.Laws.Strings2
import Derived.Laws.Concat
import Derived.Laws.BytesArg
import Derived.Laws.IdiomStrings
import Derived.Lib.SliceRun
import Derived.WalkSpells
import Derived.Laws.Cover3
set_option maxRecDepth 100000
set_option linter.unusedSimpArgs false
set_option linter.unusedVariables false
set_option linter.constructorNameAsVariable false
set_option linter.unusedSectionVars false
noncomputable section
namespace Go.Sym
open Go Go.RowKit
section
variable {P:Program} {Q:Exit->Act->World->Prop} {a:Act} {w w0:World} {n:Nat} {E:Nat->Option Value} {L:List dC} {ops:Array Oper} {rest:List Oper}
variable {dst:Option Nat} {ty:TypeId} {pos:String} {af:Array Edge} {g:Option (Nat×Bool)}
end
end Go.Sym
namespace Go.Sym
open Go Go.RowKit
def sN {α:Type} (V:Nat->α) (i:Nat) (v:α):Nat->α:=λj=>bif Nat.beq j i then v else V j
theorem Vq {α:Type} (V:Nat->α) (i:Nat) (v:α):sN V i v i=v:=by unfold sN; rw[Ol]; rfl
theorem AQ {α:Type} (V:Nat->α) {i j:Nat} (v:α) (h:j≠i):sN V i v j=V j:=by unfold sN; rw[aQe h]; rfl
section
variable {P:Program} {Q:Exit->Act->World->Prop} {n:Nat} {ops:List Oper}
end
section
variable {P:Program} {ops:List Oper} {n:Nat} {o:Oper} {a:Act} {w w0:World} {R:Value->List dC->World->Prop} {E:Nat->Option Value} {v:Value}
variable {dst:Option Nat} {ty:TypeId} {pos:String} {af:Array Edge} {g:Option (Nat×Bool)}
end
end Go.Sym
namespace Go.Sym
open Go Go.RowKit
section
variable {P:Program} {Q:Exit->Act->World->Prop} {n:Nat} {ops:List Oper}
end
section
variable {P:Program} {Q:Exit->Act->World->Prop} {n:Nat} {ops:List Oper}
variable {a:Act} {w w0:World} {E:Nat->Option Value} {L:List dC}
variable {ty:TypeId} {pos:String} {af:Array Edge}
end
end Go.Sym
namespace Go.Sym
open Go Go.RowKit
section
variable {P:Program} {Q:Exit->Act->World->Prop} {n:Nat} {ops:List Oper}
end
section
variable {P:Program} {ops:List Oper} {n:Nat} {o:Oper} {a:Act} {w w0:World} {R:Value->World->Prop} {E:Nat->Option Value} {v:Value} {L:List dC}
variable {dst:Option Nat} {ty:TypeId} {pos:String} {af:Array Edge} {g:Option (Nat×Bool)}
end
section
variable {w w' w0:World} {p q i:Nat} {T:TypeId} {z s:List Value} {L:List dC} {S:Nat->Bool} {V:Nat->Value} {v:Value}
end
end Go.Sym
namespace Go.Sym
open Go Go.RowKit
section
variable {P:Program} {Q:Exit->Act->World->Prop} {a:Act} {w w0:World} {n:Nat} {E:Nat->Option Value} {L:List dC} {ops:Array Oper} {rest:List Oper}
variable {ty:TypeId} {pos:String} {af:Array Edge}
theorem Mem.start {b:Nat} {t:TypeId} {cs:List Value} (h:w.heap[b]?=some (.cells cs.toArray t (0,0))):Mem w w [⟨b,t,cs⟩]:=
 ⟨rfl,rfl,rfl,fv _,λ_ _ _=>rfl,λe he=>by simp only[uh] at he; subst he; exact h,by simp⟩
theorem as4 {b:Nat} {o:Obj} (h:w.heap[b]?=some o):b < w.heap.size:=(T0.1 h).1
variable {opl:List Oper} {R:Value->List dC->World->Prop} {dst:Option Nat}
end
end Go.Sym
namespace Go.Sym
open Go Go.RowKit
section
variable {P:Program} {Q:Exit->Act->World->Prop} {a:Act} {w w0:World} {n:Nat} {E:Nat->Option Value} {L Lx:List dC} {ops:Array Oper} {rest:List Oper}
variable {dst:Option Nat} {ty:TypeId} {pos:String} {af:Array Edge} {g:Option (Nat×Bool)}
variable {opl:List Oper} {R:Value->List dC->World->Prop}
end
end Go.Sym
namespace Go.Sym
open Go Go.RowKit
def SV (l:List UInt8):Value:=.string ⟨l.toArray⟩
section
variable {P:Program} {Q:Exit->Act->World->Prop} {a:Act} {w w0:World} {n:Nat} {E:Nat->Option Value} {L Lx:List dC} {ops:Array Oper} {rest:List Oper}
variable {dst:Option Nat} {ty:TypeId} {pos:String} {af:Array Edge} {g:Option (Nat×Bool)}
variable {opl:List Oper} {R:Value->List dC->World->Prop}
end
end Go.Sym
namespace Go.Ev
open Go Go.Sym Go.RowKit
theorem T.qd {α:Type} (a:α) (i:Nat):(T.lf a).get i=a:=rfl
theorem aeB {α:Type} (i:Nat) (x y:α):cond (Nat.beq (Nat.mod i 2) 0) x y=if i % 2=0 then x else y:=by
 have h:Nat.mod i 2=i % 2:=rfl
 rw[h]
 by_cases h:i % 2=0
 .rw[if_pos h,h]; rfl
 .rw[if_neg h,show i % 2=1 by omega]; rfl
theorem T.KO {α:Type} (l r:T α) (i:Nat):(T.nd l r).get i=if i % 2=0 then l.get (i / 2) else r.get (i / 2):=aeB i _ _
theorem T.a9j {α:Type} (t:T α) (i:Nat) (a:α):T.set 0 t i a=.lf a:=rfl
theorem T.a9h {α:Type} (d:Nat) (b:α) (i:Nat) (a:α):T.set (d+1) (.lf b) i a=if i % 2=0 then .nd (T.set d (.lf b) (i / 2) a) (.lf b) else .nd (.lf b) (T.set d (.lf b) (i / 2) a):=aeB i _ _
theorem T.a9i {α:Type} (d:Nat) (l r:T α) (i:Nat) (a:α):T.set (d+1) (.nd l r) i a=if i % 2=0 then .nd (T.set d l (i / 2) a) r else .nd l (T.set d r (i / 2) a):=aeB i _ _
theorem T.qe {α:Type}:∀(d:Nat) (t:T α) (i j:Nat) (a:α),i < 2 ^ d->j < 2 ^ d->(T.set d t i a).get j=if j=i then a else t.get j
 | 0,t,i,j,a,hi,hj=>by
  rw[wj] at hi hj
  rw[T.a9j,T.qd,if_pos om]
 | d+1,.lf b,i,j,a,hi,hj=>by
  rw[yv] at hi hj
  rw[T.a9h]
  by_cases h:i % 2=0
  .rw[if_pos h,T.KO]
   by_cases h2:j % 2=0
   .rw[if_pos h2,T.qe d _ _ _ _ om om,T.qd,T.qd]
    by_cases e:j=i
    .rw[if_pos e,if_pos (by rw[e])]
    .rw[if_neg e,if_neg om]
   .rw[if_neg h2,T.qd,T.qd,if_neg om]
  .rw[if_neg h,T.KO]
   by_cases h2:j % 2=0
   .rw[if_pos h2,T.qd,T.qd,if_neg om]
   .rw[if_neg h2,T.qe d _ _ _ _ om om,T.qd,T.qd]
    by_cases e:j=i
    .rw[if_pos e,if_pos (by rw[e])]
    .rw[if_neg e,if_neg om]
 | d+1,.nd l r,i,j,a,hi,hj=>by
  rw[yv] at hi hj
  rw[T.a9i]
  by_cases h:i % 2=0
  .rw[if_pos h,T.KO,T.KO]
   by_cases h2:j % 2=0
   .rw[if_pos h2,if_pos h2,T.qe d _ _ _ _ om om]
    by_cases e:j=i
    .rw[if_pos e,if_pos (by rw[e])]
    .rw[if_neg e,if_neg om]
   .rw[if_neg h2,if_neg h2,if_neg om]
  .rw[if_neg h,T.KO,T.KO]
   by_cases h2:j % 2=0
   .rw[if_pos h2,if_pos h2,if_neg om]
   .rw[if_neg h2,if_neg h2,T.qe d _ _ _ _ om om]
    by_cases e:j=i
    .rw[if_pos e,if_pos (by rw[e])]
    .rw[if_neg e,if_neg om]
end Go.Ev
namespace Go.Z
open Go Go.Sym Go.RowKit
open Go.Ev (T K Ex DH DF)
structure Nm where
 b:Nat->Option Nat
 c:Nat->Option Nat
 o:Nat->Nat
def Nm.no:Nm:=⟨λ_=>none,λ_=>none,λ_=>0⟩
def uw (bs:Nm):List (Nat×Nat)->List Value->Prop
 | [],[]=>True
 | (id,off)::r,v::vs=>(∃b,bs.b id=some b/\v=.pointer (some ⟨b,bs.o id+off,none⟩))/\uw bs r vs
 | _,_=>False
structure Le (bs bs':Nm):Prop where
 b:∀id k,bs.b id=some k->bs'.b id=some k
 c:∀id k,bs.c id=some k->bs'.c id=some k
 o:∀id k,bs.b id=some k->bs'.o id=bs.o id
theorem Le.refl (bs:Nm):Le bs bs:=⟨λ_ _ h=>h,λ_ _ h=>h,λ_ _ _=>rfl⟩
theorem Le.trans {a b c:Nm} (h:Le a b) (h':Le b c):Le a c:=⟨λid k e=>h'.b id k (h.b id k e),λid k e=>h'.c id k (h.c id k e),λid k e=>(h'.o id k (h.b id k e)).trans (h.o id k e)⟩
theorem Le.bot (bs:Nm):Le Nm.no bs:=⟨λ_ _ h=>(nomatch h),λ_ _ h=>(nomatch h),λ_ _ h=>(nomatch h)⟩
variable [bI] [Env] {F:Fx} {bs bs':Nm}
def Ke (n x:X) (v:Value):Prop:=0<=N n/\v=SV ((List.range (N n).toNat).map λi=>UInt8.ofNat (D x i).toNat)/\∀i:Nat,(i:Int) < N n->0<=D x i/\D x i < 256
def gj.told:gj->Prop
 | .a=>False
 | _=>True
def CJ (bs:Nm) (id:Nat):gj->Nat->Prop
 | .k x,c=>(c:Int)=N x
 | .g,c=>bs.c id=some c
 | .a,_=>True
def CR (bs:Nm):C->Value->Prop
 | .int k x,v=>v=.int k (N x)/\gu k (N x)
 | .bool b,v=>v=.bool b
 | .bx x,v=>v=.bool (decide (N x≠0))
 | .str n x,v=>Ke n x v
 | .db,v=>v=.pointer none
 | .ptr id off e,v=>∃b,bs.b id=some b/\0<=N e/\v=.pointer (some ⟨b,bs.o id+(off+(N e).toNat),none⟩)
 | .cT,v=>v=.slice none 0 0
 | .sl id off e len cap,v=>∃b o c,v=.slice (some ⟨b,o,none⟩) (N len).toNat c/\0<=N len/\(N len).toNat<=c/\(0 < N len\/cap.told->bs.b id=some b/\0<=N e/\o=bs.o id+(off+(N e).toNat))/\CJ bs id cap c/\c < 9223372036854775808
 | .yV,v=>v=.nilFunc
 | .fn f caps,v=>∃vs:List Value,uw bs caps vs/\v=.func (.func f) #[] vs.toArray
def Uv (ks:List IntKind) (p:Nat) (x:X) (us:List Value):Prop:=∀i,i < us.length->∃k,ks[(p+i) % ks.length]?=some k/\us[i]?=some (.int k (D x i))/\gu k (D x i)
def t9 (ks:List IntKind) (n x:X) (us:List Value):Prop:=(us.length:Int)=N n/\Uv ks 0 x us
def aS (bs:Nm):List ai->List Value->Prop
 | [],vs=>vs=[]
 | .c c::r,vs=>∃v ws,vs=v::ws/\CR bs c v/\aS bs r ws
 | .a ks n x::r,vs=>∃us ws,vs=us++ws/\t9 ks n x us/\aS bs r ws
def PR (bs:Nm):P1->Value->Prop
 | .c c,v=>CR bs c v
 | .agg l,v=>∃vs,aS bs l vs/\v=.agg vs.toArray
def jz (bs:Nm):List P1->List Value->Prop
 | [],[]=>True
 | c::l,v::vs=>PR bs c v/\jz bs l vs
 | _,_=>False
def VR (bs:Nm):V->Value->Prop
 | .c c,v=>CR bs c v
 | .agg l,v=>∃vs,aS bs l vs/\v=.agg vs.toArray
 | .dK l,v=>∃vs,jz bs l vs/\v=.tuple vs.toArray
def jS (bs:Nm):List V->List Value->Prop
 | [],[]=>True
 | c::l,v::vs=>VR bs c v/\jS bs l vs
 | _,_=>False
theorem ate (hl:Le bs bs'):∀{l:List (Nat×Nat)} {vs:List Value},uw bs l vs->uw bs' l vs
 | [],[],_=>trivial
 | (_,_)::_,_::_,⟨⟨b,h1,h2⟩,h3⟩=>⟨⟨b,hl.b _ _ h1,by rw[hl.o _ _ h1]; exact h2⟩,ate hl h3⟩
 | [],_::_,h=>h
 | _::_,[],h=>h
theorem CR.mono (hl:Le bs bs') {c:C} {v:Value} (h:CR bs c v):CR bs' c v:=by
 cases c with
 | ptr id off e=>obtain⟨b,h1,h2⟩:=h; exact⟨b,hl.b _ _ h1,by rw[hl.o _ _ h1]; exact h2⟩
 | sl id off e len cap=>
  obtain⟨b,o,c,h1,h2,h3,h4,h5⟩:=h
  refine⟨b,o,c,h1,h2,h3,λh=>⟨hl.b _ _ (h4 h).1,by rw[hl.o _ _ (h4 h).1]; exact (h4 h).2⟩,?_,h5.2⟩
  cases cap with
  | k x=>exact h5.1
  | g=>exact hl.c _ _ h5.1
  | a=>trivial
 | fn f caps=>obtain⟨vs,h1,h2⟩:=h; exact⟨vs,ate hl h1,h2⟩
 | _=>exact h
theorem aS.mono (hl:Le bs bs'):∀{l:List ai} {vs:List Value},aS bs l vs->aS bs' l vs
 | [],_,h=>h
 | .c _::_,_,⟨v,ws,h1,h2,h3⟩=>⟨v,ws,h1,h2.mono hl,h3.mono hl⟩
 | .a _ _ _::_,_,⟨us,ws,h1,h2,h3⟩=>⟨us,ws,h1,h2,h3.mono hl⟩
theorem PR.mono (hl:Le bs bs') {c:P1} {v:Value} (h:PR bs c v):PR bs' c v:=by
 cases c with
 | c c=>exact CR.mono hl h
 | agg l=>obtain⟨vs,h1,h2⟩:=h; exact⟨vs,h1.mono hl,h2⟩
theorem jz.mono (hl:Le bs bs'):∀{l:List P1} {vs:List Value},jz bs l vs->jz bs' l vs
 | [],[],_=>trivial
 | _::_,_::_,⟨h1,h2⟩=>⟨h1.mono hl,h2.mono hl⟩
 | [],_::_,h=>h
 | _::_,[],h=>h
theorem VR.mono (hl:Le bs bs') {x:V} {v:Value} (h:VR bs x v):VR bs' x v:=by
 cases x with
 | c c=>exact CR.mono hl h
 | agg l=>obtain⟨vs,h1,h2⟩:=h; exact⟨vs,h1.mono hl,h2⟩
 | dK l=>obtain⟨vs,h1,h2⟩:=h; exact⟨vs,h1.mono hl,h2⟩
theorem CR.one {c:C} {v:Value} (h:CR bs c v):v.oneCell'=true/\v.cells=#[v]:=by
 cases c with
 | ptr id off e=>obtain⟨b,_,_,rfl⟩:=h; exact⟨rfl,rfl⟩
 | sl id off e len cap=>obtain⟨b,o,c,rfl,_⟩:=h; exact⟨rfl,rfl⟩
 | fn f caps=>obtain⟨vs,_,rfl⟩:=h; exact⟨rfl,rfl⟩
 | str n x=>rw[h.2.1]; exact⟨rfl,rfl⟩
 | int k x=>rw[h.1]; exact⟨rfl,rfl⟩
 | bool b=>rw[show v=.bool b from h]; exact⟨rfl,rfl⟩
 | bx x=>rw[show v=.bool _ from h]; exact⟨rfl,rfl⟩
 | db=>rw[show v=.pointer none from h]; exact⟨rfl,rfl⟩
 | cT=>rw[show v=.slice none 0 0 from h]; exact⟨rfl,rfl⟩
 | yV=>rw[show v=.nilFunc from h]; exact⟨rfl,rfl⟩
theorem aS.one:∀{l:List ai} {vs:List Value},aS bs l vs->∀v∈vs,v.oneCell'=true
 | [],_,h,v,hv=>by rw[show _=[] from h] at hv; cases hv
 | .c _::_,_,⟨u,ws,h1,h2,h3⟩,v,hv=>by
  rw[h1] at hv
  rcases ep.1 hv with rfl | hv
  .exact (CR.one h2).1
  .exact h3.one v hv
 | .a _ _ _::_,_,⟨us,ws,h1,h2,h3⟩,v,hv=>by
  rw[h1] at hv
  rcases Gg.1 hv with hv | hv
  .obtain⟨i,hi⟩:=Ue hv
   obtain⟨k,_,h4,_⟩:=h2.2 i (k8.1 hi).1
   rw[hi] at h4; cases h4; rfl
  .exact h3.one v hv
theorem aS.len:∀{l:List ai} {vs:List Value},aS bs l vs->(vs.length:Int)=N (q9 l)
 | [],_,h=>by rw[show _=[] from h]; rfl
 | .c _::_,_,⟨u,ws,h1,_,h3⟩=>by
  have:=h3.len
  rw[h1,q9,eU,mz]
  show _=1+_
  omega
 | .a _ n _::_,_,⟨us,ws,h1,h2,h3⟩=>by
  have:=h3.len
  have:=h2.1
  rw[h1,q9,eU,eK]
  show _=N n+_
  omega
theorem aS.app:∀{l l':List ai} {vs vs':List Value},aS bs l vs->aS bs l' vs'->aS bs (l++l') (vs++vs')
 | [],_,_,_,h,h'=>by rw[show _=[] from h]; exact h'
 | .c _::_,_,_,_,⟨u,ws,h1,h2,h3⟩,h'=>⟨u,ws++_,by rw[h1]; rfl,h2,h3.app h'⟩
 | .a _ _ _::_,_,_,_,⟨us,ws,h1,h2,h3⟩,h'=>⟨us,ws++_,by rw[h1,List.append_assoc],h2,h3.app h'⟩
theorem VR.cells {x:V} {v:Value} {l:List ai} (h:VR bs x v) (hl:Ip x=some l):∃vs,v.cells=vs.toArray/\aS bs l vs:=by
 cases x with
 | c c=>
  simp only[Ip,cu] at hl
  subst hl
  exact⟨[v],(CR.one h).2,v,[],rfl,h,rfl⟩
 | agg l'=>
  simp only[Ip,cu] at hl
  subst hl
  obtain⟨vs,h1,rfl⟩:=h
  exact⟨vs,rfl,h1⟩
 | dK l'=>simp[Ip] at hl
theorem jS.len:∀{l:List V} {vs:List Value},jS bs l vs->vs.length=l.length
 | [],[],_=>rfl
 | _::l,_::vs,⟨_,h2⟩=>by rw[mz,mz,h2.len]
 | [],_::_,h=>h.elim
 | _::_,[],h=>h.elim
theorem jS.app:∀{l l':List V} {vs vs':List Value},jS bs l vs->jS bs l' vs'->jS bs (l++l') (vs++vs')
 | [],_,[],_,_,h=>h
 | _::_,_,_::_,_,⟨h1,h2⟩,h=>⟨h1,h2.app h⟩
 | [],_,_::_,_,h,_=>h.elim
 | _::_,_,[],_,h,_=>h.elim
theorem capsR.vs:∀{l:List (Nat×Nat)} {vs:List Value},uw bs l vs->jS bs (l.map λ(id,off)=>V.c (.ptr id off (.i 0))) vs
 | [],[],_=>trivial
 | (_,_)::_,_::_,⟨⟨b,h1,h2⟩,h3⟩=>⟨⟨b,h1,aP _,h2⟩,capsR.vs h3⟩
 | [],_::_,h=>h.elim
 | _::_,[],h=>h.elim
theorem uI {a b:IntKind} (h:q8 a b=true):a=b:=by
 have:=iJ h
 rw[<- alq a,this,alq]
theorem avi:∀{a b:List IntKind},VN a b=true->a=b
 | [],[],_=>rfl
 | a::l,b::r,h=>by
  simp only[VN,ar] at h
  rw[uI h.1,avi h.2]
 | [],_::_,h=>by cases h
 | _::_,[],h=>by cases h
theorem aTL {x:X} {m:Nat} (h:ot x=some m):x=.i m:=by
 unfold ot at h
 split at h
 .unfold nat? at h
  split at h
  .cases h; rfl
  .cases h
 .cases h
theorem sQ {x:X} {m:Nat} (h:ot x=some m):N x=m:=by rw[aTL h]; rfl
theorem t9.part {ks:List IntKind} {n x y o m:X} {us:List Value} (h:t9 ks n x us) (ho:0<=N o) (hm:0<=N m) (hle:N o+N m<=N n) (hp:(N o).toNat % ks.length=0) (hy:∀i:Nat,(i:Int) < N m->D y i=D x (i+(N o).toNat)):t9 ks m y ((us.drop (N o).toNat).take (N m).toNat):=by
 obtain⟨h1,h2⟩:=h
 have hl:((us.drop (N o).toNat).take (N m).toNat).length=(N m).toNat:=by
  rw[qP,Gf]; omega
 refine⟨by rw[hl]; omega,λi hi=>?_⟩
 rw[hl] at hi
 obtain⟨k,h3,h4,h5⟩:=h2 ((N o).toNat+i) om
 rw[hy i om,Nat.add_comm i]
 refine⟨k,?_,?_,h5⟩
 .rw[<- h3,Nat.zero_add,Nat.zero_add,adX,hp,Nat.zero_add,wi]
 .rw[aPy hi,Ud]; exact h4
theorem a7M {ks:List IntKind} {o:Nat} (h:Xf ks o=true):o % ks.length=0:=iJ h
theorem UT (hF:ah F):∀{l p q:List ai} {o:Nat} {vs:List Value},qV F l o=some (p,q)->aS bs l vs->∃us ws,vs=us++ws/\us.length=o/\aS bs p us/\aS bs q ws:=by
 intro l
 induction l with
 | nil=>
  intro p q o vs h hl
  unfold qV at h
  obtain⟨h1,h⟩:=cm h
  cases h
  have:=iJ h1
  subst this
  exact⟨[],vs,rfl,rfl,rfl,hl⟩
 | cons s r ih=>
  intro p q o vs h hl
  cases s with
  | c c=>
   cases o with
   | zero=>
    simp only[qV,cu,Prod.mk.injEq] at h
    obtain⟨rfl,rfl⟩:=h
    exact⟨[],vs,rfl,rfl,rfl,hl⟩
   | succ o=>
    obtain⟨u,ws,rfl,h2,h3⟩:=hl
    simp only[qV] at h
    obtain⟨⟨p',q'⟩,hc,he⟩:=eR.1 h
    cases he
    obtain⟨a,b,rfl,e1,e2,e3⟩:=ih hc h3
    exact⟨u::a,b,rfl,by rw[mz,e1],⟨u,a,rfl,h2,e2⟩,e3⟩
  | a ks n x=>
   simp only[qV] at h
   rcases fF h with ⟨h0,h⟩ | ⟨h0,h⟩
   .cases h
    have:=iJ h0
    subst this
    exact⟨[],vs,rfl,rfl,rfl,hl⟩
   obtain⟨us,ws,rfl,h2,h3⟩:=hl
   have hn:=h2.1
   have key:∀{m:X},(o:Int)<=N n->Xf ks o=true->N m=N n - o->∃a b,us++ws=a++b/\a.length=o/\aS bs [.a ks (.i o) x] a/\aS bs (.a ks m (sub F x (.i o) m)::r) b:=by
    intro m hle hph hm
    refine⟨us.take o,us.drop o++ws,by rw[<- List.append_assoc,Am],by rw[qP]; omega,⟨us.take o,[],by rw[qO],?_,rfl⟩,us.drop o,ws,rfl,?_,h3⟩
    .have:=h2.part (y:=x) (o:=.i 0) (m:=.i o) (aP _) (show (0:Int)<=(o:Int) by omega) (show (0:Int)+(o:Int)<=_ by omega) (J9 _) (λi _=>rfl)
     simpa [N,D,DD] using this
    .have:=h2.part (y:=sub F x (.i o) m) (o:=.i o) (m:=m) (show (0:Int)<=(o:Int) by omega) om (show (o:Int)+N m<=_ by omega) (a7M hph) (λi hi=>LP hF (show 0<=N (.i (o:Int)) from kZ o) i hi)
     have e:(N (.i (o:Int))).toNat=o:=fg o
     rw[e,adW (by rw[Gf]; omega)] at this
     exact this
   split at h
   .rename_i m hm
    have hm:=sQ hm
    rcases fF h with ⟨hb,h⟩ | ⟨hb,h⟩
    .have hb:=wh hb
     obtain⟨⟨p',q'⟩,hc,he⟩:=eR.1 h
     cases he
     obtain⟨a,b,rfl,e1,e2,e3⟩:=ih hc h3
     exact⟨us++a,b,by rw[List.append_assoc],by rw[eK]; omega,⟨us,a,rfl,h2,e2⟩,e3⟩
    .obtain⟨hph,h⟩:=cm h
     cases h
     have hb:¬m<=o:=λhh=>by rw[J4 hh] at hb; cases hb
     exact key om hph (show ((m - o:Nat):Int)=_ by omega)
   .obtain⟨hph,h⟩:=cm h
    cases h
    rw[ar] at hph
    exact key (aT hF hph.1) hph.2 (jH _ _)
theorem VU (hF:ah F) {ss p q:List ai} {off:Nat} {e e':X} {vs:List Value} (h:loc F ss off e=some (p,q,e')) (hs:aS bs ss vs) (he:0<=N e):∃us ws,vs=us++ws/\aS bs p us/\aS bs q ws/\0<=N e'/\us.length+(N e').toNat=off+(N e).toNat:=by
 unfold loc at h
 split at h
 case h_2=>cases h
 rename_i p0 q0 hc
 obtain⟨us,ws,rfl,h1,h2,h3⟩:=UT hF hc hs
 have deep:∀j:Nat,N e=(j:Int)->(qV F q0 j).map (λx=>(p0++x.1,x.2,X.i 0))=some (p,q,e')->∃a b,us++ws=a++b/\aS bs p a/\aS bs q b/\0<=N e'/\a.length+(N e').toNat=off+(N e).toNat:=by
  intro j hj hm
  obtain⟨⟨p',q'⟩,hc',hq⟩:=eR.1 hm
  cases hq
  obtain⟨a,b,rfl,e1,e2,e3⟩:=UT hF hc' h3
  refine⟨us++a,b,by rw[List.append_assoc],h2.app e2,e3,aP _,?_⟩
  rw[eK,hj]
  show _+(0:Int).toNat=_
  omega
 split at h
 .rename_i hl
  cases h
  have:=sQ hl
  exact⟨us,ws,rfl,h2,h3,aP _,by rw[this]; show _+(0:Int).toNat=_; omega⟩
 .rename_i j _ hl
  have hj:=sQ hl
  split at h
  .rename_i ks n x r hq
   rcases fF h with ⟨hb,h⟩ | ⟨_,h⟩
   .cases h
    exact⟨us,ws,rfl,h2,h3,(show (0:Int)<=(j:Int) by omega),by rw[hj]; show _+((j:Int)).toNat=_; omega⟩
   .exact deep j hj h
  .exact deep j hj h
 .cases h
  exact⟨us,ws,rfl,h2,h3,he,by omega⟩
theorem ayB (m:Nat):∀{l:List (X×Int)},Wl m l=true->fN l % (m:Int)=0
 | [],_=>Int.zero_emod _
 | (x,c)::r,h=>by
  simp only[Wl,ar,decide_eq_true_eq] at h
  show (c*N x+fN r) % (m:Int)=0
  rw[Int.add_emod,Int.mul_emod,h.1,ayB m h.2,N0,Int.zero_emod]; simp
theorem Qo {m p:Nat} {e:X} (h:phase m e=some p) (he:0<=N e):(N e).toNat % m=p:=by
 unfold phase at h
 split at h
 .cases h; exact sB _
 .obtain⟨h1,h⟩:=cm h
  have h2:=ayB m h1
  have h3:N e % (m:Int)=(kC e).1 % (m:Int):=by
   rw[<- pb e]
   show ((kC e).1+fN (kC e).2) % _=_
   rw[Int.add_emod,h2,Int.add_zero,Int.emod_emod_of_dvd _ (T5 _)]
  have h4:(kC e).1 % (m:Int)=(p:Int):=by
   unfold nat? at h
   split at h
   .rename_i q hq; cases h; rw[hq]; rfl
   .cases h
  rw[h4] at h3
  have h5:N e=((N e).toNat:Int):=by omega
  rw[h5,<- Ga] at h3
  exact Int.ofNat.inj h3
theorem asM {us ws:List Value} {i:Nat} (j:Nat) (h:us.length+i=j):(us++ws)[j]?=ws[i]?:=by
 rw[sA om,show j - us.length=i by omega]
theorem atn (hF:ah F) {ss:List ai} {off:Nat} {e:X} {c:C} {vs:List Value} (h:cellAt F ss off e=some c) (hs:aS bs ss vs) (he:0<=N e):∃u,vs[off+(N e).toNat]?=some u/\CR bs c u:=by
 unfold cellAt at h
 split at h
 .rename_i p c' r hl
  cases h
  obtain⟨us,ws,rfl,_,⟨u,ws',rfl,h2,_⟩,_,h4⟩:=VU hF hl hs he
  exact⟨u,asM (i:=0) _ h4,h2⟩
 .rename_i p ks n x r e' hl
  obtain⟨us,ws,rfl,_,⟨as,ws',rfl,⟨h1,h2⟩,_⟩,h3,h4⟩:=VU hF hl hs he
  split at h
  case h_2=>cases h
  rename_i ph hp
  split at h
  case h_2=>cases h
  rename_i k hk
  obtain⟨hb,h⟩:=cm h
  cases h
  rw[ar] at hb
  have hlt:=lZ hF hb.2
  obtain⟨k',h5,h6,h7⟩:=h2 (N e').toNat om
  rw[Nat.zero_add,Qo hp h3,hk] at h5
  cases h5
  refine⟨.int k (D x (N e').toNat),(asM (i:=(N e').toNat) _ h4).trans ?_,?_,?_⟩
  .rw[ud om]; exact h6
  .rw[OX hF h3]
  .rw[OX hF h3]; exact h7
 .cases h
theorem Xv (hF:ah F) {ss l:List ai} {off:Nat} {e n:X} {vs:List Value} (h:w5 F ss off e n=some l) (hs:aS bs ss vs) (he:0<=N e) (hn:0<=N n):∃as us ws,vs=as++(us++ws)/\(us.length:Int)=N n/\aS bs l us/\(as.length=off+(N e).toNat\/us=[]):=by
 unfold w5 at h
 split at h
 case h_2=>cases h
 rename_i p q e' hl
 obtain⟨us,ws,rfl,_,h2,h3,h4⟩:=VU hF hl hs he
 split at h
 .rename_i m h0 hm
  obtain⟨⟨a,b⟩,hc,hq⟩:=eR.1 h
  cases hq
  obtain⟨as,cs,rfl,e1,e2,_⟩:=UT hF hc h2
  have:=sQ h0
  exact⟨us,as,cs,rfl,by rw[sQ hm,e1],e2,.inl om⟩
 .split at h
  .rename_i ks m x r
   obtain⟨as,cs,rfl,h5,_⟩:=h2
   split at h
   case h_2=>cases h
   rename_i hp
   obtain⟨hb,h⟩:=cm h
   cases h
   simp only[ar] at hb
   have h6:=aT hF hb.2.2
   rw[eU] at h6
   have h7:=h5.part (y:=sub F x e' n) h3 hn h6 (Qo hp h3) (λi hi=>LP hF h3 i hi)
   have hal:=h5.1
   refine⟨us++as.take (N e').toNat,(as.drop (N e').toNat).take (N n).toNat,(as.drop (N e').toNat).drop (N n).toNat++cs,?_,h7.1,⟨_,[],by rw[qO],h7,rfl⟩,.inl ?_⟩
   .rw[List.append_assoc,<- List.append_assoc (List.take _ _) (List.drop _ _),Am,<- List.append_assoc (List.take _ _),Am]
   .rw[eK,qP]; omega
  .obtain⟨hb,h⟩:=cm h
   cases h
   exact⟨us,[],ws,rfl,(gq hF hb).symm,rfl,.inr rfl⟩
theorem LJ (hF:ah F) {k:IntKind}:∀{l:List ai} {n x:X} {ls:List Value},ox F k l=some (n,x)->aS bs l ls->t9 [k] n x ls:=by
 intro l
 have one:∀(i:Nat) {z:IntKind},[z][(0+i) % [z].length]?=some z:=λi z=>by
  show [z][(0+i) % 1]?=_
  rw[sB]; rfl
 induction l with
 | nil=>
  intro n x ls h hl
  simp only[ox,cu,Prod.mk.injEq] at h
  obtain⟨rfl,rfl⟩:=h
  rw[show ls=[] from hl]
  exact⟨rfl,λi hi=>absurd hi (CU i)⟩
 | cons s r ih=>
  have gen:∀{k':IntKind} {n' x' n x:X} {ls:List Value},(match ox F k r with | some (m,y)=>bif q8 k k' && ay F (.i 0) n' then some (b9 n' m,jC F x' n' y) else none | none=>none)=some (n,x)->aS bs (.a [k'] n' x'::r) ls->t9 [k] n x ls:=by
   intro k' n' x' n x ls h hl
   split at h
   case h_2=>cases h
   rename_i m y hr
   obtain⟨hb,h⟩:=cm h
   cases h
   rw[ar] at hb
   obtain⟨us,ws,rfl,⟨h1,h2⟩,h3⟩:=hl
   have hk:=uI hb.1
   subst hk
   obtain⟨h4,h5⟩:=ih hr h3
   refine⟨by rw[eK,eU]; omega,λi hi=>⟨k,one i,?_⟩⟩
   rw[yB hF]
   unfold p6
   rw[eK] at hi
   by_cases hc:(i:Int) < N n'
   .rw[if_pos hc]
    obtain⟨k2,e1,e2,e3⟩:=h2 i om
    rw[one] at e1; cases e1
    exact⟨by rw[ud om]; exact e2,e3⟩
   .rw[if_neg hc]
    obtain⟨k2,e1,e2,e3⟩:=h5 (i - (N n').toNat) om
    rw[one] at e1; cases e1
    exact⟨by rw[sA om,<- e2]; congr 1; omega,e3⟩
  intro n x ls h hl
  cases s with
  | c c=>
   cases c with
   | int k' z=>
    simp only[ox] at h
    have hz:N (gU z)=N z:=uT z
    obtain⟨u,ws,rfl,⟨h1,h2⟩,h3⟩:=hl
    split at h
    case h_2=>cases h
    rename_i m y hr
    obtain⟨hb,h⟩:=cm h
    cases h
    have hk:=uI hb
    subst hk
    obtain⟨h4,h5⟩:=ih hr h3
    refine⟨by rw[mz,eU]; show _=1+_; omega,λi hi=>⟨k,one i,?_⟩⟩
    rw[yB hF]
    unfold p6
    rw[show N (.i 1)=1 from rfl]
    cases i with
    | zero=>
     rw[if_pos (show ((0:Nat):Int) < 1 by decide),show D (gU z) 0=N z from hz]
     exact⟨by rw[ar5,h1],h2⟩
    | succ i=>
     rw[if_neg (show ¬((i+1:Nat):Int) < 1 by omega)]
     rw[mz] at hi
     obtain⟨k2,e1,e2,e3⟩:=h5 i om
     rw[one] at e1; cases e1
     exact⟨by rw[eD]; exact e2,e3⟩
   | _=>simp[ox] at h
  | a ks n' x'=>
   match ks with
   | []=>cases r <;>simp[ox] at h
   | [k']=>
    cases r with
    | nil=>
     simp only[ox] at h
     obtain⟨hb,h⟩:=cm h
     cases h
     obtain⟨us,ws,rfl,h2,h3⟩:=hl
     rw[show ws=[] from h3,qO,uI hb]
     exact h2
    | cons s' r'=>simp only[ox] at h; exact gen h hl
   | _::_::_=>cases r <;>simp[ox] at h
theorem aTk (hF:ah F) {l:List ai} {vs:List Value} (h:aS bs l vs):aS bs (jnR F l) vs:=by
 unfold jnR
 split
 .split
  .rename_i hr
   exact⟨_,[],(qO _).symm,LJ hF hr h,rfl⟩
  .exact h
 .exact h
theorem aTj {I:Info} (hF:ah I.F) {e:TypeId} {l:List ai} {vs:List Value} (h:aS bs l vs):aS bs (jnK I e l) vs:=by
 unfold jnK
 split
 .exact aTk hF h
 .exact h
theorem akC (hF:ah F) {ks:List IntKind}:∀{l:List ai} {p:Nat} {n x:X} {ls:List Value},Bc F ks p l=some (n,x)->aS bs l ls->(ls.length:Int)=N n/\(p < ks.length->Uv ks p x ls):=by
 intro l
 induction l with
 | nil=>
  intro p n x ls h hl
  simp only[Bc,cu,Prod.mk.injEq] at h
  obtain⟨rfl,rfl⟩:=h
  rw[show ls=[] from hl]
  exact⟨rfl,λ_ i hi=>absurd hi (CU i)⟩
 | cons s r ih=>
  intro p n x ls h hl
  cases s with
  | c c=>
   cases c with
   | int k' z=>
    simp only[Bc] at h
    have hz:N (gU z)=N z:=uT z
    obtain⟨u,ws,rfl,⟨h1,h2⟩,h3⟩:=hl
    split at h
    case h_2=>cases h
    rename_i k m y hk hr
    obtain⟨hb,h⟩:=cm h
    cases h
    have hk':=uI hb
    subst hk'
    obtain⟨h4,h5⟩:=ih hr h3
    refine⟨by rw[mz,eU]; show _=1+_; omega,λhp i hi=>?_⟩
    rw[yB hF]
    unfold p6
    rw[show N (.i 1)=1 from rfl]
    cases i with
    | zero=>
     rw[if_pos (show ((0:Nat):Int) < 1 by decide),show D (gU z) 0=N z from hz]
     exact⟨_,by rw[Nat.add_zero,dE hp]; exact hk,by rw[ar5,h1],h2⟩
    | succ i=>
     rw[if_neg (show ¬((i+1:Nat):Int) < 1 by omega)]
     rw[mz] at hi
     obtain⟨k2,e1,e2,e3⟩:=h5 (gT _ om) i om
     refine⟨k2,?_,by rw[eD]; exact e2,e3⟩
     rw[<- e1,show Nat.mod (p+1) ks.length=(p+1) % ks.length from rfl,Nat.mod_add_mod,show p+(i+1)=p+1+i by omega]
   | _=>simp[Bc] at h
  | a ks n' x'=>simp[Bc] at h
theorem a82 (hF:ah F) {ks:List IntKind} {p:Nat} {l:List ai} {n x:X} {ls:List Value} (h:rowOf F ks p l=some (n,x)) (hl:aS bs l ls):(ls.length:Int)=N n/\(p < ks.length->Uv ks p x ls):=by
 unfold rowOf at h
 split at h
 .obtain⟨h1,h2⟩:=LJ hF h hl
  refine⟨h1,λhp i hi=>?_⟩
  obtain⟨k,e1,e2⟩:=h2 i hi
  have:p=0:=by have:p < 1:=hp; omega
  subst this
  exact⟨k,e1,e2⟩
 .exact akC hF h hl
theorem t9.dh (hF:ah F) {ks:List IntKind} {m x e v n:X} {us ls:List Value} {p:Nat} (h:t9 ks m x us) (he:0<=N e) (hle:N e+N n<=N m) (hl:(ls.length:Int)=N n) (hp:(N e).toNat % ks.length=p) (hv:Uv ks p v ls):t9 ks m (Yn F x e v n m) (us.take (N e).toNat++(ls++us.drop ((N e).toNat+ls.length))):=by
 obtain⟨h1,h2⟩:=h
 have hn:0<=N n:=by omega
 have hlt:(us.take (N e).toNat).length=(N e).toNat:=by rw[qP]; omega
 have hD:∀i:Nat,(i:Int) < N m->D (Yn F x e v n m) i=if (i:Int) < N e then D x i else if (i:Int) < N e+N n then D v (i - (N e).toNat) else D x i:=by
  intro i hi
  unfold Yn
  cases hc:er F (b9 e n) m with
  | true=>
   have:=gq hF hc
   rw[eU] at this
   show D (jC F x e v) i=_
   rw[yB hF]
   unfold p6
   by_cases q:(i:Int) < N e
   .rw[if_pos q,if_pos q]
   .rw[if_neg q,if_neg q,if_pos om]
  | false=>
   show D (jC F x e (jC F v n (sub F x (b9 e n) (dF m (b9 e n))))) i=_
   rw[yB hF,yB hF]
   unfold p6
   by_cases q:(i:Int) < N e
   .rw[if_pos q,if_pos q]
   .rw[if_neg q,if_neg q]
    by_cases q2:(i:Int) < N e+N n
    .rw[if_pos om,if_pos q2]
    .rw[if_neg om,if_neg q2,LP hF (by rw[eU]; omega) _ (by rw[jH,eU]; omega),eU]
     congr 1; omega
 refine⟨?_,λi hi=>?_⟩
 .rw[eK,eK,qP,Gf]; omega
 .rw[eK,eK,qP,Gf] at hi
  rw[hD i om]
  by_cases q:(i:Int) < N e
  .rw[if_pos q]
   obtain⟨k,e1,e2,e3⟩:=h2 i om
   exact⟨k,e1,by rw[ud om,aPy om]; exact e2,e3⟩
  .rw[if_neg q,sA om,hlt]
   by_cases q2:(i:Int) < N e+N n
   .rw[if_pos q2]
    obtain⟨k,e1,e2,e3⟩:=hv (i - (N e).toNat) om
    refine⟨k,?_,by rw[ud om]; exact e2,e3⟩
    rw[<- e1,<- hp,Nat.mod_add_mod]
    congr 2; omega
   .rw[if_neg q2,sA om,Ud]
    obtain⟨k,e1,e2,e3⟩:=h2 i om
    exact⟨k,e1,by rw[<- e2]; congr 1; omega,e3⟩
theorem aED (hF:ah F) {ss ss' l:List ai} {off:Nat} {e n:X} {vs ls:List Value} (h:storeAt F ss off e l n=some ss') (hs:aS bs ss vs) (hl:aS bs l ls) (hn:(ls.length:Int)=N n) (he:0<=N e):∃as us ws,vs=as++(us++ws)/\us.length=ls.length/\as.length=off+(N e).toNat/\aS bs ss' (as++(ls++ws)):=by
 unfold storeAt at h
 split at h
 case h_2=>cases h
 rename_i p q e' hloc
 obtain⟨as,bs1,rfl,h1,h2,h3,h4⟩:=VU hF hloc hs he
 have raw:∀{ss':List ai},(match ot e',ot n with | some 0,some m=>(qV F q m).map λ(_,r)=>p++(l++r) | _,_=>none)=some ss'->∃as' us ws,as++bs1=as'++(us++ws)/\us.length=ls.length/\as'.length=off+(N e).toNat/\aS bs ss' (as'++(ls++ws)):=by
  intro ss' h
  split at h
  case h_2=>cases h
  rename_i m h0 hm
  obtain⟨⟨a,r⟩,hc,hq⟩:=eR.1 h
  cases hq
  obtain⟨us,ws,rfl,e1,_,e3⟩:=UT hF hc h2
  have h0:=sQ h0
  have hm:=sQ hm
  exact⟨as,us,ws,rfl,by omega,by omega,h1.app (hl.app e3)⟩
 dsimp only at h
 split at h
 case h_2=>exact raw h
 rename_i ks m x r
 split at h
 case h_2=>exact raw h
 rename_i m' v hb
 rcases fF h with ⟨hc,h⟩ | ⟨_,h⟩
 case inr=>exact raw h
 cases h
 obtain⟨ph,hph,hrow⟩:=sD.1 hb
 simp only[ar] at hc
 have hle:=aT hF hc.2.2
 rw[eU] at hle
 obtain⟨us,ws,rfl,h5,h6⟩:=h2
 obtain⟨_,h8⟩:=a82 hF hrow hl
 have hp:=Qo hph h3
 by_cases hks:0 < ks.length
 .have h9:=h8 (by rw[<- hp]; exact gT _ hks)
  have h10:=h5.dh hF h3 hle hn hp h9
  have hul:=h5.1
  refine⟨as++us.take (N e').toNat,(us.drop (N e').toNat).take ls.length,us.drop ((N e').toNat+ls.length)++ws,?_,?_,?_,?_⟩
  .rw[List.append_assoc,<- List.drop_drop,<- List.append_assoc (List.take ls.length _),Am,<- List.append_assoc (List.take _ us),Am]
  .rw[qP,Gf]; omega
  .rw[eK,qP]; omega
  .rw[List.append_assoc]
   refine h1.app ⟨_,ws,?_,h10,h6⟩
   simp[List.append_assoc]
 .have hk0:ks=[]:=aPz.1 om
  subst hk0
  have hu:us=[]:=by
   cases us with
   | nil=>rfl
   | cons u us=>obtain⟨k,e1,_⟩:=h5.2 0 (Nat.zero_lt_succ _); simp at e1
  subst hu
  have hm0:N m=0:=h5.1.symm
  have hls:ls=[]:=aPz.1 om
  subst hls
  refine⟨as,[],ws,rfl,rfl,by omega,h1.app ⟨[],ws,rfl,⟨h5.1,λi hi=>absurd hi (CU i)⟩,h6⟩⟩
end Go.Z
namespace Go.Z
open Go Go.Sym Go.RowKit
open Go.Ev (T K Ex DH DF)
variable [bI] [Env]
def mA (h:Hp) (bs:Nm) (k:Nat):Prop:=∃id b,id < 4096/\h.get id=some b/\bs.b id=some k
def k9 (h:Hp) (bs:Nm) (k:Nat):Prop:=∃id b,id < 4096/\h.get id=some b/\bs.b id=some k/\b.ro=false
theorem k9.a {h:Hp} {bs:Nm} {k:Nat}:k9 h bs k->mA h bs k:=λ⟨i,b,h1,h2,h3,_⟩=>⟨i,b,h1,h2,h3⟩
structure Mv (w w':World) (bs bs':Nm) (h h':Hp):Prop where
 os:w'.os=w.os
 tape:w'.tape=w.tape
 output:w'.output=w.output
 size:w.heap.size<=w'.heap.size
 le:Le bs bs'
 nx:h.nx<=h'.nx
 low:∀id,id < h.nx->bs'.b id=bs.b id/\bs'.c id=bs.c id
 cL:∀k,k < w.heap.size->¬k9 h bs k->w'.heap[k]?=w.heap[k]?
 own:∀k,k < w.heap.size->k9 h' bs' k->k9 h bs k
 l7:∀k,k < w.heap.size->mA h' bs' k->mA h bs k
 range:∀id k,bs'.b id=some k->k < w.heap.size->bs.b id=some k\/mA h bs k
theorem Mv.refl (w:World) (bs:Nm) (h:Hp):Mv w w bs bs h h:=⟨rfl,rfl,rfl,fv _,Le.refl _,fv _,λ_ _=>⟨rfl,rfl⟩,λ_ _ _=>rfl,λ_ _ h=>h,λ_ _ h=>h,λ_ _ h _=>.inl h⟩
theorem Mv.trans {w w1 w2:World} {bs bs1 bs2:Nm} {h h1 h2:Hp} (a:Mv w w1 bs bs1 h h1) (b:Mv w1 w2 bs1 bs2 h1 h2):Mv w w2 bs bs2 h h2 where
 os:=b.os.trans a.os
 tape:=b.tape.trans a.tape
 output:=b.output.trans a.output
 size:=An a.size b.size
 le:=a.le.trans b.le
 nx:=An a.nx b.nx
 low id hid:=⟨(b.low id (lP hid a.nx)).1.trans (a.low id hid).1,(b.low id (lP hid a.nx)).2.trans (a.low id hid).2⟩
 cL k hk hn:=by
  rw[b.cL k (lP hk a.size) λho=>hn (a.own k hk ho)]
  exact a.cL k hk hn
 own k hk ho:=a.own k hk (b.own k (lP hk a.size) ho)
 l7 k hk ho:=a.l7 k hk (b.l7 k (lP hk a.size) ho)
 range id k e hk:=by
  rcases b.range id k e (lP hk a.size) with h0 | h0
  .exact a.range id k h0 hk
  .exact .inr (a.l7 k hk h0)
structure Ext (w w':World):Prop where
 os:w'.os=w.os
 tape:w'.tape=w.tape
 output:w'.output=w.output
 size:w.heap.size<=w'.heap.size
 cL:∀k,k < w.heap.size->w'.heap[k]?=w.heap[k]?
theorem Ext.azh {w w':World} {e:dC} (h:Mem w w' [e]) (hk:w.heap.size<=e.b):Ext w w':=⟨h.os,h.tape,h.output,h.size,λk hk'=>h.cL k hk' λf hf=>by grind⟩
structure Gw (w w':World) (k:Nat):Prop where
 os:w'.os=w.os
 tape:w'.tape=w.tape
 output:w'.output=w.output
 size:w.heap.size<=w'.heap.size
 cL:∀j,j < w.heap.size->j≠k->w'.heap[j]?=w.heap[j]?
theorem Gw.azg {w w':World} {k:Nat} {t:TypeId} {cs:List Value} (h:Mem w w' [⟨k,t,cs⟩]):Gw w w' k:=⟨h.os,h.tape,h.output,h.size,λj hj hne=>h.cL j hj λf hf=>by grind⟩
def Al (o:Option Nat) (ks len n:Nat):Prop:=match o with
 | some c=>n=c*ks
 | none=>n=len
def BR (w:World) (bs:Nm) (id:Nat) (b:Bl) (k:Nat):Prop:=
 ∃(ps us ws:List Value) (t:TypeId) (fr:Nat×Nat),w.heap[k]?=some (.cells (ps++(us++ws)).toArray t fr)/\ps.length=bs.o id/\(b.ro=false->fr=(0,0)/\t=b.t/\ps=[])/\aS bs b.ss us/\(b.ro=false->Al (bs.c id) b.ks us.length (us++ws).length)
theorem BR.mono {w w':World} {bs bs':Nm} {id k:Nat} {b:Bl} (h:BR w bs id b k) (hh:w'.heap[k]?=w.heap[k]?) (hl:Le bs bs') (hc:bs'.c id=bs.c id) (hb:bs'.o id=bs.o id):BR w' bs' id b k:=by
 obtain⟨ps,us,ws,t,fr,h1,h0,h2,h3,h4⟩:=h
 exact⟨ps,us,ws,t,fr,by grind,by omega,h2,h3.mono hl,by grind⟩
theorem BR.live {w:World} {bs:Nm} {id k:Nat} {b:Bl} (h:BR w bs id b k) (hro:b.ro=false):∃us ws:List Value,w.heap[k]?=some (.cells (us++ws).toArray b.t (0,0))/\bs.o id=0/\aS bs b.ss us/\Al (bs.c id) b.ks us.length (us++ws).length:=by
 obtain⟨ps,us,ws,t,fr,h1,h0,h2,h3,h4⟩:=h
 grind
theorem BR.of {w:World} {bs:Nm} {id k:Nat} {b:Bl} {us ws:List Value} {fr:Nat×Nat} (h1:w.heap[k]?=some (.cells (us++ws).toArray b.t fr)) (h0:bs.o id=0) (h2:b.ro=false->fr=(0,0)) (h3:aS bs b.ss us) (h4:Al (bs.c id) b.ks us.length (us++ws).length):BR w bs id b k:=
 ⟨[],us,ws,b.t,fr,h1,h0.symm,λe=>⟨h2 e,rfl,rfl⟩,h3,λ_=>h4⟩
structure HR (w:World) (bs:Nm) (h:Hp):Prop where
 ig:∀id b,id < 4096->h.get id=some b->∃k,bs.b id=some k/\BR w bs id b k
 inj:∀id id' b b' k,id < 4096->id' < 4096->h.get id=some b->h.get id'=some b'->b'.ro=false->bs.b id=some k->bs.b id'=some k->id=id'
 fp:∀id k,bs.b id=some k->id < 4096/\k < w.heap.size
 nx:∀id,h.nx<=id->bs.b id=none/\bs.c id=none
variable {w w' w0:World} {bs bs0:Nm} {h h0:Hp}
theorem Hp.lh {h:Hp} {i j:Nat} {b:Option Bl} (hi:i < 4096) (hj:j < 4096):(h.put i b).get j=if j=i then b else h.get j:=T.qe 12 h.h i j b hi hj
theorem HR.AT (hR:HR w bs h) {n:Nat} (hn:h.nx<=n):HR w bs ⟨h.h,n⟩:=⟨hR.ig,hR.inj,hR.fp,λid hid=>hR.nx id (An hn hid)⟩
theorem Mv.AT {bs':Nm} {h':Hp} {n:Nat} (hm:Mv w w' bs bs' h h') (hn:h'.nx<=n):Mv w w' bs bs' h ⟨h'.h,n⟩:=⟨hm.os,hm.tape,hm.output,hm.size,hm.le,An hm.nx hn,hm.low,hm.cL,hm.own,hm.l7,hm.range⟩
theorem a83 {b:Nat} {t:TypeId} {cs:List Value} {fr:Nat×Nat} (h:w.heap[b]?=some (.cells cs.toArray t fr)) (j:Nat):w.cell? ⟨b,j,none⟩=cs[j]?:=by
 simp[World.cell?,h]
theorem HR.at (hR:HR w bs h) {id:Nat} {b:Bl} {k:Nat} (hg:h.get id=some b) (hk:bs.b id=some k):BR w bs id b k:=by
 obtain⟨k',h1,h2⟩:=hR.ig id b (hR.fp id k hk).1 hg
 grind
theorem BR.at {id:Nat} {b:Bl} {k:Nat} (h:BR w bs id b k):∃us,aS bs b.ss us/\∀j,j < us.length->w.cell? ⟨k,bs.o id+j,none⟩=us[j]?:=by
 obtain⟨ps,us,ws,t,fr,h1,h0,_,h3,_⟩:=h
 refine⟨us,h3,λj hj=>?_⟩
 rw[a83 h1,<- h0,sA om,ud om,show ps.length+j - ps.length=j by omega]
theorem HR.same (hR:HR w bs h) (hM:Ext w w'):HR w' bs h/\Mv w w' bs bs h h:=by
 refine⟨⟨λid b hid hb=>?_,hR.inj,λid k hk=>⟨(hR.fp id k hk).1,lP (hR.fp id k hk).2 hM.size⟩,hR.nx⟩,⟨hM.os,hM.tape,hM.output,hM.size,Le.refl _,fv _,λ_ _=>⟨rfl,rfl⟩,λk hk _=>hM.cL k hk,λk _ ho=>ho,λk _ ho=>ho,λid k hk _=>.inl hk⟩⟩
 obtain⟨k,h1,h3⟩:=hR.ig id b hid hb
 exact⟨k,h1,h3.mono (hM.cL k (hR.fp id k h1).2) (Le.refl _) rfl rfl⟩
theorem HR.write (hR:HR w bs h) {id k:Nat} {b b':Bl} (hg:h.get id=some b) (hk:bs.b id=some k) (hro:b.ro=false) (hM:Gw w w' k) (hb':BR w' bs id b' k):HR w' bs (h.put id (some b'))/\Mv w w' bs bs h (h.put id (some b')):=by
 have hid:=(hR.fp id k hk).1
 have hin:∀i c,i < 4096->(h.put id (some b')).get i=some c->∃c0,h.get i=some c0/\(c.ro=false->c0.ro=false):=λi c hi hb=>by
  rw[Hp.lh hid hi] at hb
  grind
 refine⟨⟨λi c hi hb=>?_,λi j c d m hi hj hbi hbj hd h1 h2=>?_,λi m hm=>⟨(hR.fp i m hm).1,lP (hR.fp i m hm).2 hM.size⟩,λi hi=>hR.nx i hi⟩,
  ⟨hM.os,hM.tape,hM.output,hM.size,Le.refl _,fv _,λ_ _=>⟨rfl,rfl⟩,λj hj hn=>hM.cL j hj (λe=>hn ⟨id,b,hid,hg,by grind,hro⟩),λj _ ⟨i,c,hi,hc,hm,hx⟩=>?_,λj _ ⟨i,c,hi,hc,hm⟩=>?_,λi m hm _=>.inl hm⟩⟩
 .rw[Hp.lh hid hi] at hb
  by_cases e:i=id
  .grind
  .rw[if_neg e] at hb
   obtain⟨m,h1,h3⟩:=hR.ig i c hi hb
   have hne:m≠k:=λe2=>e (hR.inj i id c b m hi hid hb hg hro h1 (by grind))
   exact⟨m,h1,h3.mono (hM.cL m (hR.fp i m h1).2 hne) (Le.refl _) rfl rfl⟩
 .obtain⟨c',hc',_⟩:=hin i c hi hbi
  obtain⟨d',hd',hd2⟩:=hin j d hj hbj
  exact hR.inj i j c' d' m hi hj hc' hd' (hd2 hd) h1 h2
 .obtain⟨c',hc',hc2⟩:=hin i c hi hc
  exact⟨i,c',hi,hc',hm,hc2 hx⟩
 .obtain⟨c',hc',_⟩:=hin i c hi hc
  exact⟨i,c',hi,hc',hm⟩
def iO (bs:Nm) (id k:Nat) (q:Option Nat):Nm:=⟨λi=>if i=id then some k else bs.b i,λi=>if i=id then q else bs.c i,λi=>if i=id then 0 else bs.o i⟩
theorem DE {bs:Nm} {id k:Nat} {q:Option Nat} (hn:bs.b id=none) (hc:bs.c id=none):Le bs (iO bs id k q):=by
 refine⟨λi m hm=>?_,λi m hm=>?_,λi m hm=>?_⟩
 .show (if i=id then some k else bs.b i)=some m
  grind
 .show (if i=id then q else bs.c i)=some m
  grind
 .show (if i=id then 0 else bs.o i)=bs.o i
  grind
theorem ov {bs:Nm} {id k:Nat} {q:Option Nat}:(iO bs id k q).b id=some k:=if_pos rfl
theorem PA {bs:Nm} {id k:Nat} {q:Option Nat}:(iO bs id k q).c id=q:=if_pos rfl
theorem kD {bs:Nm} {id k i:Nat} {q:Option Nat} (h:i≠id):(iO bs id k q).b i=bs.b i:=if_neg h
theorem HW {bs:Nm} {id k:Nat} {q:Option Nat}:(iO bs id k q).o id=0:=if_pos rfl
theorem ag5 {bs:Nm} {id k i:Nat} {q:Option Nat} (h:i≠id):(iO bs id k q).o i=bs.o i:=if_neg h
theorem A2 {bs:Nm} {id k i:Nat} {q:Option Nat} (h:i≠id):(iO bs id k q).c i=bs.c i:=if_neg h
theorem HR.gone (hR:HR w bs h) {id:Nat} (hid:id < 4096) (hn:bs.b id=none):h.get id=none:=by
 cases hg:h.get id with
 | none=>rfl
 | some b=>obtain⟨k,h1,_⟩:=hR.ig id b hid hg; grind
theorem HR.named (hR:HR w bs h) {id k:Nat} {q:Option Nat} (hid:id < 4096) (hn:bs.b id=none) (hc:bs.c id=none) (hnx:id < h.nx) (hM:Ext w w') (hkl:k < w'.heap.size):HR w' (iO bs id k q) h:=by
 have hle:=DE (k:=k) (q:=q) hn hc
 have hg:=hR.gone hid hn
 have hne:∀i b,h.get i=some b->i≠id:=λi b hb e=>by grind
 refine⟨λi c hi hb=>?_,λi j c d m hi hj hbi hbj hd h1 h2=>?_,λi m hm=>?_,λi hi=>?_⟩
 .obtain⟨m,h1,h3⟩:=hR.ig i c hi hb
  exact⟨m,hle.b _ _ h1,h3.mono (hM.cL m (hR.fp i m h1).2) hle (A2 (hne i c hb)) (ag5 (hne i c hb))⟩
 .rw[kD (hne i c hbi)] at h1
  rw[kD (hne j d hbj)] at h2
  exact hR.inj i j c d m hi hj hbi hbj hd h1 h2
 .by_cases e:i=id
  .rw[e,ov] at hm; grind
  .rw[kD e] at hm; exact⟨(hR.fp i m hm).1,lP (hR.fp i m hm).2 hM.size⟩
 .rw[kD om,A2 om]; exact hR.nx i hi
theorem HR.join (hR:HR w bs h) {id k:Nat} {b:Bl} (hk:bs.b id=some k) (hb:BR w bs id b k) (hno:¬mA h bs k):HR w bs (h.put id (some b)):=by
 have hid:=(hR.fp id k hk).1
 refine⟨λi c hi hc=>?_,λi j c d m hi hj hbi hbj hd h1 h2=>?_,hR.fp,hR.nx⟩
 .rw[Hp.lh hid hi] at hc
  by_cases e:i=id
  .grind
  .rw[if_neg e] at hc; exact hR.ig i c hi hc
 .rw[Hp.lh hid hi] at hbi
  rw[Hp.lh hid hj] at hbj
  by_cases ei:i=id
  .by_cases ej:j=id
   .rw[ei,ej]
   .rw[if_neg ej] at hbj
    rw[ei,hk] at h1; cases h1
    exact absurd ⟨j,d,hj,hbj,h2⟩ hno
  .rw[if_neg ei] at hbi
   by_cases ej:j=id
   .rw[ej,hk] at h2; cases h2
    exact absurd ⟨i,c,hi,hbi,h1⟩ hno
   .rw[if_neg ej] at hbj
    exact hR.inj i j c d m hi hj hbi hbj hd h1 h2
theorem aht {id k j:Nat} {b:Bl} (hid:id < 4096) (hk:bs.b id=some k) (ho:mA (h.put id (some b)) bs j):j=k\/mA h bs j:=by
 obtain⟨i,c,hi,hc,hm⟩:=ho
 rw[Hp.lh hid hi] at hc
 by_cases e:i=id
 .grind
 .rw[if_neg e] at hc; exact .inr ⟨i,c,hi,hc,hm⟩
theorem azE {id k j:Nat} {b:Bl} (hid:id < 4096) (hk:bs.b id=some k) (ho:k9 (h.put id (some b)) bs j):j=k\/k9 h bs j:=by
 obtain⟨i,c,hi,hc,hm,hx⟩:=ho
 rw[Hp.lh hid hi] at hc
 by_cases e:i=id
 .grind
 .rw[if_neg e] at hc; exact .inr ⟨i,c,hi,hc,hm,hx⟩
theorem Mv.join (hm:Mv w0 w bs0 bs h0 h) {id k:Nat} {b:Bl} (hid:id < 4096) (hk:bs.b id=some k) (hw:w0.heap.size<=k):Mv w0 w bs0 bs h0 (h.put id (some b)):=
 ⟨hm.os,hm.tape,hm.output,hm.size,hm.le,hm.nx,hm.low,hm.cL,λj hj ho=>by
  rcases azE hid hk ho with e | e
  .omega
  .exact hm.own j hj e,λj hj ho=>by
  rcases aht hid hk ho with e | e
  .omega
  .exact hm.l7 j hj e,hm.range⟩
theorem HR.made (hR:HR w bs h) {k:Nat} {q:Option Nat} {b:Bl} (hid:h.nx < 4096) (hM:Ext w w') (hk:w.heap.size<=k) (hkl:k < w'.heap.size) (hb:BR w' (iO bs h.nx k q) h.nx b k):HR w' (iO bs h.nx k q) ((⟨h.h,h.nx+1⟩:Hp).put h.nx (some b))/\Mv w w' bs (iO bs h.nx k q) h ((⟨h.h,h.nx+1⟩:Hp).put h.nx (some b)):=by
 obtain⟨hn,hc⟩:=hR.nx h.nx (fv _)
 have hle:=DE (k:=k) (q:=q) hn hc
 have h1:HR w' (iO bs h.nx k q) ⟨h.h,h.nx+1⟩:=HR.named (hR.AT (Gk _)) hid hn hc (Nat.lt_succ_self _) hM hkl
 have hnok:∀i c,i < 4096->h.get i=some c->bs.b i≠some k:=λi c _ _ e=>by have:=(hR.fp i k e).2; omega
 have hgone:=hR.gone hid hn
 have hno:¬mA ⟨h.h,h.nx+1⟩ (iO bs h.nx k q) k:=by
  rintro⟨i,c,hi,hc2,hm⟩
  have hc3:h.get i=some c:=hc2
  have hne:i≠h.nx:=λe=>by grind
  rw[kD hne] at hm
  exact hnok i c hi hc3 hm
 refine⟨h1.join ov hb hno,⟨hM.os,hM.tape,hM.output,hM.size,hle,Gk _,λi hi=>⟨kD om,A2 om⟩,λj hj _=>hM.cL j hj,λj hj ho=>?_,λj hj ho=>?_,λi m hm hlt=>?_⟩⟩
 .rcases azE hid ov ho with e | ⟨i,c,hi,hc2,hm,hx⟩
  .omega
  .have hc3:h.get i=some c:=hc2
   have hne:i≠h.nx:=λe=>by grind
   rw[kD hne] at hm
   exact⟨i,c,hi,hc3,hm,hx⟩
 .rcases aht hid ov ho with e | ⟨i,c,hi,hc2,hm⟩
  .omega
  .have hc3:h.get i=some c:=hc2
   have hne:i≠h.nx:=λe=>by grind
   rw[kD hne] at hm
   exact⟨i,c,hi,hc3,hm⟩
 .by_cases e:i=h.nx
  .rw[e,ov] at hm; cases hm; omega
  .rw[kD e] at hm; exact .inl hm
theorem HR.drop (hR:HR w bs h) {id:Nat} (hid:id < 4096):HR w bs (h.put id none):=by
 refine⟨λi c hi hb=>?_,λi j c d m hi hj hbi hbj hd h1 h2=>?_,hR.fp,hR.nx⟩
 .rw[Hp.lh hid hi] at hb
  by_cases e:i=id
  .grind
  .rw[if_neg e] at hb; exact hR.ig i c hi hb
 .rw[Hp.lh hid hi] at hbi
  rw[Hp.lh hid hj] at hbj
  by_cases e:i=id
  .grind
  .rw[if_neg e] at hbi
   by_cases e2:j=id
   .grind
   .rw[if_neg e2] at hbj; exact hR.inj i j c d m hi hj hbi hbj hd h1 h2
theorem Mv.drop {bs':Nm} {h':Hp} (hm:Mv w w' bs bs' h h') {id:Nat} (hid:id < 4096):Mv w w' bs bs' h (h'.put id none):=
 ⟨hm.os,hm.tape,hm.output,hm.size,hm.le,hm.nx,hm.low,hm.cL,λj hj ⟨i,c,hi,hc,hb⟩=>by
  rw[Hp.lh hid hi] at hc
  by_cases e:i=id
  .grind
  .rw[if_neg e] at hc; exact hm.own j hj ⟨i,c,hi,hc,hb⟩,λj hj ⟨i,c,hi,hc,hb⟩=>by
  rw[Hp.lh hid hi] at hc
  by_cases e:i=id
  .grind
  .rw[if_neg e] at hc; exact hm.l7 j hj ⟨i,c,hi,hc,hb⟩,hm.range⟩
theorem HR.renamed (hR:HR w bs h) {id k:Nat} {q:Option Nat} {b b':Bl} (hg:h.get id=some b) (hk:bs.b id=some k) (hro:b.ro=false) (hid':h.nx < 4096) (hM:Gw w w' k) (hb:BR w' (iO bs h.nx k q) h.nx b' k):HR w' (iO bs h.nx k q) (((⟨h.h,h.nx+1⟩:Hp).put h.nx (some b')).put id none)/\Mv w w' bs (iO bs h.nx k q) h (((⟨h.h,h.nx+1⟩:Hp).put h.nx (some b')).put id none):=by
 obtain⟨hn,hc⟩:=hR.nx h.nx (fv _)
 have hid:=(hR.fp id k hk).1
 have hne:id≠h.nx:=λe=>by grind
 have hle:=DE (k:=k) (q:=q) hn hc
 have hgone:=hR.gone hid' hn
 have hget:∀i,i < 4096->(((⟨h.h,h.nx+1⟩:Hp).put h.nx (some b')).put id none).get i=if i=id then none else if i=h.nx then some b' else h.get i:=λi hi=>by
  rw[Hp.lh hid hi,Hp.lh hid' hi]; rfl
 have hx:∀i c m,i < 4096->(((⟨h.h,h.nx+1⟩:Hp).put h.nx (some b')).put id none).get i=some c->(iO bs h.nx k q).b i=some m->(i=h.nx/\m=k/\c=b')\/(i≠id/\i≠h.nx/\h.get i=some c/\bs.b i=some m):=λi c m hi hb hm=>by
  rw[hget i hi] at hb
  by_cases e1:i=id
  .grind
  .rw[if_neg e1] at hb
   by_cases e2:i=h.nx
   .rw[if_pos e2] at hb; cases hb; rw[e2,ov] at hm; grind
   .rw[if_neg e2] at hb; rw[kD e2] at hm; grind
 refine⟨⟨λi c hi hb2=>?_,λi j c d m hi hj hbi hbj hd h1 h2=>?_,λi m hm=>?_,λi hi=>?_⟩,
  ⟨hM.os,hM.tape,hM.output,hM.size,hle,Gk _,λi hi=>⟨kD om,A2 om⟩,λj hj hn2=>hM.cL j hj (λe=>hn2 ⟨id,b,hid,hg,by grind,hro⟩),λj hj ⟨i,c,hi,hc2,hm,hx2⟩=>?_,λj hj ⟨i,c,hi,hc2,hm⟩=>?_,λi m hm _=>?_⟩⟩
 .have hb3:=hb2
  rw[hget i hi] at hb2
  by_cases e1:i=id
  .grind
  .rw[if_neg e1] at hb2
   by_cases e2:i=h.nx
   .rw[if_pos e2] at hb2; cases hb2
    rw[e2]
    exact⟨k,ov,hb⟩
   .rw[if_neg e2] at hb2
    obtain⟨m,h1,h3⟩:=hR.ig i c hi hb2
    have hm:m≠k:=λe=>e1 (hR.inj i id c b m hi hid hb2 hg hro h1 (by grind))
    exact⟨m,hle.b _ _ h1,h3.mono (hM.cL m (hR.fp i m h1).2 hm) hle (A2 e2) (ag5 e2)⟩
 .rcases hx i c m hi hbi h1 with ⟨a1,a2,_⟩ | ⟨a1,a2,a3,a4⟩
  .rcases hx j d m hj hbj h2 with ⟨b1,_,_⟩ | ⟨b1,b2,b3,b4⟩
   .rw[a1,b1]
   .exact absurd (hR.inj j id d b m hj hid b3 hg hro b4 (by grind)) b1
  .rcases hx j d m hj hbj h2 with ⟨b1,b2',_⟩ | ⟨b1,b2,b3,b4⟩
   .exact absurd (hR.inj i id c b m hi hid a3 hg hro a4 (by grind)) a1
   .exact hR.inj i j c d m hi hj a3 b3 hd a4 b4
 .by_cases e:i=h.nx
  .rw[e,ov] at hm; cases hm; rw[e]; exact⟨hid',lP (hR.fp id k hk).2 hM.size⟩
  .rw[kD e] at hm; exact⟨(hR.fp i m hm).1,lP (hR.fp i m hm).2 hM.size⟩
 .have hi':h.nx+1<=i:=hi
  rw[kD om,A2 om]; exact hR.nx i om
 .rcases hx i c j hi hc2 hm with ⟨_,a2,_⟩ | ⟨_,_,a3,a4⟩
  .exact⟨id,b,hid,hg,by grind,hro⟩
  .exact⟨i,c,hi,a3,a4,hx2⟩
 .rcases hx i c j hi hc2 hm with ⟨_,a2,_⟩ | ⟨_,_,a3,a4⟩
  .exact⟨id,b,hid,hg,by grind⟩
  .exact⟨i,c,hi,a3,a4⟩
 .by_cases e:i=h.nx
  .rw[e,ov] at hm; cases hm; exact .inr ⟨id,b,hid,hg,hk⟩
  .rw[kD e] at hm; exact .inl hm
end Go.Z
namespace Go.Z
open Go Go.Sym Go.RowKit
open Go.Ev (T K Ex DH DF a7)
variable [bI] [Env]
theorem aer {i j:Nat} (h:i < j):Nat.blt i j=true:=by rw[Ul]; exact h
theorem UG {i j:Nat} (h:¬i < j):Nat.blt i j=false:=by
 cases q:Nat.blt i j with
 | false=>rfl
 | true=>rw[Ul] at q; exact absurd q h
structure SR (bs:Nm) (s:Fr) (a:Act) (n:Nat):Prop where
 defers:a.defers=[]
 size:a.tmps.size=n
 le:n<=512
 get:∀d v,d < 512->s.get d=some v->∃u,a.tmps[d]?=some u/\VR bs v u
def ER (bs:Nm) (ρ:jy) (a:Act):Prop:=∀x v,ρ x=some v->VR bs v (a.eval x)
variable {P:Program} {bs bs':Nm} {s:Fr} {a:Act} {n:Nat} {w w':World} {h:Hp}
theorem SR.mono (hS:SR bs s a n) (hl:Le bs bs'):SR bs' s a n:=⟨hS.defers,hS.size,hS.le,λd v hd hv=>by obtain⟨u,h1,h2⟩:=hS.get d v hd hv; exact⟨u,h1,h2.mono hl⟩⟩
theorem SR.put (hS:SR bs s a n) {d:Option Nat} {v:V} {u:Value} {s':Fr} (hv:VR bs v u) (hp:qk n s d v=some s'):SR bs s' (a.put d u) n:=by
 unfold qk at hp
 cases d with
 | none=>simp only[cu] at hp; subst hp; exact hS
 | some d=>
  by_cases hd:d < n
  .have hb:=aer hd
   simp only[hb,cond_true,cu] at hp
   subst hp
   have hd2:d < 512:=lP hd hS.le
   refine⟨hS.defers,by simp[Act.put,hS.size],hS.le,λi x hi hx=>?_⟩
   have hg:=T.qe 9 s d i (some v) (show d < 512 from hd2) (show i < 512 from hi)
   rw[show DF=9 from rfl,hg] at hx
   by_cases e:i=d
   .rw[if_pos e,cu] at hx
    subst e hx
    exact⟨u,by simp[Act.put,hS.size,hd],hv⟩
   .rw[if_neg e] at hx
    obtain⟨u',h1,h2⟩:=hS.get i x hi hx
    refine⟨u',?_,h2⟩
    simp only[Act.put,aPn]
    rw[if_neg (λe'=>e e'.symm)]
    exact h1
  .have hb:=UG hd
   simp[hb] at hp
variable {F:Fx}
theorem aex:∀{l:List UInt8} {i:Nat},i < l.length->D (Ou l) i=((l.getD i 0).toNat:Int)
 | b::r,0,_=>rfl
 | b::r,i+1,h=>by
  rw[mz] at h
  show (if ((i+1:Nat):Int) < 1 then D (.i b.toNat) (i+1) else D (Ou r) (i+1 - 1))=_
  rw[if_neg om,Gi,aex om,List.getD_cons_succ]
theorem au4 {k:IntKind} {n:Int} (h:VA k n=true):gu k n:=by
 simp only[VA,ar,decide_eq_true_eq] at h
 exact h
theorem a9I (s:ByteArray):Ke (.i s.data.size) (Ou s.data.toList) (.string s):=by
 have hn:(N (.i (s.data.size:Int))).toNat=s.data.toList.length:=by show (s.data.size:Int).toNat=_; simp
 refine⟨kZ _,?_,λi hi=>?_⟩
 .rw[hn]
  show Value.string s=.string ⟨(_:List UInt8).toArray⟩
  congr 1
  obtain⟨⟨l⟩⟩:=s
  congr 2
  apply J0
  intro i
  rw[N1]
  by_cases h:i < l.length
  .have h':i < l.length:=h
   rw[Ge h',uo,aex h',Gd,ue h']
   simp
  .rw[CL om,CL (by simp; omega)]; rfl
 .have hi':i < s.data.toList.length:=by
   have:(i:Int) < (s.data.size:Int):=hi
   rw[T1]; omega
  rw[aex hi']
  have:=UInt8.toNat_lt ((s.data.toList).getD i 0)
  omega
theorem aty {bs:Nm} {c:Value} {x:C} (hc:OB c=some x):CR bs x c:=by
 unfold OB at hc
 split at hc
 .cases hc; rfl
 .obtain⟨h1,hc⟩:=cm hc; cases hc; exact⟨rfl,au4 h1⟩
 .cases hc; rfl
 .cases hc; rfl
 .cases hc; exact a9I _
 .cases hc; rfl
 .cases hc
theorem atA {bs:Nm}:∀{l:List Value} {xs:List C},l.mapM OB=some xs->aS bs (xs.map .c) l
 | [],xs,hx=>by simp at hx; subst hx; rfl
 | v::l,xs,hx=>by
  simp only[N3,ass,sD,asu,cu] at hx
  obtain⟨c,h1,r,h2,rfl⟩:=hx
  exact⟨v,l,rfl,aty h1,atA h2⟩
theorem atz {bs:Nm} {c:Value} {x:V} (hc:cst c=some x):VR bs x c:=by
 unfold cst at hc
 split at hc
 .rename_i cs
  simp only[eR] at hc
  obtain⟨l,h1,rfl⟩:=hc
  exact⟨cs.toList,atA h1,by rw[Array.toArray_toList]⟩
 .obtain⟨y,h1,rfl⟩:=eR.1 hc
  exact aty h1
theorem a1H (hS:SR bs s a n) {x:Operand} {v:V} (hx:dy s x=some v):VR bs v (a.eval x):=by
 cases x with
 | tmp t=>
  unfold dy at hx
  by_cases ht:t < 512
  .have hb:=aer ht
   simp only[hb,cond_true] at hx
   obtain⟨u,h1,h2⟩:=hS.get t v ht hx
   have:a.eval (.tmp t)=u:=by simp[Act.eval,h1]
   rw[this]; exact h2
  .have hb:=UG ht
   simp[hb] at hx
 | const c=>exact atz hx
 | global g=>cases hx
 | func f=>
  simp only[dy,cu] at hx
  subst hx
  exact⟨[],trivial,rfl⟩
theorem SR.env (hS:SR bs s a n):ER bs (dy s) a:=λ_ _ hx=>a1H hS hx
theorem aTI (k:IntKind):a7 k<=2 ^ k.bits:=by cases k <;>decide
theorem Q7 {k:IntKind} {m:Nat} (hm:m < a7 k):k.wrap (m:Int)=(m:Int):=als (by
 unfold gu
 cases k <;>simp only[a7,kc,fX] at hm ⊢ <;>omega)
theorem VS (k:IntKind):∃e,a7 k=2 ^ e:=by
 cases k
 .exact⟨7,rfl⟩
 .exact⟨15,rfl⟩
 .exact⟨31,rfl⟩
 .exact⟨63,rfl⟩
 .exact⟨8,rfl⟩
 .exact⟨16,rfl⟩
 .exact⟨32,rfl⟩
 .exact⟨64,rfl⟩
theorem DK {k:IntKind} {m:Nat} (hm:m < a7 k):(BitVec.ofInt k.bits (m:Int)).toNat=m:=by
 rw[arR,F5]
 exact dE (lP hm (aTI k))
theorem aQn {op:BinOp} {k:IntKind} {x y r:Nat} (hx:x < a7 k) (hy:y < a7 k) (hr:Go.Ev.bits op x y=some r):Op.intBits op k (x:Int) (y:Int)=pure (.int k (r:Int)):=by
 obtain⟨e,he⟩:=VS k
 unfold Go.Ev.bits at hr
 unfold Op.intBits
 cases op <;>simp only[cu,reduceCtorEq] at hr <;>subst hr <;>simp only
 .have hl:x &&& y < a7 k:=Gm N6 hx
  rw[arS,DK hx,DK hy,Q7 hl]
 .have hl:x ||| y < a7 k:=by rw[he] at hx hy ⊢; exact asg hx hy
  rw[adE,DK hx,DK hy,Q7 hl]
 .have hl:x ^^^ y < a7 k:=by rw[he] at hx hy ⊢; exact N8 hx hy
  rw[BitVec.toNat_xor,DK hx,DK hy,Q7 hl]
 .have hl:x ^^^ (x &&& y) < a7 k:=by
   have h2:x &&& y < a7 k:=Gm N6 hx
   rw[he] at hx h2 ⊢; exact N8 hx h2
  have e2:BitVec.ofInt k.bits (x:Int) &&& ~~~BitVec.ofInt k.bits (y:Int)=BitVec.ofInt k.bits (x:Int) ^^^ (BitVec.ofInt k.bits (x:Int) &&& BitVec.ofInt k.bits (y:Int)):=by
   ext i hi
   simp only[BitVec.getElem_and,BitVec.getElem_not,BitVec.getElem_xor]
   cases (BitVec.ofInt k.bits (x:Int))[i] <;>cases (BitVec.ofInt k.bits (y:Int))[i] <;>rfl
  rw[e2,BitVec.toNat_xor,arS,DK hx,DK hy,Q7 hl]
theorem qg {op:BinOp} {k k':IntKind} (h:k=k'\/op=.shl\/op=.shr) (h1:op≠.shl) (h2:op≠.shr):k=k':=by
 rcases h with h | h | h
 .exact h
 .exact absurd h h1
 .exact absurd h h2
theorem aQi {k k':IntKind} {t:TypeId} {x y:Int} (h:k=k'):binOp .and t (.int k x) (.int k' y)=Op.intBits .and k x y:=by subst h; rw[binOp_and]
theorem aQk {k k':IntKind} {t:TypeId} {x y:Int} (h:k=k'):binOp .or t (.int k x) (.int k' y)=Op.intBits .or k x y:=by subst h; rw[binOp_or]
theorem aQl {k k':IntKind} {t:TypeId} {x y:Int} (h:k=k'):binOp .xor t (.int k x) (.int k' y)=Op.intBits .xor k x y:=by subst h; rw[binOp_xor]
theorem aQj {k k':IntKind} {t:TypeId} {x y:Int} (h:k=k'):binOp .andNot t (.int k x) (.int k' y)=Op.intBits .andNot k x y:=by subst h; rw[binOp_andNot]
theorem aPE (k:IntKind) (a:R):O1 (kc k) a=λ_=>k.wrap (a 0):=by cases k <;>rfl
theorem au3 (k:IntKind) (n:Int):gu k (k.wrap n):=by
 have:=aFm (kc k) (by cases k <;>decide) n
 rw[alq] at this; exact this
theorem alr (hF:ah F) (k:IntKind) (x:X):N (vf F k x)=k.wrap (N x)/\gu k (N (vf F k x)):=by
 have hn:=uT x
 unfold vf
 dsimp only
 generalize gU x=y at hn
 rw[<- hn]
 cases hc:ay F (.i (fX (kc k)).1) y && ay F y (.i (fX (kc k)).2) with
 | true=>
  rw[ar] at hc
  have h:gu k (N y):=⟨aT hF hc.1,aT hF hc.2⟩
  exact⟨(als h).symm,h⟩
 | false=>
  rw[cond_false]
  clear hc hn
  split
  .exact⟨rfl,au3 k _⟩
  .have:N (.o1 (kc k) y)=k.wrap (N y):=by show O1 (kc k) _ 0=_; rw[aPE]; rfl
   rw[this]
   exact⟨rfl,au3 k _⟩
theorem Wh (f:Nat) (hf:f < 14) (a b:X):N (wH f a b)=O2 f (D a) (D b) 0:=by
 unfold wH
 split
 .rename_i n m
  show O2 f (λ_=>n) (λ_=>m) 0=O2 f (D (.i n)) (D (.i m)) 0
  exact congrFun (asj hf (a':=D (.i n)) (b':=D (.i m)) rfl rfl) 0
 .rfl
theorem Bi (hF:ah F) {x:X} {b:Bool} (h:Eb F x=some b):decide (N x≠0)=b:=by
 have eqa:∀{a c n:X},GQ F a c n=true->N (.o3 2 a c n)=1:=by
  intro a c n h
  show tf (decide (∀i:Nat,i < (D n 0).toNat->D a i=D c i))=1
  rw[decide_eq_true]
  .rfl
  .intro i hi
   have hi':i < (N n).toNat:=hi
   exact U3 hF h i om
 unfold Eb at h
 split at h
 .rcases fF h with ⟨hc,h⟩ | ⟨_,h⟩
  .cases h; rw[eqa hc]; rfl
  .exact uK hF h
 .rename_i a c n
  have e:decide (N (.o1 8 (.o3 2 a c n))≠0)=!decide (N (.o3 2 a c n)≠0):=by
   show decide (tf (decide (N (.o3 2 a c n)=0))≠0)=_
   rw[gX]
   by_cases h0:N (.o3 2 a c n)=0 <;>simp[h0]
  rw[e]
  rcases fF h with ⟨hc,h⟩ | ⟨_,h⟩
  .cases h; rw[eqa hc]; rfl
  .obtain⟨b',hb,rfl⟩:=eR.1 h
   rw[uK hF hb]
 .exact Ec hF h
theorem aZV {bs:Nm} (hF:ah F) (x:X):CR bs (rh F x) (.bool (decide (N x≠0))):=by
 unfold rh
 split
 .rename_i b h; rw[Bi hF h]; rfl
 .rfl
theorem wI {bs:Nm} (hF:ah F) {x:X} {b:Bool} (h:N x=tf b):CR bs (rh F x) (.bool b):=by
 have:=aZV (bs:=bs) hF x
 rw[h,gX] at this; exact this
theorem J3 (x:X):N (.o1 8 x)=tf (decide (N x=0)):=rfl
theorem QM (b:Bool):tf (decide (tf b=0))=tf (!b):=by cases b <;>rfl
theorem ag0 (hF:ah F) {k:IntKind} {x:X} (h:sX F k x=true) (hr:gu k (N x)):∃m:Nat,N x=m/\m < a7 k:=by
 simp only[sX,dt] at h
 have h0:0<=N x:=by
  rcases h with h | h
  .unfold gu at hr
   cases k <;>simp only[nnK,sr] at h <;>exact hr.1
  .exact aT hF h
 refine⟨(N x).toNat,by omega,?_⟩
 have:=hr.2
 cases k <;>simp only[kc,fX] at this <;>simp only[a7] <;>omega
theorem aTc {k:IntKind} {m:Nat} (h:m < a7 k):gu k (m:Int):=by
 unfold gu
 cases k <;>simp only[a7,kc,fX] at h ⊢ <;>omega
theorem aTb {k:IntKind} {a b:Int} (h:gu k a) (h1:0<=b) (h2:b<=a):gu k b:=by
 unfold gu at h ⊢
 cases k <;>simp only[kc,fX] at h ⊢ <;>omega
theorem aZX (hF:ah F) {x y:X} (h0:0 < N y):N (Wi F x y)=(N x).tmod (N y):=by
 unfold Wi
 cases h:ay F (.i 0) x && jq F x y with
 | false=>exact Wh 4 dc x y
 | true=>
  rw[ar] at h
  have h1:0<=N x:=aT hF h.1
  have h2:=lZ hF h.2
  exact (((X1 (a:=N x) h0).2.2 h1).2 h2).symm
theorem aQh {bs:Nm} (hF:ah F) {op:BinOp} {k k':IntKind} {x y:X} {c:C} (t:TypeId) (hk:k=k'\/op=.shl\/op=.shr) (hx:gu k (N x)) (hy:gu k' (N y)) (hc:aen F op k x y=some c):∃v,binOp op t (.int k (N x)) (.int k' (N y))=pure v/\CR bs c v:=by
 unfold aen at hc
 have wr:∀{z:X} {m:Int},N z=m->CR bs (.int k (vf F k z)) (.int k (k.wrap m)):=λ{z m} h=>by
  have:=alr hF k z
  rw[h] at this
  exact⟨by rw[this.1],this.2⟩
 have bit:∀{op:BinOp} {f:Nat},f < 14->(∀m n:Nat,∃r,Go.Ev.bits op m n=some r/\∀a b:R,a 0=(m:Int)->b 0=(n:Int)->O2 f a b 0=(r:Int))->(bif sX F k x && sX F k y then some (C.int k (wH f x y)) else none)=some c->k=k'->(∀m n r:Nat,m < a7 k->n < a7 k->Go.Ev.bits op m n=some r->r < a7 k)->∃v,(Op.intBits op k (N x) (N y):Sem Value)=pure v/\CR bs c v:=by
  intro op f hf hr h hk hlt
  subst hk
  obtain⟨hb,h⟩:=cm h
  cases h
  rw[ar] at hb
  obtain⟨m,hm,hml⟩:=ag0 hF hb.1 hx
  obtain⟨n,hn,hnl⟩:=ag0 hF hb.2 hy
  obtain⟨r,h1,h2⟩:=hr m n
  refine⟨_,by rw[hm,hn]; exact aQn hml hnl h1,?_⟩
  have e:=(Wh f hf x y).trans (h2 (D x) (D y) hm hn)
  exact⟨by rw[e],by rw[e]; exact aTc (hlt m n r hml hnl h1)⟩
 have nat0:∀{a:R} {m:Nat},a 0=(m:Int)->(a 0).toNat=m:=λh=>by rw[h]; exact fg _
 cases op
 case add=>have hk:=qg hk dc dc; subst hk; simp only[cu] at hc; subst hc; exact⟨_,by rw[binOp_add]; unfold Op.intArith; rfl,wr rfl⟩
 case sub=>have hk:=qg hk dc dc; subst hk; simp only[cu] at hc; subst hc; exact⟨_,by rw[binOp_sub]; unfold Op.intArith; rfl,wr rfl⟩
 case mul=>have hk:=qg hk dc dc; subst hk; simp only[cu] at hc; subst hc; exact⟨_,by rw[binOp_mul]; unfold Op.intArith; rfl,wr rfl⟩
 case quo=>
  have hk:=qg hk dc dc; subst hk
  obtain⟨h0,hc⟩:=cm hc
  cases hc
  have h0:0 < N y:=lZ hF h0
  exact⟨.int k (k.wrap ((N x).tdiv (N y))),by rw[binOp_quo]; unfold Op.intDiv; rw[if_neg om],wr (Wh 3 dc x y)⟩
 case rem=>
  have hk:=qg hk dc dc; subst hk
  obtain⟨h0,hc⟩:=cm hc
  cases hc
  have h0:0 < N y:=lZ hF h0
  have e:N (Wi F x y)=(N x).tmod (N y):=aZX hF h0
  refine⟨.int k ((N x).tmod (N y)),by rw[binOp_rem]; unfold Op.intDiv; rw[if_neg om],by rw[e],?_⟩
  rw[e]
  have hm:=X1 (a:=N x) h0
  unfold gu at hx hy ⊢
  rcases Int.lt_or_le (N x) 0 with hneg | hpos
  .have hle:N x<=(N x).tmod (N y)/\(N x).tmod (N y)<=0:=by
    have h3:(N x).tmod (N y)=-((-(N x)) % (N y)):=by
     rw[<- JY (by omega:(0:Int)<= -(N x)),Int.neg_tmod]; omega
    have h4:=NY (-(N x)) (by omega:N y≠0)
    have h5:(-(N x)) % (N y)<= -(N x):=by
     rcases Int.lt_or_le (-(N x)) (N y) with q | q
     .rw[T6 om q]; exact aP _
     .have:=NX (-(N x)) h0; omega
    omega
   cases k <;>simp only[kc,fX] at hx hy ⊢ <;>omega
  .have:=hm.2.2 hpos
   cases k <;>simp only[kc,fX] at hx hy ⊢ <;>omega
 case and=>
  have hk:=qg hk dc dc
  rw[aQi hk]
  exact bit (op:=.and) dc (λm n=>⟨_,rfl,λa b ha hb=>by show (((a 0).toNat &&& (b 0).toNat:Nat):Int)=_; rw[nat0 ha,nat0 hb]⟩) hc hk (λm n r hm hn h=>by cases h; exact Gm N6 hm)
 case or=>
  have hk:=qg hk dc dc
  rw[aQk hk]
  exact bit (op:=.or) dc (λm n=>⟨_,rfl,λa b ha hb=>by show (((a 0).toNat ||| (b 0).toNat:Nat):Int)=_; rw[nat0 ha,nat0 hb]⟩) hc hk (λm n r hm hn h=>by cases h; obtain⟨e,he⟩:=VS k; rw[he] at hm hn ⊢; exact asg hm hn)
 case xor=>
  have hk:=qg hk dc dc
  rw[aQl hk]
  exact bit (op:=.xor) dc (λm n=>⟨_,rfl,λa b ha hb=>by show (((a 0).toNat ^^^ (b 0).toNat:Nat):Int)=_; rw[nat0 ha,nat0 hb]⟩) hc hk (λm n r hm hn h=>by cases h; obtain⟨e,he⟩:=VS k; rw[he] at hm hn ⊢; exact N8 hm hn)
 case andNot=>
  have hk:=qg hk dc dc
  rw[aQj hk]
  exact bit (op:=.andNot) dc (λm n=>⟨_,rfl,λa b ha hb=>by show (((a 0).toNat ^^^ ((a 0).toNat &&& (b 0).toNat):Nat):Int)=_; rw[nat0 ha,nat0 hb]⟩) hc hk (λm n r hm hn h=>by cases h; obtain⟨e,he⟩:=VS k; have h2:m &&& n < a7 k:=Gm N6 hm; rw[he] at hm h2 ⊢; exact N8 hm h2)
 case shl=>
  have sh:∀m:Nat,N y=(m:Int)->m<=k.bits->binOp .shl t (.int k (N x)) (.int k' (N y))=pure (.int k (k.wrap (N x*((2 ^ m:Nat):Int)))):=by
   intro m hm hle
   rw[hm,binOp_shl]
   unfold Op.shift
   rw[if_neg (show ¬((m:Int) < 0) by omega)]
   simp only[fg,ad2 hle]
   congr 3
   try simp
  simp only at hc
  split at hc
  .rename_i m hl
   obtain⟨hb,hc⟩:=cm hc
   cases hc
   exact⟨_,sh m (sQ hl) (wh hb),wr rfl⟩
  .obtain⟨hb,hc⟩:=cm hc
   cases hc
   rw[ar] at hb
   have h0:0<=N y:=aT hF hb.1
   have h1:N y<=(k.bits:Int):=aT hF hb.2
   exact⟨_,sh (N y).toNat om om,wr rfl⟩
 case shr=>
  obtain⟨hb,hc⟩:=cm hc
  cases hc
  simp only[ar] at hb
  obtain⟨m,hm,hml⟩:=ag0 hF hb.1 hx
  have h0:0<=N y:=aT hF hb.2.1
  have h1:N y<=(k.bits:Int):=aT hF hb.2.2
  obtain⟨n,hn⟩:∃n:Nat,N y=n:=⟨(N y).toNat,by omega⟩
  have e:N (wH 10 x y)=((m>>>n:Nat):Int):=by
   rw[Wh 10 dc]
   show (((N x).toNat>>>(N y).toNat:Nat):Int)=_
   rw[hm,hn,fg,fg]
  refine⟨.int k ((m>>>n:Nat):Int),?_,by rw[e],?_⟩
  .rw[hm,hn,binOp_shr]
   unfold Op.shift
   rw[if_neg (show ¬((n:Int) < 0) by omega)]
   simp only[fg]
   rw[aSj,ad2 om,qQ]
  .rw[e]
   refine aTb hx (kZ _) ?_
   rw[hm,qQ]
   exact Gb.2 (adZ _ _)
 case eql=>have hk:=qg hk dc dc; subst hk; simp only[cu] at hc; subst hc; exact⟨.bool (decide (N x=N y)),by rw[binOp_eql]; exact congrArg _ (congrArg _ rfl),wI hF rfl⟩
 case neq=>have hk:=qg hk dc dc; subst hk; simp only[cu] at hc; subst hc; exact⟨.bool (!decide (N x=N y)),by rw[binOp_neq]; exact congrArg _ (congrArg _ rfl),wI hF ((J3 _).trans (QM _))⟩
 case lss=>have hk:=qg hk dc dc; subst hk; simp only[cu] at hc; subst hc; exact⟨.bool (decide (N x < N y)),by rw[binOp_lss],wI hF rfl⟩
 case gtr=>have hk:=qg hk dc dc; subst hk; simp only[cu] at hc; subst hc; exact⟨.bool (decide (N y < N x)),by rw[binOp_gtr],wI hF rfl⟩
 case leq=>have hk:=qg hk dc dc; subst hk; simp only[cu] at hc; subst hc; exact⟨.bool (decide (N x<=N y)),by rw[binOp_leq],wI hF ((J3 _).trans ((QM _).trans (congrArg tf (by rw[<- decide_not]; exact decide_eq_decide.2 T8))))⟩
 case geq=>have hk:=qg hk dc dc; subst hk; simp only[cu] at hc; subst hc; exact⟨.bool (decide (N y<=N x)),by rw[binOp_geq],wI hF ((J3 _).trans ((QM _).trans (congrArg tf (by rw[<- decide_not]; exact decide_eq_decide.2 T8))))⟩
end Go.Z
namespace Go.Z
open Go Go.Sym Go.RowKit
open Go.Ev (T K Ex DH DF)
variable [bI] [Env]
structure dm (P:Program) (I:Info):Prop where
 td:∀t d,I.td t=some d->P.underlying t=some d
 sz:∀t n,I.sz t=some n->(P.info? t).map (·.size)=some n
 zs:∀t z,I.zs t=some z->∃i zv,P.info? t=some i/\i.zero=some zv/\∃cs:List Value,zv.cells=cs.toArray/\(∀n,I.sz t=some n->cs.length=n)/\aS Nm.no z cs
 eg:∀t,I.eg t=true->P.eqGuardType P.depth t=false
 fl:∀t fs,I.td t=some (.struct fs)->∀f∈fs.toList,(P.info? f.type).isSome=true
 el:∀t m e,I.td t=some (.array m e)->(P.info? e).isSome=true
 b1:∀e i,I.td e=some (.int .u8)->P.info? e=some i->i.bytes<=8
 by_:∀e n i,I.sz e=some n->P.info? e=some i->i.bytes<=1048576
 F:ah I.F
variable {P:Program} {I:Info} {bs bs':Nm} {s:Fr} {ρ:jy} {a:Act} {n:Nat} {w w':World} {h h':Hp} {v:V}
theorem sI {i j:Nat} (h:Nat.ble i j=true):i<=j:=wh h
theorem iw {i j:Nat} (h:Nat.blt i j=true):i < j:=by rwa [Ul] at h
theorem beq_eq {i j:Nat} (h:Nat.beq i j=true):i=j:=iJ h
theorem aEt:∀(vs cs:List Value) (off j:Nat),off+vs.length<=cs.length->(jG cs off vs)[j]?=if off<=j/\j < off+vs.length then vs[j - off]? else cs[j]?
 | [],cs,off,j,_=>by rw[jG,if_neg (by simp only[List.length_nil]; omega)]
 | v::vs,cs,off,j,hle=>by
  rw[mz] at hle
  rw[jG,aEt vs _ _ _ (by rw[List.length_set]; omega),mz]
  by_cases h1:off+1<=j/\j < off+1+vs.length
  .rw[if_pos h1,if_pos om,show j - off=(j - (off+1))+1 by omega,eD]
  .rw[if_neg h1]
   by_cases e:j=off
   .rw[if_pos om,e,yw,ar5,List.getElem?_set_self om]
   .rw[if_neg om,List.getElem?_set_ne (λe'=>e e'.symm)]
theorem akM {as us ws vs:List Value} (h:us.length=vs.length):jG (as++(us++ws)) as.length vs=as++(vs++ws):=by
 apply J0
 intro j
 rw[aEt _ _ _ _ (by rw[eK,eK]; omega)]
 by_cases h1:j < as.length
 .rw[if_neg om,ud h1,ud h1]
 .have h1':as.length<=j:=by omega
  have e2:(as++(vs++ws))[j]?=(vs++ws)[j - as.length]?:=sA h1'
  have e1:(as++(us++ws))[j]?=(us++ws)[j - as.length]?:=sA h1'
  rw[e1,e2]
  by_cases h2:j < as.length+vs.length
  .rw[if_pos ⟨h1',h2⟩,ud om]
  .have e3:(us++ws)[j - as.length]?=ws[j - as.length - us.length]?:=sA om
   have e4:(vs++ws)[j - as.length]?=ws[j - as.length - vs.length]?:=sA om
   rw[if_neg om,e3,e4,h]
theorem aun:∀(vs cs:List Value) (off i:Nat),(vs.zipIdx i).foldl (λ(cs:Array Value) (p:Value×Nat)=>cs.setIfInBounds (off+p.2) p.1) cs.toArray=(jG cs (off+i) vs).toArray
 | [],cs,off,i=>rfl
 | v::vs,cs,off,i=>by
  rw[List.zipIdx_cons,List.foldl_cons,jG,List.setIfInBounds_toArray,aun vs _ off (i+1),Nat.add_assoc]
theorem aSk {pl:Nat->Option (Nat×Nat)} {cs vs:List Value} {i o k:Nat} {u:Value} {r:List (Nat×Value)} (hp:pl i=some (o,k)) (hu:u.cells=vs.toArray) (hk:vs.length=k) (hle:o+k<=cs.length):Instr.fill pl cs.toArray ((i,u)::r)=Instr.fill pl (jG cs o vs).toArray r:=by
 have hsz:u.cells.size=k:=by rw[hu]; simpa using hk
 have hf:(u.cells.zipIdx.foldl (λcs (p:Value×Nat)=>cs.setIfInBounds (o+p.2) p.1) cs.toArray)=(jG cs o vs).toArray:=by
  have h1:=aun vs cs o 0
  rw[Nat.add_zero] at h1
  rw[hu,<- h1]
  simp
 show (match pl i with
  | none=>none
  | some (off,size)=>if u.cells.size≠size || off+u.cells.size>cs.toArray.size then none else Instr.fill pl (u.cells.zipIdx.foldl (λcs (p:Value×Nat)=>cs.setIfInBounds (off+p.2) p.1) cs.toArray) r)=_
 rw[hp]
 simp only
 rw[hf,if_neg]
 simp only[hsz,asa,ne_eq,not_true,decide_false,Bool.false_or,decide_eq_true_eq]
 omega
def Gt (bs:Nm):List (Nat×Option V)->List (Nat×Value)->Prop
 | [],[]=>True
 | (i,x)::r,(j,u)::s=>i=j/\(∀v,x=some v->VR bs v u)/\Gt bs r s
 | _,_=>False
theorem Vl (hF:ah I.F) {d:TypeDesc} {pl:Nat->Option (Nat×Nat)} (hpl:∀i q,place I d i=some q->pl i=some q):∀(ps:List (Nat×Option V)) (rs:List (Nat×Value)) (z c:List ai) (cs:List Value),Gt bs ps rs->aS bs z cs->Ib I d z ps=some c->∃cs':List Value,Instr.fill pl cs.toArray rs=some cs'.toArray/\cs'.length=cs.length/\aS bs c cs'
 | [],[],z,c,cs,_,hz,he=>by simp only[Ib,cu] at he; subst he; exact⟨cs,rfl,rfl,hz⟩
 | (i,none)::r,(j,u)::s,z,c,cs,hp,hz,he=>by simp[Ib] at he
 | (i,some v)::r,(j,u)::s,z,c,cs,hp,hz,he=>by
  obtain⟨rfl,hv,hr⟩:=hp
  simp only[Ib] at he
  split at he
  .rename_i l o k hl hq
   obtain⟨hb,he⟩:=cm he
   obtain⟨b,hb',he⟩:=sD.1 he
   obtain⟨vs,h1,h2⟩:=(hv v rfl).cells hl
   have hk:N (q9 l)=(k:Int):=gq hF hb
   have hvl:=h2.len
   obtain⟨as,us,ws,rfl,e1,e2,e3⟩:=aED hF hb' hz h2 (by rw[hvl,hk]; rfl) (aP _)
   have e2:as.length=o:=e2
   have hle:o+k<=(as++(us++ws)).length:=by rw[eK,eK]; omega
   rw[aSk (hpl _ _ hq) h1 om hle,<- e2,akM e1]
   obtain⟨cs',f1,f2,f3⟩:=Vl hF hpl r s b c (as++(vs++ws)) hr e3 he
   exact⟨cs',f1,by rw[f2]; simp only[eK]; omega,f3⟩
  .cases he
 | [],_::_,_,_,_,hp,_,_=>hp.elim
 | _::_,[],_,_,_,hp,_,_=>hp.elim
theorem Gt.of (hE:ER bs ρ a):∀l:List (Nat×Operand),Gt bs (l.map λ(i,x)=>(i,ρ x)) (l.map λ(i,x)=>(i,a.eval x))
 | []=>trivial
 | (_,x)::l=>⟨rfl,λv hv=>hE x v hv,Gt.of hE l⟩
end Go.Z
namespace Go.Sym
open Go Go.RowKit
section
variable {P:Program} {Q:Exit->Act->World->Prop} {a:Act} {w w0 w1:World} {n:Nat} {E:Nat->Option Value} {L Lx:List dC} {ops:Array Oper} {rest:List Oper}
variable {dst:Option Nat} {ty:TypeId} {pos:String} {af:Array Edge} {g:Option (Nat×Bool)}
theorem a88 {t e:TypeId} {m:Nat} {d:TypeDesc} (ht:P.underlying t=some (.array m e)) (he:P.underlying e=some d) (hd:Kl d=false) (hsz:(P.info? e).map (·.size)=some 1) (F G:Nat->Value) (c:Nat->Bool) (hc:∀i w,i < m->(Op.equalIn 9999 e (F i) (G i)).run P w=.ok (c i) w) (w:World):(binOp .neq t (.agg (cells m F).toArray) (.agg (cells m G).toArray)).run P w=.ok (.bool (!(List.range m).all c)) w:=by
 have h:=aEf (P:=P) ht he hd hsz F G c hc w
 rw[run_eql_struct] at h
 rw[run_neq_struct]
 cases hr:(Op.equalIn 10000 t (.agg (cells m F).toArray) (.agg (cells m G).toArray)).run P w with
 | ok b w'=>
  rw[hr] at h
  simp only[Gv,Result.ok.injEq,Value.bool.injEq] at h
  simp only[Gv,h.1,h.2]
 | _=>rw[hr] at h; simp at h
end
end Go.Sym
namespace Go.Z
open Go Go.Sym Go.RowKit
open Go.Ev (T K Ex DH DF a7)
variable [bI] [Env]
variable {P:Program} {I:Info} {F:Fx} {bs bs':Nm} {s:Fr} {ρ:jy} {a:Act} {n:Nat} {w w':World} {h h':Hp} {v:V}
variable {dst:Option Nat} {ty:TypeId} {pos:String} {af:Array Edge} {g:Option (Nat×Bool)}
theorem as5 {u:Value} {b:Bool} (hu:VR bs (.c (.bool b)) u):u=.bool b:=hu
theorem VC (d:TypeDesc):isAgg d=Kl d:=by cases d <;>rfl
theorem m9 {α:Type} {b:Bool} {x:α} {v:α} (h:(bif b then some x else none)=some v):b=true/\x=v:=by
 cases b with
 | true=>exact⟨rfl,Option.some.inj h⟩
 | false=>cases h
theorem a0E {u:Value} {x:V} {i:X} (hx:wP x=some i) (hu:VR bs x u):∃k,u=.int k (N i)/\gu k (N i):=by
 unfold wP at hx
 split at hx
 .rename_i k z
  cases hx
  exact⟨k,hu⟩
 .cases hx
theorem HX (hE:ER bs ρ a) {y:Operand} {i:X} (hy:(ρ y).bind wP=some i):∃k,a.eval y=.int k (N i):=by
 obtain⟨x,h1,h2⟩:=sD.1 hy
 obtain⟨k,h3,_⟩:=a0E h2 (hE y x h1)
 exact⟨k,h3⟩
def jR (P:Program) (a:Act) (bs:Nm) (op:Op) (v:V):Prop:=
 ∀(dst:Option Nat) (ty:TypeId) (pos:String) (af:Array Edge) (g:Option (Nat×Bool)) (w:World),∃u,cR P a ⟨dst,op,ty,pos,af,g⟩ w u/\VR bs v u
theorem a7v (hE:ER bs ρ a) {c x y:Operand} (he:pop I ρ (.pick c x y)=some v):jR P a bs (.pick c x y) v:=by
 intro dst ty pos af g w
 simp only[pop] at he
 split at he
 .rename_i hc
  exact⟨_,by simp[cR,execOp,as5 (hE _ _ hc),asBool],hE _ _ he⟩
 .rename_i hc
  exact⟨_,by simp[cR,execOp,as5 (hE _ _ hc),asBool],hE _ _ he⟩
 .rename_i z hc
  have hc':a.eval c=.bool (decide (N z≠0)):=hE _ _ hc
  split at he
  .rename_i k p k' q hx hy
   obtain⟨hk,rfl⟩:=m9 he
   have hk:=uI hk
   subst hk
   obtain⟨hp,hp2⟩:=hE _ _ hx
   obtain⟨hq,hq2⟩:=hE _ _ hy
   by_cases h0:N z=0
   .refine⟨.int k (N q),by simp[cR,execOp,hc',h0,asBool,hq],?_,?_⟩
    .show _=Value.int k (if D z 0=0 then D q 0 else D p 0); rw[if_pos (show D z 0=0 from h0)]; rfl
    .show gu k (if D z 0=0 then D q 0 else D p 0); rw[if_pos (show D z 0=0 from h0)]; exact hq2
   .refine⟨.int k (N p),by simp[cR,execOp,hc',h0,asBool,hp],?_,?_⟩
    .show _=Value.int k (if D z 0=0 then D q 0 else D p 0); rw[if_neg (show ¬D z 0=0 from h0)]; rfl
    .show gu k (if D z 0=0 then D q 0 else D p 0); rw[if_neg (show ¬D z 0=0 from h0)]; exact hp2
  .rename_i hx hy
   cases he
   have hx':a.eval x=.bool true:=hE _ _ hx
   have hy':a.eval y=.bool false:=hE _ _ hy
   refine⟨.bool (decide (N z≠0)),?_,rfl⟩
   by_cases h0:N z=0
   .simp[cR,execOp,hc',h0,asBool,hy']
   .simp[cR,execOp,hc',h0,asBool,hx']
  .cases he
 .cases he
theorem a7u (hE:ER bs ρ a) {x:Operand} (he:pop I ρ (.nilCheck x)=some v):jR P a bs (.nilCheck x) v:=by
 intro dst ty pos af g w
 simp only[pop] at he
 split at he
 .rename_i id off e hx
  cases he
  have hv:=hE _ _ hx
  obtain⟨k,hk,h0,hu⟩:=hv
  exact⟨_,by simp[cR,execOp,hu],hE _ _ hx⟩
 .rename_i f l hx
  cases he
  have hv:=hE _ _ hx
  obtain⟨vs,hk,hu⟩:=hv
  exact⟨_,by simp[cR,execOp,hu],hE _ _ hx⟩
 .cases he
theorem mapM_some {α β:Type} {f:α->Option β}:∀{l:List α},(∀x∈l,∃y,f x=some y)->∃r,l.mapM f=some r
 | [],_=>⟨[],rfl⟩
 | x::l,h=>by
  obtain⟨y,hy⟩:=h x mh
  obtain⟨r,hr⟩:=mapM_some (l:=l) λz hz=>h z (mt hz)
  exact⟨y::r,by simp[N3,hy,hr]⟩
theorem ayp {α β:Type} {f:α->Option β}:∀{l:List α} {r:List β},l.mapM f=some r->∀(i:Nat) (x:α),l[i]?=some x->f x=r[i]?
 | [],r,_,i,x,hx=>by simp at hx
 | y::l,r,h,i,x,hx=>by
  simp only[N3,ass,sD,asu,cu] at h
  obtain⟨z,h1,r',h2,rfl⟩:=h
  cases i with
  | zero=>simp at hx; subst hx; simp[h1]
  | succ i=>rw[eD] at hx ⊢; exact ayp h2 i x hx
theorem aui {f:Option (Array Value)} {c:List ai} {m:Nat} (h:∃cs':List Value,f=some cs'.toArray/\cs'.length=m/\aS bs c cs'):∃cs':List Value,f=some cs'.toArray/\aS bs c cs':=by
 obtain⟨cs',h1,_,h3⟩:=h
 exact⟨cs',h1,h3⟩
theorem a7h (hI:dm P I) (hE:ER bs ρ a) {t:TypeId} {ps:Array (Nat×Operand)} (he:pop I ρ (.build t ps)=some v):jR P a bs (.build t ps) v:=by
 intro dst ty pos af g w
 simp only[pop] at he
 split at he
 case h_2=>cases he
 rename_i z d hz hd
 obtain⟨hb,he⟩:=cm he
 obtain⟨c,hc,rfl⟩:=eR.1 he
 obtain⟨i,zv,h1,h2,cs,h3,h4,h5⟩:=hI.zs t z hz
 have key:∃cs':List Value,P.built t (ps.map λ(i,x)=>(i,a.eval x)).toList=some cs'.toArray/\aS bs c cs':=by
  have hp:=Gt.of hE ps.toList
  have hl:(ps.map λ(p:Nat×Operand)=>(p.1,a.eval p.2)).toList=ps.toList.map λ(p:Nat×Operand)=>(p.1,a.eval p.2):=by simp
  unfold Program.built
  rw[h1,hI.td t d hd]
  cases d with
  | array k e=>
   simp only
   obtain⟨ie,hie⟩:=ast.1 (hI.el t k e hd)
   rw[h2,hie]
   simp only
   rw[h3,hl]
   refine aui (Vl hI.F (d:=.array k e) (pl:=λi=>some (i*ie.size,ie.size)) (λi q hq=>by
    simp only[place,eR] at hq
    obtain⟨ke,hke,rfl⟩:=hq
    have:=hI.sz e ke hke
    rw[hie] at this
    simp only[uo,cu] at this
    rw[this]) _ _ z c cs hp (h5.mono (Le.bot _)) hc)
  | struct fs=>
   simp only
   obtain⟨pl,hpl⟩:∃pl,fs.toList.mapM (λf=>(P.info? f.type).map λi=>(f.offset,i.size))=some pl:=mapM_some λf hf=>by
    obtain⟨ie,hie⟩:=ast.1 (hI.fl t fs hd f hf)
    exact⟨_,by rw[hie]; rfl⟩
   rw[h2,hpl]
   simp only
   rw[h3,hl]
   refine aui (Vl hI.F (d:=.struct fs) (pl:=λi=>pl.toArray[i]?) (λi q hq=>by
    simp only[place] at hq
    split at hq
    .rename_i f hf
     obtain⟨ke,hke,rfl⟩:=eR.1 hq
     have h7:=ayp hpl i f (by simpa using hf)
     have:=hI.sz _ ke hke
     obtain⟨ie,hie,hie2⟩:=eR.1 this
     rw[hie] at h7
     simp only[uo,hie2] at h7
     simpa using h7.symm
    .cases hq) _ _ z c cs hp (h5.mono (Le.bot _)) hc)
  | _=>cases hb
 obtain⟨cs',h6,h8⟩:=key
 refine⟨.agg cs'.toArray,?_,cs',h8,rfl⟩
 have:=run_build (P:=P) w t _ _ h6
 simp[cR,execOp,this]
theorem OH {op:BinOp} {b:Bool} (he:GU op b=some v):(op=.eql/\v=.c (.bool b))\/(op=.neq/\v=.c (.bool (!b))):=by
 unfold GU at he
 cases op <;>simp at he
 .exact .inl ⟨rfl,he.symm⟩
 .exact .inr ⟨rfl,he.symm⟩
theorem atW {op:BinOp} {x:X} (he:U4 F op x=some v):(op=.eql/\v=.c (rh F x))\/(op=.neq/\v=.c (rh F (.o1 8 x))):=by
 unfold U4 at he
 cases op <;>simp at he
 .exact .inl ⟨rfl,he.symm⟩
 .exact .inr ⟨rfl,he.symm⟩
theorem VE (hI:dm P I) {t:TypeId} (h:VD I t=true):P.underlying t=some (.pointer (P.pointee t)):=by
 unfold VD at h
 split at h
 .rename_i e hd
  have:=hI.td t _ hd
  unfold Program.pointee; rw[this]
 .cases h
theorem VF (hI:dm P I) {t:TypeId} (h:q7 I t=true):∃e,P.underlying t=some (.slice e):=by
 unfold q7 at h
 split at h
 .rename_i e hd; exact⟨e,hI.td t _ hd⟩
 .cases h
theorem ato (vs:List Value):cells vs.length (lY undef vs)=vs:=by
 apply J0
 intro i
 by_cases hi:i < vs.length
 .rw[Oy hi,lY,Gd,ue hi]; rfl
 .rw[CL (show vs.length<=i by omega),CL (show (cells vs.length (lY undef vs)).length<=i by rw[UP]; omega)]
theorem eqN (x y n:X):N (.o3 2 x y n)=tf (decide (∀i:Nat,i < (N n).toNat->D x i=D y i)):=rfl
def Vw:Value->Int
 | .int _ n=>n
 | _=>0
theorem a84 (hI:dm P I) {t:TypeId} {k:IntKind} {nx ny x y:X} {us vs:List Value} {m:Nat} (hx:t9 [k] nx x us) (hy:t9 [k] ny y vs) (hnx:N nx=m) (hny:N ny=m) (hr:isR I t m=true):P.eqGuardType P.depth t=false/\(∀w,(binOp .eql t (.agg us.toArray) (.agg vs.toArray)).run P w=.ok (.bool (decide (∀i:Nat,i < m->D x i=D y i))) w)/\∀w,(binOp .neq t (.agg us.toArray) (.agg vs.toArray)).run P w=.ok (.bool (!decide (∀i:Nat,i < m->D x i=D y i))) w:=by
 obtain⟨hx1,hx2⟩:=hx
 obtain⟨hy1,hy2⟩:=hy
 have lx:us.length=m:=by omega
 have ly:vs.length=m:=by omega
 unfold isR at hr
 split at hr
 case h_2=>cases hr
 rename_i m' e hd
 split at hr
 case h_2=>cases hr
 rename_i d hde hse
 simp only[ar] at hr
 obtain⟨⟨hi,hm⟩,heg⟩:=hr
 have hm':m'=m:=beq_eq hm
 subst hm'
 have hint:∃k0,d=.int k0:=by
  unfold au6 at hi
  split at hi
  .exact⟨_,rfl⟩
  .cases hi
 obtain⟨k0,rfl⟩:=hint
 have hF:=ato us
 have hG:=ato vs
 rw[lx] at hF
 rw[ly] at hG
 have hgd:∀(l:List Value) (i:Nat),i < l.length->l[i]?=some (lY undef l i):=λl i hi=>by rw[lY,Gd,ue hi]; rfl
 have vx:∀i,i < m'->∃k,lY undef us i=.int k (D x i):=λi hi=>by
  obtain⟨k,_,h2,_⟩:=hx2 i om
  rw[hgd us i om,cu] at h2
  exact⟨k,h2⟩
 have vy:∀i,i < m'->∃k,lY undef vs i=.int k (D y i):=λi hi=>by
  obtain⟨k,_,h2,_⟩:=hy2 i om
  rw[hgd vs i om,cu] at h2
  exact⟨k,h2⟩
 have kx:∀i,i < m'->lY undef us i=.int k (D x i)/\lY undef vs i=.int k (D y i):=λi hi=>by
  have one:[k][(0+i) % [k].length]?=some k:=by show [k][(0+i) % 1]?=_; rw[sB]; rfl
  obtain⟨k1,h1,h2,_⟩:=hx2 i om
  obtain⟨k2,h3,h4,_⟩:=hy2 i om
  rw[one] at h1 h3; cases h1; cases h3
  rw[hgd us i om,cu] at h2
  rw[hgd vs i om,cu] at h4
  exact⟨h2,h4⟩
 have hc:∀i w,i < m'->(Op.equalIn 9999 e (lY undef us i) (lY undef vs i)).run P w=.ok (Vw (lY undef us i)==Vw (lY undef vs i)) w:=λi w hi=>by
  rw[(kx i hi).1,(kx i hi).2]
  exact run_equalIn_int (P:=P) w 9998 e k k0 _ _ (hI.td e _ hde)
 have hb:((List.range m').all λi=>Vw (lY undef us i)==Vw (lY undef vs i))=decide (∀i:Nat,i < m'->D x i=D y i):=by
  rw[arU,dD,decide_eq_true_iff]
  constructor
  .intro h4 i hi
   have:=h4 i (ug.2 hi)
   rw[(kx i hi).1,(kx i hi).2] at this
   exact eq_of_beq this
  .intro h4 i hi
   have hi:=ug.1 hi
   rw[(kx i hi).1,(kx i hi).2]
   exact beq_iff_eq.2 (h4 i hi)
 have e1:=λw=>aEf (P:=P) (hI.td t _ hd) (hI.td e _ hde) rfl (hI.sz e 1 hse) (lY undef us) (lY undef vs) _ hc w
 have e2:=λw=>a88 (P:=P) (hI.td t _ hd) (hI.td e _ hde) rfl (hI.sz e 1 hse) (lY undef us) (lY undef vs) _ hc w
 rw[hF,hG,hb] at e1 e2
 exact⟨hI.eg t heg,e1,e2⟩
def ik (n x:X):List UInt8:=(List.range (N n).toNat).map λi=>UInt8.ofNat (D x i).toNat
theorem XV (n x:X):(ik n x).length=(N n).toNat:=by simp[ik]
theorem a9G {n m x y:X} (hx:∀i:Nat,(i:Int) < N n->0<=D x i/\D x i < 256) (hy:∀i:Nat,(i:Int) < N m->0<=D y i/\D y i < 256) (h0:0<=N n) (hnm:N n=N m):(ik n x==ik m y)=decide (∀i:Nat,i < (N n).toNat->D x i=D y i):=by
 rw[arU,beq_iff_eq,decide_eq_true_iff]
 constructor
 .intro h i hi
  have:=congrArg (λl:List UInt8=>l[i]?) h
  simp only[ik,N1] at this
  rw[Ge hi,Ge om] at this
  simp only[uo,cu] at this
  have a1:=hx i om
  have a2:=hy i om
  have:=congrArg UInt8.toNat this
  simp only[UInt8.toNat_ofNat'] at this
  omega
 .intro h
  unfold ik
  rw[<- hnm]
  apply J1
  intro i hi
  rw[h i (ug.1 hi)]
theorem a9H {n m x y:X} (h0:0<=N n) (h1:0<=N m) (hnm:N n≠N m):(ik n x==ik m y)=false:=by
 rw[beq_eq_false_iff_ne]
 intro h
 have:=congrArg List.length h
 rw[XV,XV] at this
 omega
theorem a7g (hI:dm P I) (hE:ER bs ρ a) {op:BinOp} {t t':TypeId} {x y:Operand} (he:pop I ρ (.binOp op t x y t')=some v):jR P a bs (.binOp op t x y t') v:=by
 intro dst ty pos af g w
 have hF:=hI.F
 simp only[pop] at he
 split at he
 case h_2=>cases he
 rename_i p q hp hq
 have hu:=hE _ _ hp
 have hv:=hE _ _ hq
 unfold bin at he
 split at he
 .rename_i k m k' m'
  split at he
  .rename_i hk
   obtain⟨c,hc,rfl⟩:=eR.1 he
   obtain⟨hu',hu2⟩:=hu
   obtain⟨hv',hv2⟩:=hv
   obtain⟨r,h1,h2⟩:=aQh (bs:=bs) hF t hk hu2 hv2 hc
   exact⟨r,by simp[cR,execOp,hu',hv',eqGuard_at_int,h1],h2⟩
  .cases he
 .rename_i n l m l'
  obtain⟨n0,hu',hux⟩:=hu
  obtain⟨m0,hv',hvx⟩:=hv
  have hu':a.eval x=SV (ik n l):=hu'
  have hv':a.eval y=SV (ik m l'):=hv'
  have h1:binOp .eql t (SV (ik n l)) (SV (ik m l'))=pure (.bool (ik n l==ik m l')):=by unfold SV; rw[binOp_string_eql,adF,adF]
  have h2:binOp .neq t (SV (ik n l)) (SV (ik m l'))=pure (.bool (!(ik n l==ik m l'))):=by unfold SV; rw[binOp_string_neq,adF,adF]
  rcases fF he with ⟨hc,he⟩ | ⟨_,he⟩
  .have hnm:=gq hF hc
   have e:=a9G hux hvx n0 hnm
   rcases atW he with ⟨rfl,rfl⟩ | ⟨rfl,rfl⟩
   .exact⟨.bool (ik n l==ik m l'),by rw[cR]; simp only[execOp,hu',hv',h1]; simp[SV,eqGuard_at_string],wI hF (by rw[eqN,e])⟩
   .exact⟨.bool (!(ik n l==ik m l')),by rw[cR]; simp only[execOp,hu',hv',h2]; simp[SV,eqGuard_at_string],wI hF (by rw[J3,eqN,QM,e])⟩
  .obtain⟨hc,he⟩:=cm he
   rw[dt] at hc
   have hne:N n≠N m:=by
    rcases hc with hc | hc
    .have:=lZ hF hc; omega
    .have:=lZ hF hc; omega
   have e:=a9H (x:=l) (y:=l') n0 m0 hne
   rcases OH he with ⟨rfl,rfl⟩ | ⟨rfl,rfl⟩
   .exact⟨.bool (ik n l==ik m l'),by rw[cR]; simp only[execOp,hu',hv',h1]; simp[SV,eqGuard_at_string],by rw[e]; rfl⟩
   .exact⟨.bool (!(ik n l==ik m l')),by rw[cR]; simp only[execOp,hu',hv',h2]; simp[SV,eqGuard_at_string],by rw[e]; rfl⟩
 .obtain⟨hP,he⟩:=cm he
  have hu':a.eval x=.pointer none:=hu
  have hv':a.eval y=.pointer none:=hv
  rcases OH he with ⟨rfl,rfl⟩ | ⟨rfl,rfl⟩
  .exact⟨.bool true,by simp[cR,execOp,hu',hv',eqGuard_at_pointer,run_eql_pointer_nil (P:=P) (w:=w) t none (VE hI hP)],rfl⟩
  .exact⟨.bool false,by simp[cR,execOp,hu',hv',eqGuard_at_pointer,run_neq_pointer_nil (P:=P) (w:=w) t none (VE hI hP)],rfl⟩
 .rename_i id off e
  obtain⟨hP,he⟩:=cm he
  obtain⟨k,_,_,hu'⟩:=hu
  have hv':a.eval y=.pointer none:=hv
  rcases OH he with ⟨rfl,rfl⟩ | ⟨rfl,rfl⟩
  .exact⟨.bool false,by simp[cR,execOp,hu',hv',eqGuard_at_pointer,run_eql_pointer_nil (P:=P) (w:=w) t (some ⟨k,bs.o id+(off+(N e).toNat),none⟩) (VE hI hP)],rfl⟩
  .exact⟨.bool true,by simp[cR,execOp,hu',hv',eqGuard_at_pointer,run_neq_pointer_nil (P:=P) (w:=w) t (some ⟨k,bs.o id+(off+(N e).toNat),none⟩) (VE hI hP)],rfl⟩
 .obtain⟨hP,he⟩:=cm he
  obtain⟨e,hP⟩:=VF hI hP
  have hu':a.eval x=.slice none 0 0:=hu
  have hv':a.eval y=.slice none 0 0:=hv
  rcases OH he with ⟨rfl,rfl⟩ | ⟨rfl,rfl⟩
  .exact⟨.bool true,by simp[cR,execOp,hu',hv',eqGuard_at_slice,Lib.run_eql_slice_nil (P:=P) w t e none 0 0 0 0 hP],rfl⟩
  .exact⟨.bool false,by simp[cR,execOp,hu',hv',eqGuard_at_slice,run_neq_slice_nil (P:=P) (w:=w) t e none 0 0 hP],rfl⟩
 .rename_i id off ex len cap
  obtain⟨hP,he⟩:=cm he
  obtain⟨e,hP⟩:=VF hI hP
  obtain⟨k,o,c,hu',_⟩:=hu
  have hv':a.eval y=.slice none 0 0:=hv
  rcases OH he with ⟨rfl,rfl⟩ | ⟨rfl,rfl⟩
  .exact⟨.bool false,by simp[cR,execOp,hu',hv',eqGuard_at_slice,Lib.run_eql_slice_nil (P:=P) w t e (some ⟨k,o,none⟩) (N len).toNat c 0 0 hP],rfl⟩
  .exact⟨.bool true,by simp[cR,execOp,hu',hv',eqGuard_at_slice,run_neq_slice_nil (P:=P) (w:=w) t e (some ⟨k,o,none⟩) (N len).toNat c hP],rfl⟩
 .rename_i xs ys
  split at he
  case h_2=>cases he
  rename_i k _
  split at he
  case h_2=>cases he
  rename_i nx rx ny ry hrx hry
  split at he
  case h_2=>cases he
  rename_i m m' hm hm'
  obtain⟨hb,he2⟩:=cm he
  clear he
  rw[ar] at hb
  have hmm:=beq_eq hb.1
  subst hmm
  obtain⟨us,hus,hu'⟩:=hu
  obtain⟨vs,hvs,hv'⟩:=hv
  obtain⟨h1,h2,h3⟩:=a84 hI (LJ hF hrx hus) (LJ hF hry hvs) (sQ hm) (sQ hm') hb.2
  have e:N (.o3 2 rx ry (.i (m:Int)))=tf (decide (∀i:Nat,i < m->D rx i=D ry i)):=by rw[eqN]; rfl
  rcases atW he2 with ⟨rfl,rfl⟩ | ⟨rfl,rfl⟩
  .exact⟨.bool (decide (∀i:Nat,i < m->D rx i=D ry i)),by simp[cR,execOp,hu',hv',run_eqGuard_agg (P:=P) w .eql t x y us.toArray vs.toArray h1,h2],wI hF e⟩
  .exact⟨.bool (!decide (∀i:Nat,i < m->D rx i=D ry i)),by simp[cR,execOp,hu',hv',run_eqGuard_agg (P:=P) w .neq t x y us.toArray vs.toArray h1,h3],wI hF (by rw[J3,e,QM])⟩
 .cases he
end Go.Z
namespace Go.Z
open Go Go.Sym Go.RowKit
open Go.Ev (T K Ex DH DF a7)
variable [bI] [Env]
variable {P:Program} {I:Info} {F:Fx} {bs bs':Nm} {s:Fr} {ρ:jy} {a:Act} {n:Nat} {w w':World} {h h':Hp} {v:V}
theorem a0o (k:IntKind) (m:Int):Op.unary .neg (.int k m)=pure (.int k (k.wrap (-m))):=by
 show (pure (Value.int k (k.wrap (0 - m))):Sem Value)=_
 rw[Int.zero_sub]
theorem a0B {k:IntKind} (hk:k.signed=false) {m:Nat} (hm:m < 2 ^ k.bits):Op.unary .xor (.int k (m:Int))=pure (.int k (k.max - (m:Int))):=by
 show (pure (Value.int k (k.wrap (BitVec.toNat (BitVec.ofInt k.bits (if k.signed=true then -1 else k.max) ^^^ BitVec.ofInt k.bits (m:Int))))):Sem Value)=_
 rw[hk]
 simp only[sr,if_false]
 have h1:BitVec.ofInt k.bits k.max=BitVec.allOnes k.bits:=by
  cases k <;>first | (cases hk; done) | decide
 have h2:k.max=((2 ^ k.bits - 1:Nat):Int):=by
  cases k <;>first | (cases hk; done) | decide
 have h3:(BitVec.allOnes k.bits ^^^ BitVec.ofInt k.bits (m:Int)).toNat=2 ^ k.bits - 1 - m:=by
  rw[BitVec.allOnes_xor,BitVec.toNat_not,arR,F5,dE hm]
 rw[h1,h3,h2]
 have h4:2 ^ k.bits - 1 - m < a7 k:=by
  have:a7 k=2 ^ k.bits:=by cases k <;>first | (cases hk; done) | rfl
  have:=Ap k.bits
  omega
 rw[Q7 h4]
 have h5:((2 ^ k.bits - 1 - m:Nat):Int)=((2 ^ k.bits - 1:Nat):Int) - (m:Int):=by
  have:=Ap k.bits
  omega
 rw[h5]
theorem a7A (hI:dm P I) (hE:ER bs ρ a) {op:UnOp} {t:TypeId} {x:Operand} (he:pop I ρ (.unOp op t x)=some v):jR P a bs (.unOp op t x) v:=by
 intro dst ty pos af g w
 have hF:=hI.F
 simp only[pop] at he
 split at he
 case h_2=>cases he
 rename_i p hp
 have hu:=hE _ _ hp
 unfold un at he
 split at he
 .rename_i b
  split at he
  .cases he
   have hu':a.eval x=.bool b:=hu
   exact⟨.bool (!b),by simp[cR,execOp,hu',Op.unary],rfl⟩
  .cases he
 .rename_i z
  split at he
  .cases he
   have hu':a.eval x=.bool (decide (N z≠0)):=hu
   refine⟨.bool (!decide (N z≠0)),by simp[cR,execOp,hu',Op.unary],wI hF ?_⟩
   rw[J3]
   by_cases h0:N z=0 <;>simp[h0]
  .cases he
 .rename_i k m
  obtain⟨hu',hr⟩:=hu
  split at he
  .cases he
   have h1:=alr hF k (.o2 1 (.i 0) m)
   have e:N (.o2 1 (.i 0) m)=-(N m):=by show (0:Int) - N m=_; omega
   rw[e] at h1
   exact⟨.int k (k.wrap (-(N m))),by simp[cR,execOp,hu',a0o],by rw[h1.1],h1.2⟩
  .obtain⟨hk,he⟩:=m9 he
   subst he
   have e:N (gU (.o2 1 (.i k.max) m))=k.max - N m:=uT _
   have hs:k.signed=false:=by cases k <;>first | rfl | (cases hk; done)
   obtain⟨q,hq⟩:∃q:Nat,N m=q:=⟨(N m).toNat,by
    unfold gu at hr
    cases k <;>first | (cases hk; done) | (simp only[kc,fX] at hr; omega)⟩
   have hl:q < 2 ^ k.bits:=by
    unfold gu at hr
    cases k <;>first | (cases hk; done) | (simp only[kc,fX,hq] at hr; simp only[IntKind.bits]; omega)
   have hu2:a.eval x=.int k (q:Int):=by rw[hu',hq]
   refine⟨.int k (k.max - (q:Int)),by simp[cR,execOp,hu2,a0B hs hl],by rw[e,hq],?_⟩
   rw[e]
   unfold gu at hr ⊢
   cases k <;>first | (cases hk; done) | (simp only[kc,fX] at hr ⊢; simp only[IntKind.max,IntKind.signed,IntKind.bits]; simp; omega)
  .cases he
 .cases he
theorem a7j (hI:dm P I) (hE:ER bs ρ a) {t d:TypeId} {x:Operand} (he:pop I ρ (.convert t d x)=some v):jR P a bs (.convert t d x) v:=by
 intro dst ty pos af g w
 simp only[pop] at he
 split at he
 case h_2=>cases he
 rename_i k0 m k d0 hx hd hs
 cases he
 have hu':a.eval x=.int k0 (N m):=(hE _ _ hx).1
 have hk:P.intKind d=k:=by unfold Program.intKind; rw[hI.td d _ hd]
 have:=run_convert_int (P:=P) w t d k0 (N m) (by rw[hI.td t _ hs]; rfl) (by rw[hk]; exact hI.td d _ hd)
 rw[hk] at this
 have h1:=alr hI.F k m
 exact⟨.int k (k.wrap (N m)),by simp[cR,execOp,hu',this],by rw[h1.1],h1.2⟩
theorem a7y (hI:dm P I) (hE:ER bs ρ a) {t:TypeId} {x:Operand} (he:pop I ρ (.sliceToArrayPointer t x)=some v):jR P a bs (.sliceToArrayPointer t x) v:=by
 intro dst ty pos af g w
 simp only[pop] at he
 split at he
 case h_2=>cases he
 rename_i id off ex len cap m e hx hd
 obtain⟨hb,rfl⟩:=m9 he
 rw[ar] at hb
 have hb1:(m:Int)<=N len:=aT hI.F hb.1
 have hb2:=iw hb.2
 obtain⟨k,o,c,hu,_,_,hloc,_⟩:=hE _ _ hx
 obtain⟨e1,e2,e3⟩:=hloc (.inl om)
 have h1:¬(N len).toNat < m:=by omega
 exact⟨.pointer (some ⟨k,o,none⟩),by simp[cR,execOp,hu,Instr.arrayAt,run_underlying (hI.td _ _ hd),h1],k,e1,e2,by rw[e3]⟩
theorem ati (hE:ER bs ρ a):∀{l:List Operand} {r:List (Nat×Nat)},l.mapM (λx=>(ρ x).bind Ox)=some r->uw bs r (l.map a.eval)
 | [],r,h=>by simp at h; subst h; trivial
 | x::l,r,h=>by
  simp only[N3,ass,sD,asu,cu] at h
  obtain⟨c,⟨y,hy,hc⟩,r',h2,rfl⟩:=h
  unfold Ox at hc
  split at hc
  .rename_i id off
   cases hc
   obtain⟨b,e1,_,e3⟩:=hE _ _ hy
   exact⟨⟨b,e1,e3⟩,ati hE h2⟩
  .cases hc
theorem a7q (hE:ER bs ρ a) {f:FuncId} {cs:Array Operand} (he:pop I ρ (.makeFunc (.func f) #[] cs)=some v):jR P a bs (.makeFunc (.func f) #[] cs) v:=by
 intro dst ty pos af g w
 simp only[pop,eR] at he
 obtain⟨l,h1,rfl⟩:=he
 exact⟨.func (.func f) #[] (cs.map a.eval),by simp[cR,execOp,Instr.makeFunc],(cs.toList.map a.eval),ati hE h1,by rw[<- Array.toList_map,Array.toArray_toList]⟩
theorem a44 {off o:Nat} {e:X} (he:0<=N e):0<=N (Qa off e o).2/\(Qa off e o).1+(N (Qa off e o).2).toNat=off+(N e).toNat+o:=by
 unfold Qa
 split
 .rename_i h
  have:=sQ h
  refine⟨aP _,?_⟩
  show off+o+(0:Int).toNat=_
  omega
 .have h1:N (b9 e (.i (o:Int)))=N e+(o:Int):=eU _ _
  refine⟨by show 0<=N (b9 e (.i (o:Int))); omega,?_⟩
  show off+(N (b9 e (.i (o:Int)))).toNat=_
  omega
theorem uO (x:X) (k:Nat):N (jd x k)=N x*(k:Int):=by
 unfold jd
 split
 .omega
 .rw[uT]; rfl
theorem aio (e i:X) (k:Nat):N (rm e i k)=N e+N i*(k:Int):=by
 unfold rm; rw[eU,uO]
theorem a7m (hI:dm P I) (hE:ER bs ρ a) {t:TypeId} {x:Operand} {f:Nat} (he:pop I ρ (.fieldAddr t x f)=some v):jR P a bs (.fieldAddr t x f) v:=by
 intro dst ty pos af g w
 simp only[pop] at he
 split at he
 case h_2=>cases he
 rename_i id off ex fd hx hf
 split at he
 case h_2=>cases he
 rename_i m hm0
 have hm:=hI.sz _ _ hm0
 cases he
 obtain⟨k,hk,h0,hu⟩:=hE _ _ hx
 obtain⟨e1,e2⟩:=a44 (off:=off) (o:=fd.offset) h0
 unfold Vk at hf
 split at hf
 .rename_i fs hd
  have hadd:(⟨k,bs.o id+(off+(N ex).toNat),none⟩:Addr).add fd.offset=⟨k,bs.o id+(off+(N ex).toNat)+fd.offset,none⟩:=t8 ..
  exact⟨.pointer (some ⟨k,bs.o id+(off+(N ex).toNat)+fd.offset,none⟩),by simp[cR,execOp,hu,Instr.fieldAt,run_underlying (hI.td _ _ hd),hf,Instr.sureAddr,fieldPlace,Go.Sym.run_sizeOf hm,hadd],k,hk,e1,by rw[e2,Nat.add_assoc]⟩
 .cases hf
theorem aDO {as us ws:List Value} {o m:Nat} (h1:us.length=m) (h2:as.length=o\/us=[]):((as++(us++ws)).drop o).take m=us:=by
 rcases h2 with h2 | h2
 .rw[<- h2,List.drop_left,<- h1,List.take_left]
 .subst h2
  have:m=0:=h1.symm
  subst this
  rw[List.take_zero]
theorem aDe (hI:dm P I) {t:TypeId} {l:List ai} {vs:List Value} {off m o:Nat} {e:X} {d:TypeDesc} (hl:aS bs l vs) (hd:I.td t=some d) (hm:I.sz t=some m) (h0:0<=N e) (ho:o=off+(N e).toNat) (he:(bif isAgg d then (w5 I.F l off e (.i m)).map V.agg else (cellAt I.F l off e).map V.c)=some v) (w:World):∃u,(part t vs.toArray o).run P w=.ok u w/\VR bs v u:=by
 have hs:=hI.sz t m hm
 cases hg:isAgg d with
 | true=>
  rw[hg] at he
  obtain⟨us,hr,rfl⟩:=eR.1 he
  obtain⟨as,xs,ws,rfl,h1,h2,h3⟩:=Xv hI.F hr hl h0 (kZ m)
  have h1:xs.length=m:=by have:(xs.length:Int)=(m:Int):=h1; omega
  have ht:=aDO (ws:=ws) h1 (by rw[<- ho] at h3; exact h3)
  refine⟨.agg xs.toArray,?_,xs,h2,rfl⟩
  simp[part,LL (hI.td t _ hd),<- VC,hg,Go.Sym.run_sizeOf hs,-List.append_assoc]
  first | (rw[<- List.append_assoc] at ht; exact ht) | (simpa using ht)
 | false=>
  rw[hg] at he
  obtain⟨c,hc,rfl⟩:=eR.1 he
  obtain⟨u,hu,hr⟩:=atn hI.F hc hl h0
  rw[<- ho] at hu
  exact⟨u,by simp[part,LL (hI.td t _ hd),<- VC,hg,hu],hr⟩
theorem a7l (hI:dm P I) (hE:ER bs ρ a) {t:TypeId} {x:Operand} {f:Nat} (he:pop I ρ (.field t x f)=some v):jR P a bs (.field t x f) v:=by
 intro dst ty pos af g w
 simp only[pop] at he
 split at he
 case h_2=>cases he
 rename_i l fd hx hf
 split at he
 case h_2=>cases he
 rename_i d m hd hm
 obtain⟨vs,hl,hu⟩:=hE _ _ hx
 unfold Vk at hf
 split at hf
 .rename_i fs hd2
  obtain⟨u,h1,h2⟩:=aDe hI hl hd hm (aP _) rfl he w
  have h1:(part fd.type vs.toArray fd.offset).run P w=.ok u w:=h1
  exact⟨u,by simp[cR,execOp,hu,Instr.field,run_underlying (hI.td _ _ hd2),hf,asAgg,h1],h2⟩
 .cases hf
theorem a7o (hI:dm P I) (hE:ER bs ρ a) {t:TypeId} {x y:Operand} (he:pop I ρ (.indexAddr t x y)=some v):jR P a bs (.indexAddr t x y) v:=by
 intro dst ty pos af g w
 simp only[pop] at he
 split at he
 .rename_i id off ex i m e hx hy hd
  split at he
  .rename_i k hk
   obtain⟨hb,rfl⟩:=m9 he
   rw[ar] at hb
   have h1:0<=N i:=aT hI.F hb.1
   have h2:N i < (m:Int):=lZ hI.F hb.2
   obtain⟨q,hq,h0,hu⟩:=hE _ _ hx
   obtain⟨kk,hi⟩:=HX hE hy
   obtain⟨j,hj⟩:∃j:Nat,N i=j:=⟨(N i).toNat,by omega⟩
   rw[hj] at hi
   have hlt:j < m:=by omega
   have hp:=aio ex i k
   rw[hj,<- gm] at hp
   have hadd:(⟨q,bs.o id+(off+(N ex).toNat),none⟩:Addr).add (j*k)=⟨q,bs.o id+(off+(N ex).toNat)+j*k,none⟩:=t8 ..
   exact⟨.pointer (some ⟨q,bs.o id+(off+(N ex).toNat)+j*k,none⟩),by simp[cR,execOp,hu,hi,Instr.indexAt,run_underlying (hI.td _ _ hd),Instr.sureAddr,asIntOf,hlt,Go.Sym.run_sizeOf (hI.sz _ _ hk),hadd],q,hq,by omega,by rw[show off+(N (rm ex i k)).toNat=off+(N ex).toNat+j*k by omega,Nat.add_assoc]⟩
  .cases he
 .rename_i id off ex len cap i e hx hy hd
  split at he
  .rename_i k hk
   obtain⟨hb,rfl⟩:=m9 he
   rw[ar] at hb
   have h1:0<=N i:=aT hI.F hb.1
   have h2:N i < N len:=lZ hI.F hb.2
   obtain⟨q,o,c,hu,_,_,hloc,_⟩:=hE _ _ hx
   obtain⟨hq,h0,rfl⟩:=hloc (.inl om)
   obtain⟨kk,hi⟩:=HX hE hy
   obtain⟨j,hj⟩:∃j:Nat,N i=j:=⟨(N i).toNat,by omega⟩
   rw[hj] at hi
   have hlt:j < (N len).toNat:=by omega
   have hp:=aio ex i k
   rw[hj,<- gm] at hp
   have hadd:(⟨q,bs.o id+(off+(N ex).toNat),none⟩:Addr).add (j*k)=⟨q,bs.o id+(off+(N ex).toNat)+j*k,none⟩:=t8 ..
   exact⟨.pointer (some ⟨q,bs.o id+(off+(N ex).toNat)+j*k,none⟩),by simp[cR,execOp,hu,hi,Instr.indexAt,run_underlying (hI.td _ _ hd),asIntOf,hlt,Go.Sym.run_sizeOf (hI.sz _ _ hk),hadd],q,hq,by omega,by rw[show off+(N (rm ex i k)).toNat=off+(N ex).toNat+j*k by omega,Nat.add_assoc]⟩
  .cases he
 .cases he
theorem a7n (hI:dm P I) (hE:ER bs ρ a) {t:TypeId} {x y:Operand} (he:pop I ρ (.index t x y)=some v):jR P a bs (.index t x y) v:=by
 intro dst ty pos af g w
 simp only[pop] at he
 split at he
 case h_2=>cases he
 rename_i l i m e hx hy hd
 split at he
 case h_2=>cases he
 rename_i d k hd2 hk
 obtain⟨hb,he⟩:=cm he
 rw[ar] at hb
 have h1:0<=N i:=aT hI.F hb.1
 have h2:N i < (m:Int):=lZ hI.F hb.2
 obtain⟨vs,hl,hu⟩:=hE _ _ hx
 obtain⟨kk,hi⟩:=HX hE hy
 obtain⟨j,hj⟩:∃j:Nat,N i=j:=⟨(N i).toNat,by omega⟩
 rw[hj] at hi
 have hlt:j < m:=by omega
 have hp:=uO i k
 rw[hj,<- gm] at hp
 obtain⟨u,h3,h4⟩:=aDe hI hl hd2 hk (o:=j*k) om om he w
 exact⟨u,by simp[cR,execOp,hu,hi,Instr.index,run_underlying (hI.td _ _ hd),asIntOf,hlt,Go.Sym.run_sizeOf (hI.sz _ _ hk),h3],h4⟩
theorem jz.get:∀{l:List P1} {vs:List Value},jz bs l vs->∀(i:Nat) (c:P1),l[i]?=some c->∃v,vs[i]?=some v/\PR bs c v
 | _::_,v::_,⟨h1,_⟩,0,c,hc=>by simp at hc; subst hc; exact⟨v,rfl,h1⟩
 | _::l,_::vs,⟨_,h2⟩,i+1,c,hc=>by
  rw[eD] at hc
  obtain⟨v,h3,h4⟩:=h2.get i c hc
  exact⟨v,by rw[eD]; exact h3,h4⟩
 | [],[],_,i,c,hc=>by simp at hc
 | [],_::_,h,_,_,_=>h.elim
 | _::_,[],h,_,_,_=>h.elim
theorem a7k (hE:ER bs ρ a) {x:Operand} {i:Nat} (he:pop I ρ (.extract x i)=some v):jR P a bs (.extract x i) v:=by
 intro dst ty pos af g w
 simp only[pop] at he
 split at he
 case h_2=>cases he
 rename_i l hx
 obtain⟨vs,h1,hu⟩:=hE _ _ hx
 split at he
 .rename_i c hc
  cases he
  obtain⟨u,h2,h3⟩:=h1.get i _ hc
  exact⟨u,by simp[cR,execOp,hu,Instr.extract,h2],h3⟩
 .rename_i c hc
  cases he
  obtain⟨u,h2,h3⟩:=h1.get i _ hc
  exact⟨u,by simp[cR,execOp,hu,Instr.extract,h2],h3⟩
 .cases he
theorem UH (hE:ER bs ρ a) {d l:X} {x:Option Operand} (h:bU ρ d x=some l):(x=none/\l=d)\/∃y k,x=some y/\a.eval y=.int k (N l):=by
 cases x with
 | none=>simp only[bU,cu] at h; exact .inl ⟨rfl,h.symm⟩
 | some y=>
  simp only[bU] at h
  obtain⟨k,hk⟩:=HX hE h
  exact .inr ⟨y,k,rfl,hk⟩
theorem aet (hE:ER bs ρ a) {q7:Bool} {dl xi xj:X} {len cap i j:Nat} {lo hi:Option Operand} (hlo:bU ρ (.i 0) lo=some xi) (hhi:bU ρ dl hi=some xj) (hd:N dl=len) (hi':N xi=i) (hj':N xj=j) (hij:i<=j) (hj:j<=cap) (w:World):(Instr.sliceBounds q7 len cap (lo.map a.eval) (hi.map a.eval) none).run P w=.ok (i,j,cap) w:=by
 have h1:((j:Int)<=(cap:Int)):=by omega
 have h2:((i:Int)<=(j:Int)):=by omega
 rcases UH hE hlo with ⟨rfl,rfl⟩ | ⟨y,k,rfl,hy⟩ <;>rcases UH hE hhi with ⟨rfl,rfl⟩ | ⟨y',k',rfl,hy'⟩
 .have:i=0:=by have:(0:Int)=(i:Int):=hi'; omega
  have:j=len:=by omega
  subst_vars
  simp[Instr.sliceBounds]
 .have:i=0:=by have:(0:Int)=(i:Int):=hi'; omega
  subst this
  rw[hj'] at hy'
  simp[Instr.sliceBounds,Instr.sliceBound,asIntOf,hy',hj]
 .have:j=len:=by omega
  subst this
  rw[hi'] at hy
  simp[Instr.sliceBounds,Instr.sliceBound,asIntOf,hy,hij]
 .rw[hi'] at hy
  rw[hj'] at hy'
  simp[Instr.sliceBounds,Instr.sliceBound,asIntOf,hy,hy',hj,hij]
theorem aQu (hE:ER bs ρ a) {q7:Bool} {dl xi xj xm:X} {len cap i j m:Nat} {lo:Option Operand} {hi y:Operand} (hlo:bU ρ (.i 0) lo=some xi) (hhi:bU ρ dl (some hi)=some xj) (hm:(ρ y).bind wP=some xm) (hi':N xi=i) (hj':N xj=j) (hm':N xm=m) (hij:i<=j) (hj:j<=m) (hc:m<=cap) (w:World):(Instr.sliceBounds q7 len cap (lo.map a.eval) (some (a.eval hi)) (some (a.eval y))).run P w=.ok (i,j,m) w:=by
 obtain⟨k2,hy2⟩:=HX hE hm
 rw[hm'] at hy2
 rcases UH hE hhi with ⟨h,_⟩ | ⟨y',k',e,hy'⟩
 .cases h
 .cases e
  rw[hj'] at hy'
  rcases UH hE hlo with ⟨rfl,rfl⟩ | ⟨z,k,rfl,hz⟩
  .have:i=0:=by have:(0:Int)=(i:Int):=hi'; omega
   subst this
   simp[Instr.sliceBounds,Instr.sliceBound,asIntOf,hy2,hy',hj,hc]
  .rw[hi'] at hz
   simp[Instr.sliceBounds,Instr.sliceBound,asIntOf,hy2,hy',hz,hj,hc,hij]
theorem akJ (hF:ah F) {id off k q c o i j:Nat} {e xi xj:X} {cap:gj} (hloc:0 < j\/cap.told->bs.b id=some q/\0<=N e/\o=bs.o id+(off+(N e).toNat)) (hi:N xi=i) (hj:N xj=j) (hij:i<=j) (hjc:j<=c) (hcap:CJ bs id cap c) (hbig:c < 9223372036854775808):CR bs (.sl id off (rm e xi k) (dF xj xi) (GI F xi cap)) (.slice (if c=i then some ⟨q,o,none⟩ else (some (⟨q,o,none⟩:Addr)).map (·.add (i*k))) (j - i) (c - i)):=by
 have hadd:(⟨q,o,none⟩:Addr).add (i*k)=⟨q,o+i*k,none⟩:=t8 ..
 have hl:N (dF xj xi)=((j - i:Nat):Int):=by rw[jH,hi,hj]; omega
 have hp:N (rm e xi k)=N e+((i*k:Nat):Int):=by rw[aio,hi,gm]
 have hlt:(N (dF xj xi)).toNat=j - i:=by rw[hl]; exact fg _
 have adv:c≠i->(0 < j\/cap.told)->∀cap':gj,CJ bs id cap' (c - i)->CR bs (.sl id off (rm e xi k) (dF xj xi) cap') (.slice (if c=i then some ⟨q,o,none⟩ else (some (⟨q,o,none⟩:Addr)).map (·.add (i*k))) (j - i) (c - i)):=by
  intro hne ht cap' hc'
  rw[if_neg hne,uo,hadd]
  obtain⟨e1,e2,e3⟩:=hloc ht
  exact⟨q,o+i*k,c - i,by rw[hlt],by omega,by omega,λ_=>⟨e1,by omega,by omega⟩,hc',by omega⟩
 have zero:i=0->cap.told->∀cap':gj,CJ bs id cap' c->CR bs (.sl id off (rm e xi k) (dF xj xi) cap') (.slice (if c=i then some ⟨q,o,none⟩ else (some (⟨q,o,none⟩:Addr)).map (·.add (i*k))) (j - i) (c - i)):=by
  intro h0 ht cap' hc'
  subst h0
  obtain⟨e1,e2,e3⟩:=hloc (.inr ht)
  rw[uo,hadd,sC,Nat.add_zero,ite_self]
  exact⟨q,o,c,by rw[hlt]; rfl,by omega,by omega,λ_=>⟨e1,by omega,by omega⟩,hc',hbig⟩
 have any:(0 < j->bs.b id=some q/\0<=N e/\o=bs.o id+(off+(N e).toNat))->CR bs (.sl id off (rm e xi k) (dF xj xi) .a) (.slice (if c=i then some ⟨q,o,none⟩ else (some (⟨q,o,none⟩:Addr)).map (·.add (i*k))) (j - i) (c - i)):=by
  intro ht
  by_cases hij2:i < j
  .exact adv om (.inl om) .a trivial
  .have hf:¬(0 < N (dF xj xi)\/gj.told .a):=by
    rintro (h | h)
    .omega
    .exact h
   by_cases hci:c=i
   .rw[if_pos hci]
    exact⟨q,o,c - i,by rw[hlt],by omega,by omega,λh=>absurd h hf,trivial,by omega⟩
   .rw[if_neg hci,uo,hadd]
    exact⟨q,o+i*k,c - i,by rw[hlt],by omega,by omega,λh=>absurd h hf,trivial,by omega⟩
 cases cap with
 | k x=>
  have hx:(c:Int)=N x:=hcap
  unfold GI
  dsimp only
  cases h1:jq F xi x with
  | true=>
   have:=lZ hF h1
   exact adv om (.inr trivial) _ (show ((c - i:Nat):Int)=N (dF x xi) by rw[jH]; omega)
  | false=>
   rw[cond_false]
   cases h2:er F xi (.i 0) with
   | true=>
    have h3:N xi=0:=gq hF h2
    exact zero om trivial _ hx
   | false=>exact any λh=>hloc (.inl h)
 | g=>
  unfold GI
  dsimp only
  cases h2:er F xi (.i 0) with
  | true=>
   have h3:N xi=0:=gq hF h2
   exact zero om trivial _ hcap
  | false=>exact any λh=>hloc (.inl h)
 | a=>exact any λh=>hloc (.inl h)
theorem aes {mx:Option Operand} (h:wt ρ mx=some none):mx=none:=by
 cases mx with
 | none=>rfl
 | some y=>
  simp only[wt,eR] at h
  obtain⟨_,_,h⟩:=h
  cases h
theorem aQp {mx:Option Operand} {m:X} (h:wt ρ mx=some (some m)):∃y,mx=some y/\(ρ y).bind wP=some m:=by
 cases mx with
 | none=>simp[wt] at h
 | some y=>
  simp only[wt,eR,cu] at h
  obtain⟨m',h1,rfl⟩:=h
  exact⟨y,rfl,h1⟩
theorem qi {z:Int} (h:0<=z):∃n:Nat,z=n:=⟨z.toNat,by omega⟩
theorem a7z (hI:dm P I) (hE:ER bs ρ a) {t:TypeId} {x:Operand} {lo hi mx:Option Operand} (he:pop I ρ (.slice t x lo hi mx)=some v):jR P a bs (.slice t x lo hi mx) v:=by
 intro dst ty pos af g w
 have hF:=hI.F
 simp only[pop] at he
 split at he
 .rename_i id off ex m e hx hd
  split at he
  case h_2=>cases he
  rename_i k xi xj hk hlo hhi hmx
  have hmx:=aes hmx
  subst hmx
  obtain⟨hb,rfl⟩:=m9 he
  simp only[ar] at hb
  have hbig:=sI hb.1
  have h0:0<=N xi:=aT hF hb.2.1
  have h1:=aT hF hb.2.2.1
  have h2:N xj<=(m:Int):=aT hF hb.2.2.2
  obtain⟨i,hi'⟩:=qi h0
  obtain⟨j,hj'⟩:=qi (show 0<=N xj by omega)
  obtain⟨q,hq,e0,hu⟩:=hE _ _ hx
  have hbd:=aet (P:=P) hE (q7:=false) (dl:=.i m) (len:=m) (cap:=m) hlo hhi rfl hi' hj' om om w
  refine⟨_,?_,akJ hF (off:=off) (o:=bs.o id+(off+(N ex).toNat)) (k:=k) (c:=m) (cap:=.k (.i m)) (λ_=>⟨hq,e0,rfl⟩) hi' hj' om om rfl om⟩
  simp[cR,execOp,hu,Instr.sliceAt,run_underlying (hI.td _ _ hd),Instr.sureAddr,hbd,Go.Sym.run_sizeOf (hI.sz _ _ hk)]
  split <;>rfl
 .rename_i e hx hd
  split at he
  case h_2=>cases he
  rename_i k xi xj hk hlo hhi hmx
  have hmx:=aes hmx
  subst hmx
  obtain⟨hb,rfl⟩:=m9 he
  simp only[ar] at hb
  have h1:N xi=((0:Nat):Int):=gq hF hb.1
  have h2:N xj=((0:Nat):Int):=gq hF hb.2
  have hu':a.eval x=.slice none 0 0:=hE _ _ hx
  have hbd:=aet (P:=P) hE (q7:=true) (dl:=.i 0) (len:=0) (cap:=0) hlo hhi rfl h1 h2 (fv _) (fv _) w
  exact⟨.slice none 0 0,by simp[cR,execOp,hu',Instr.sliceAt,run_underlying (hI.td _ _ hd),Instr.slice,hbd,Go.Sym.run_sizeOf (hI.sz _ _ hk)],rfl⟩
 .rename_i id off ex len cap e hx hd
  obtain⟨q,o,c,hu,hn0,hlc,hloc,hcap,hbig⟩:=hE _ _ hx
  obtain⟨ln,hln⟩:=qi hn0
  have hlt:(N len).toNat=ln:=by omega
  rw[hlt] at hu hlc
  have fit:∀{y:X} {j:Nat},N y=j->fits I.F len y cap=true->j<=c/\(¬cap.told->j<=ln):=by
   intro y j hj hf
   unfold fits at hf
   split at hf
   .have h1:=aT hF hf
    have h2:(c:Int)=N _:=hcap
    exact⟨by omega,λh=>absurd trivial h⟩
   .have h1:=aT hF hf
    exact⟨by omega,λ_=>by omega⟩
  have locj:∀{j:Nat},(¬cap.told->j<=ln)->0 < j\/cap.told->bs.b id=some q/\0<=N ex/\o=bs.o id+(off+(N ex).toNat):=by
   intro j hj h
   by_cases ht:cap.told
   .exact hloc (.inr ht)
   .rcases h with h | h
    .exact hloc (.inl (by have:=hj ht; omega))
    .exact absurd h ht
  split at he
  .rename_i k xi xj hk hlo hhi hmx
   have hmx:=aes hmx
   subst hmx
   obtain⟨hb,rfl⟩:=m9 he
   simp only[ar] at hb
   have h0:0<=N xi:=aT hF hb.1
   have h1:=aT hF hb.2.1
   obtain⟨i,hi'⟩:=qi h0
   obtain⟨j,hj'⟩:=qi (show 0<=N xj by omega)
   obtain⟨f1,f2⟩:=fit hj' hb.2.2
   have hbd:=aet (P:=P) hE (q7:=true) (dl:=len) (len:=ln) (cap:=c) hlo hhi hln hi' hj' om f1 w
   refine⟨_,?_,akJ hF (off:=off) (o:=o) (k:=k) (c:=c) (locj f2) hi' hj' om f1 hcap hbig⟩
   simp[cR,execOp,hu,Instr.sliceAt,run_underlying (hI.td _ _ hd),Instr.slice,hbd,Go.Sym.run_sizeOf (hI.sz _ _ hk)]
  .rename_i k xi xj xm hk hlo hhi hmx
   obtain⟨y,hy,hm⟩:=aQp hmx
   subst hy
   split at he
   case h_2=>cases he
   obtain⟨hb,rfl⟩:=m9 he
   simp only[ar] at hb
   have h0:0<=N xi:=aT hF hb.1
   have h1:=aT hF hb.2.1
   have h2:=aT hF hb.2.2.1
   have h3:=lZ hF hb.2.2.2.2
   obtain⟨i,hi'⟩:=qi h0
   obtain⟨j,hj'⟩:=qi (show 0<=N xj by omega)
   obtain⟨m,hm'⟩:=qi (show 0<=N xm by omega)
   obtain⟨f1,f2⟩:=fit hm' hb.2.2.2.1
   have hbd:=aQu (P:=P) hE (q7:=true) (dl:=len) (len:=ln) (cap:=c) hlo hhi hm hi' hj' hm' om om f1 w
   have hcx:GI I.F xi (.k xm)=.k (dF xm xi):=by
    unfold GI; dsimp only; rw[hb.2.2.2.2]; rfl
   have hs:=akJ hF (bs:=bs) (id:=id) (q:=q) (e:=ex) (xj:=xj) (off:=off) (o:=o) (k:=k) (c:=m) (cap:=.k xm) (λ_=>locj f2 (.inl om)) hi' hj' om om hm'.symm om
   rw[hcx] at hs
   refine⟨_,?_,hs⟩
   simp[cR,execOp,hu,Instr.sliceAt,run_underlying (hI.td _ _ hd),Instr.slice,hbd,Go.Sym.run_sizeOf (hI.sz _ _ hk)]
  .cases he
 .cases he
theorem a7p (hI:dm P I) (hE:ER bs ρ a) {x:Operand} {t:TypeId} (he:pop I ρ (.call ⟨.builtin .len,#[x],#[t]⟩)=some v):jR P a bs (.call ⟨.builtin .len,#[x],#[t]⟩) v:=by
 intro dst ty pos af g w
 simp only[pop] at he
 obtain⟨hb,he⟩:=cm he
 obtain⟨e,hT⟩:=VF hI hb
 obtain⟨len,hl,rfl⟩:=eR.1 he
 obtain⟨y,hx,hl⟩:=sD.1 hl
 unfold Du at hl
 split at hl
 .cases hl
  have hu':a.eval x=.slice none 0 0:=hE _ _ hx
  exact⟨.int .i64 0,by simp[cR,execOp,resolve,invoke,builtin,hu',Builtin.len_,run_underlying hT,goInt],rfl,(show (-9223372036854775808:Int)<=0 by decide),(show (0:Int)<=9223372036854775807 by decide)⟩
 .cases hl
  obtain⟨q,o,c,hu',h1,h2,_,_,h3⟩:=hE _ _ hx
  obtain⟨ln,hln⟩:=qi h1
  have hlt:(N len).toNat=ln:=by omega
  rw[hlt] at hu' h2
  refine⟨.int .i64 (ln:Int),by simp[cR,execOp,resolve,invoke,builtin,hu',Builtin.len_,run_underlying hT,goInt],by rw[hln],?_⟩
  rw[hln]
  exact⟨by simp only[kc,fX]; omega,by simp only[kc,fX]; omega⟩
 .cases hl
theorem a7i (hI:dm P I) (hE:ER bs ρ a) {x:Operand} {t:TypeId} (he:pop I ρ (.call ⟨.builtin .cap,#[x],#[t]⟩)=some v):jR P a bs (.call ⟨.builtin .cap,#[x],#[t]⟩) v:=by
 intro dst ty pos af g w
 simp only[pop] at he
 obtain⟨hb,he⟩:=cm he
 obtain⟨e,hT⟩:=VF hI hb
 split at he
 .rename_i hx
  cases he
  have hu':a.eval x=.slice none 0 0:=hE _ _ hx
  exact⟨.int .i64 0,by simp[cR,execOp,resolve,invoke,builtin,hu',Builtin.cap_,run_underlying hT,goInt],rfl,(show (-9223372036854775808:Int)<=0 by decide),(show (0:Int)<=9223372036854775807 by decide)⟩
 .rename_i id off ex len xc hx
  cases he
  obtain⟨q,o,c,hu',_,_,_,h3,h4⟩:=hE _ _ hx
  have h3:(c:Int)=N xc:=h3
  refine⟨.int .i64 (c:Int),by simp[cR,execOp,resolve,invoke,builtin,hu',Builtin.cap_,run_underlying hT,goInt],by rw[h3],?_⟩
  rw[<- h3]
  exact⟨by simp only[kc,fX]; omega,by simp only[kc,fX]; omega⟩
 .cases he
theorem o31 {x p q:X}:N (.o3 1 x p q)=if N x=0 then N q else N p:=by
 show (if D x 0=0 then D q 0 else D p 0)=_
 rfl
theorem a7s (hI:dm P I) (hE:ER bs ρ a) {x y:Operand} {ts:Array TypeId} (he:pop I ρ (.call ⟨.builtin .min,#[x,y],ts⟩)=some v):jR P a bs (.call ⟨.builtin .min,#[x,y],ts⟩) v:=by
 intro dst ty pos af g w
 have hF:=hI.F
 simp only[pop] at he
 split at he
 case h_2=>cases he
 rename_i k p k' q hx hy
 obtain⟨hk,rfl⟩:=m9 he
 have hk:=uI hk
 subst hk
 obtain⟨hx',hx2⟩:=hE _ _ hx
 obtain⟨hy',hy2⟩:=hE _ _ hy
 refine⟨.int k (if N q < N p then N q else N p),by simp[cR,execOp,resolve,invoke,builtin,hx',hy',run_min_int2],?_⟩
 have key:∀z:X,N z=(if N q < N p then N q else N p)->CR bs (.int k z) (.int k (if N q < N p then N q else N p)):=λz hz=>⟨by rw[hz],by rw[hz]; split <;>assumption⟩
 apply key
 cases h1:ay I.F p q with
 | true=>have:=aT hF h1; rw[cond_true,if_neg om]
 | false=>
  rw[cond_false]
  cases h2:ay I.F q p with
  | true=>
   have:=aT hF h2
   rw[cond_true]
   by_cases hq:N q < N p
   .rw[if_pos hq]
   .rw[if_neg hq]; omega
  | false=>
   rw[cond_false,o31]
   have e:N (.o2 11 q p)=tf (decide (N q < N p)):=rfl
   by_cases hq:N q < N p
   .rw[e,decide_eq_true hq,if_neg dc,if_pos hq]
   .rw[e,decide_eq_false hq,if_pos (show tf false=0 from rfl),if_neg hq]
theorem a7r (hI:dm P I) (hE:ER bs ρ a) {x y:Operand} {ts:Array TypeId} (he:pop I ρ (.call ⟨.builtin .max,#[x,y],ts⟩)=some v):jR P a bs (.call ⟨.builtin .max,#[x,y],ts⟩) v:=by
 intro dst ty pos af g w
 have hF:=hI.F
 simp only[pop] at he
 split at he
 case h_2=>cases he
 rename_i k p k' q hx hy
 obtain⟨hk,rfl⟩:=m9 he
 have hk:=uI hk
 subst hk
 obtain⟨hx',hx2⟩:=hE _ _ hx
 obtain⟨hy',hy2⟩:=hE _ _ hy
 refine⟨.int k (if N q>N p then N q else N p),by simp[cR,execOp,resolve,invoke,builtin,hx',hy',run_max_int2],?_⟩
 have key:∀z:X,N z=(if N q>N p then N q else N p)->CR bs (.int k z) (.int k (if N q>N p then N q else N p)):=λz hz=>⟨by rw[hz],by rw[hz]; split <;>assumption⟩
 apply key
 cases h1:ay I.F q p with
 | true=>have:=aT hF h1; rw[cond_true,if_neg om]
 | false=>
  rw[cond_false]
  cases h2:ay I.F p q with
  | true=>
   have:=aT hF h2
   rw[cond_true]
   by_cases hq:N q>N p
   .rw[if_pos hq]
   .rw[if_neg hq]; omega
  | false=>
   rw[cond_false,o31]
   have e:N (.o2 11 p q)=tf (decide (N p < N q)):=rfl
   by_cases hq:N q>N p
   .rw[e,decide_eq_true (show N p < N q from hq),if_neg dc,if_pos hq]
   .rw[e,decide_eq_false (show ¬N p < N q from hq),if_pos (show tf false=0 from rfl),if_neg hq]
theorem a7t (hE:ER bs ρ a) {x:Operand} (he:ρ x=some v):jR P a bs (.move x) v:=λdst ty pos af g w=>⟨_,by simp[cR,execOp],hE _ _ he⟩
theorem a7e (hE:ER bs ρ a) {x:Operand} (he:ρ x=some v):jR P a bs (.assign x) v:=λdst ty pos af g w=>⟨_,by simp[cR,execOp],hE _ _ he⟩
theorem aDq (hI:dm P I) (hE:ER bs ρ a) {op:Op} (he:pop I ρ op=some v):jR P a bs op v:=by
 cases op with
 | move x=>exact a7t hE he
 | assign x=>exact a7e hE he
 | pick c x y=>exact a7v hE he
 | build t ps=>exact a7h hI hE he
 | nilCheck x=>exact a7u hE he
 | binOp op t x y t'=>exact a7g hI hE he
 | unOp op t x=>exact a7A hI hE he
 | convert s d x=>exact a7j hI hE he
 | sliceToArrayPointer t x=>exact a7y hI hE he
 | makeFunc f first cs=>
  cases f with
  | func f=>
   obtain⟨l⟩:=first
   cases l with
   | nil=>exact a7q hE he
   | cons x l=>simp[pop] at he
  | _=>simp[pop] at he
 | slice t x lo hi mx=>exact a7z hI hE he
 | fieldAddr t x f=>exact a7m hI hE he
 | field t x f=>exact a7l hI hE he
 | indexAddr t x y=>exact a7o hI hE he
 | index t x y=>exact a7n hI hE he
 | extract x i=>exact a7k hE he
 | call c=>
  obtain⟨f,⟨xs⟩,⟨ts⟩⟩:=c
  cases f with
  | builtin b=>
   cases b with
   | len=>rcases xs with _ | ⟨x,_ | ⟨y,xs⟩⟩ <;>rcases ts with _ | ⟨t,_ | ⟨t',ts⟩⟩ <;>first | exact a7p hI hE he | simp[pop] at he
   | cap=>rcases xs with _ | ⟨x,_ | ⟨y,xs⟩⟩ <;>rcases ts with _ | ⟨t,_ | ⟨t',ts⟩⟩ <;>first | exact a7i hI hE he | simp[pop] at he
   | min=>rcases xs with _ | ⟨x,_ | ⟨y,_ | ⟨z,xs⟩⟩⟩ <;>first | exact a7s hI hE he | simp[pop] at he
   | max=>rcases xs with _ | ⟨x,_ | ⟨y,_ | ⟨z,xs⟩⟩⟩ <;>first | exact a7r hI hE he | simp[pop] at he
   | _=>simp[pop] at he
  | _=>simp[pop] at he
 | _=>simp[pop] at he
end Go.Z
