import Derived.WalkKit
import Derived.Deep.LoopGhost
import Derived.Deep.AppendSrc
import Derived.Laws.Slices
import Derived.ProofKit
import Derived.OpenShut
import Derived.ShutString
import Derived.ChangeOld
import Derived.ChangeSlices
import Derived.DataReads
import Derived.Carry
import Derived.JoinedTies
import Derived.RowKit
import GoSem.Dispatch
import Derived.Scope
import Derived.Laws.Small
set_option maxRecDepth 100000
set_option linter.unusedSimpArgs false
set_option linter.unusedVariables false
set_option linter.constructorNameAsVariable false
set_option linter.unusedSectionVars false
noncomputable section
namespace Go
abbrev kr{p:Prop}(h:p:=by kernel_rfl):p:=h
abbrev om{p:Prop}(h:p:=by omega):p:=h
abbrev dc{p:Prop}(h:p:=by decide):p:=h
theorem mh{α}{a:α}{l:List α}:a∈a::l:=.head _
theorem mt{α}{a b:α}{l:List α}(h:a∈l):a∈b::l:=.tail _ h
abbrev ar:=@Bool.and_eq_true
abbrev aP:=@Int.le_refl
abbrev cu:=@Option.some.injEq
abbrev dt:=@Bool.or_eq_true
abbrev dD:=@List.all_eq_true
abbrev dE:=@Nat.mod_eq_of_lt
abbrev ep:=@List.mem_cons
abbrev eD:=@List.getElem?_cons_succ
abbrev eK:=@List.length_append
abbrev eR:=@Option.map_eq_some_iff
abbrev fg:=@Int.toNat_natCast
abbrev fv:=@Nat.le_refl
abbrev gm:=@Int.natCast_mul
abbrev gn:=@List.not_mem_nil
abbrev gT:=@Nat.mod_lt
abbrev ia:=@Nat.pow_add
abbrev iJ:=@Nat.eq_of_beq_eq_true
abbrev kZ:=@Int.natCast_nonneg
abbrev k8:=@List.getElem?_eq_some_iff
abbrev lP:=@Nat.lt_of_lt_of_le
abbrev mz:=@List.length_cons
abbrev n9:=@Nat.mul_comm
abbrev qO:=@List.append_nil
abbrev qP:=@List.length_take
abbrev qQ:=@Nat.shiftRight_eq_div_pow
abbrev sr:=@Bool.false_eq_true
abbrev sv:=@Int.pow_succ
abbrev sA:=@List.getElem?_append_right
abbrev sB:=@Nat.mod_one
abbrev sC:=@Nat.zero_mul
abbrev sD:=@Option.bind_eq_some_iff
abbrev t8:=@Addr.add_lit
abbrev uc:=@Int.natCast_add
abbrev ud:=@List.getElem?_append_left
abbrev ue:=@List.getElem?_eq_getElem
abbrev ug:=@List.mem_range
abbrev uh:=@List.mem_singleton
abbrev um:=@Nat.mul_one
abbrev uo:=@Option.map_some
abbrev wc:=@Int.mul_comm
abbrev we:=@Int.mul_nonneg
abbrev wh:=@Nat.le_of_ble_eq_true
abbrev wi:=@Nat.mod_mod
abbrev wj:=@Nat.pow_zero
abbrev yf:=@Classical.choose_spec
abbrev yh:=@Int.dvd_add
abbrev yi:=@Int.dvd_mul_of_dvd_right
abbrev yj:=@Int.ediv_nonneg
abbrev yk:=@Int.eq_ofNat_of_zero_le
abbrev yl:=@Int.toNat_of_nonneg
abbrev yn:=@List.mem_map
abbrev yr:=@Nat.add_mul
abbrev yt:=@Nat.div_eq_of_lt
abbrev yu:=@Nat.mul_assoc
abbrev yv:=@Nat.pow_succ
abbrev yw:=@Nat.sub_self
abbrev Ai:=@Bool.not_eq_true'
abbrev Aj:=@Int.add_nonneg
abbrev Ak:=@Int.mul_assoc
abbrev Am:=@List.take_append_drop
abbrev An:=@Nat.le_trans
abbrev Ao:=@Nat.lt_or_ge
abbrev Ap:=@Nat.two_pow_pos
abbrev Aq:=@Nat.zero_le
abbrev CL:=@List.getElem?_eq_none
abbrev CM:=@List.mem_append_left
abbrev CN:=@List.mem_append_right
abbrev CO:=@List.nodup_cons
abbrev CT:=@Nat.eq_zero_or_pos
abbrev CU:=@Nat.not_lt_zero
abbrev F5:=@BitVec.toNat_ofNat
abbrev F8:=@Int.dvd_sub
abbrev F9:=@Int.ediv_ediv_of_nonneg
abbrev Ga:=@Int.natCast_emod
abbrev Gb:=@Int.ofNat_le
abbrev Gc:=@Int.pow_zero
abbrev Gd:=@List.getD_eq_getElem?_getD
abbrev Ge:=@List.getElem?_range
abbrev Gf:=@List.length_drop
abbrev Gg:=@List.mem_append
abbrev Gi:=@Nat.add_sub_cancel
abbrev Gj:=@Nat.div_one
abbrev Gk:=@Nat.le_succ
abbrev Gm:=@Nat.lt_of_le_of_lt
abbrev Gn:=@Nat.lt_trans
abbrev Gp:=@Nat.mul_le_mul_right
abbrev Gv:=@Result.andThen_ok
abbrev JV:=@Int.ediv_one
abbrev JW:=@Int.le_of_lt
abbrev JX:=@Int.mul_one
abbrev JY:=@Int.tmod_eq_emod_of_nonneg
abbrev JZ:=@List.eq_nil_of_length_eq_zero
abbrev J0:=@List.ext_getElem?
abbrev J1:=@List.map_congr_left
abbrev J2:=@List.nodup_append
abbrev J4:=@Nat.ble_eq_true_of_le
abbrev J5:=@Nat.div_add_mod
abbrev J6:=@Nat.div_div_eq_div_mul
abbrev J7:=@Nat.mul_le_mul
abbrev J8:=@Nat.xor_self
abbrev J9:=@Nat.zero_mod
abbrev NS:=@Array.ext'
abbrev NT:=@Array.getD_eq_getD_getElem?
abbrev NU:=@Array.mem_toList_iff
abbrev NV:=@DataW.trod_lt
abbrev NX:=@Int.emod_lt_of_pos
abbrev NY:=@Int.emod_nonneg
abbrev NZ:=@Int.lt_or_eq_of_le
abbrev N0:=@Int.zero_mul
abbrev N1:=@List.getElem?_map
abbrev N2:=@List.length_range
abbrev N3:=@List.mapM_cons
abbrev N6:=@Nat.and_le_left
abbrev N7:=@Nat.mul_add
abbrev N8:=@Nat.xor_lt_two_pow
abbrev Oa:=@Sem.run_bind
abbrev T0:=@Array.getElem?_eq_some_iff
abbrev T1:=@Array.length_toList
abbrev T5:=@Int.dvd_refl
abbrev T6:=@Int.emod_eq_of_lt
abbrev T7:=@Int.le_trans
abbrev T8:=@Int.not_lt
abbrev T9:=@Int.pow_add
abbrev Ub:=@List.all_cons
abbrev Uc:=@List.any_eq_true
abbrev Ud:=@List.getElem?_drop
abbrev Ue:=@List.getElem?_of_mem
abbrev Uf:=@List.getElem?_take
abbrev Ug:=@List.map_cons
abbrev Uh:=@List.mem_of_getElem?
abbrev Uj:=@Nat.add_mul_div_right
abbrev Uk:=@Nat.and_two_pow_sub_one_eq_mod
abbrev Ul:=@Nat.blt_eq
abbrev Um:=@Nat.le_of_dvd
abbrev Un:=@Nat.mod_mul_right_mod
abbrev Uo:=@Nat.mul_le_mul_left
abbrev Up:=@Nat.one_mul
abbrev Uq:=@Nat.succ_pos
abbrev Ur:=@Nat.two_pow_add_eq_or_of_lt
abbrev adD:=@BitVec.eq_of_toNat_eq
abbrev adE:=@BitVec.toNat_or
abbrev adF:=@ByteArray.toList_mk
abbrev adN:=@Int.emod_add_mul_ediv
abbrev adO:=@Int.lt_of_lt_of_le
abbrev adP:=@Int.mul_add
abbrev adQ:=@Int.mul_le_mul
abbrev adR:=@Int.natCast_ediv
abbrev adS:=@Int.sub_self
abbrev adU:=@List.mem_filter
abbrev adV:=@List.mem_map_of_mem
abbrev adW:=@List.take_of_length_le
abbrev adX:=@Nat.add_mod
abbrev adY:=@Nat.add_mul_mod_self_left
abbrev adZ:=@Nat.div_le_self
abbrev ad0:=@Nat.le_add_right
abbrev ad1:=@Nat.lt_of_not_ge
abbrev ad2:=@Nat.min_eq_left
abbrev ad3:=@Nat.mod_mul_mod
abbrev ad4:=@Nat.mod_mul_right_div_self
abbrev ad5:=@Nat.pos_of_ne_zero
abbrev ad6:=@Nat.pow_le_pow_right
abbrev ad7:=@Nat.pow_mod
abbrev ad8:=@Nat.pow_mul
abbrev ad9:=@Nat.two_mul
abbrev arR:=@BitVec.ofInt_natCast
abbrev arS:=@BitVec.toNat_and
abbrev arT:=@BitVec.toNat_ofInt
abbrev arU:=@Bool.eq_iff_iff
abbrev arV:=@Bool.false_and
abbrev arW:=@Bool.true_and
abbrev ar2:=@Int.mul_le_mul_of_nonneg_left
abbrev ar3:=@Int.mul_le_mul_of_nonneg_right
abbrev ar4:=@Int.tdiv_eq_ediv_of_nonneg
abbrev ar5:=@List.getElem?_cons_zero
abbrev ar6:=@List.length_replicate
abbrev ar7:=@List.mem_flatMap
abbrev ar8:=@List.nil_append
abbrev ar9:=@List.nodup_nil
abbrev asa:=@List.size_toArray
abbrev asb:=@List.take_succ_cons
abbrev asd:=@Nat.add_mul_div_left
abbrev ase:=@Nat.le_mul_of_pos_right
abbrev asf:=@Nat.mul_left_comm
abbrev asg:=@Nat.or_lt_two_pow
abbrev ash:=@Nat.pow_succ'
abbrev asi:=@Nat.shiftLeft_eq
abbrev ass:=@Option.bind_eq_bind
abbrev ast:=@Option.isSome_iff_exists
abbrev asu:=@Option.pure_def
abbrev aPn:=@Array.getElem?_setIfInBounds
abbrev aPv:=@Int.add_mul_emod_self_left
abbrev aPw:=@Int.mul_le_mul_of_nonpos_right
abbrev aPx:=@List.getElem?_replicate
abbrev aPy:=@List.getElem?_take_of_lt
abbrev aPz:=@List.length_eq_zero_iff
abbrev aPC:=@Nat.add_mul_mod_self_right
abbrev aPD:=@Nat.add_sub_cancel_left
end Go
namespace Go.Sym
open Go Go.RowKit
def U (x:BitVec 64):Value:=.int .u64 (x.toNat:Int)
def B (x:BitVec 8):Value:=.int .u8 (x.toNat:Int)
def N (n:Nat):Value:=.int .i64 (n:Int)
def ptr (b off:Nat):Value:=.pointer (some ⟨b,off,none⟩)
theorem Ol (i:Nat):Nat.beq i i=true:=by simp
theorem aQe {i d:Nat} (h:i≠d):Nat.beq i d=false:=by
 cases hb:Nat.beq i d with
 | false=>rfl
 | true=>exact absurd (iJ hb) h
structure bah (a:Act) (n:Nat) (E:Nat->Option Value):Prop where
 defers:a.defers=[]
 size:a.tmps.size=n
 get:∀i v,E i=some v->a.tmps[i]?=some v
structure dC where
 b:Nat
 t:TypeId
 cs:List Value
structure Mem (w0 w:World) (L:List dC):Prop where
 os:w.os=w0.os
 tape:w.tape=w0.tape
 output:w.output=w0.output
 size:w0.heap.size<=w.heap.size
 cL:∀k,k < w0.heap.size->(∀e∈L,e.b≠k)->w.heap[k]?=w0.heap[k]?
 qf:∀e∈L,w.heap[e.b]?=some (.cells e.cs.toArray e.t (0,0))
 nodup:(L.map (·.b)).Nodup
theorem Mem.refl (w:World):Mem w w []:=⟨rfl,rfl,rfl,fv _,λ_ _ _=>rfl,λ_ h=>by (cases h),ar9⟩
theorem Mem.below {w0 w:World} (h:Mem w0 w []):Below w0.heap.size w0 w:=⟨h.os,h.tape,h.output,h.size,λk hk=>h.cL k hk (λ_ h=>by cases h)⟩
theorem Mem.lt {w0 w:World} {L:List dC} (h:Mem w0 w L) {e:dC} (he:e∈L):e.b < w.heap.size:=by
 have:=h.qf e he
 by_cases hlt:e.b < w.heap.size
 .exact hlt
 .have hn:w.heap[e.b]?=none:=by simp; omega
  rw[hn] at this; cases this
theorem Wg {L:List dC} {j:Nat} {e:dC} (h:L[j]?=some e):e∈L:=Uh h
theorem Mem.alloc {w0 w:World} {L:List dC} (h:Mem w0 w L) (t:TypeId) (cs:List Value):Mem w0 (w.alloc (.cells cs.toArray t (0,0))) (⟨w.heap.size,t,cs⟩::L) where
 os:=h.os
 tape:=h.tape
 output:=h.output
 size:=by have:=h.size; simp; omega
 cL:=by
  intro k hk hne
  rw[Below.heap_alloc _ _ _ (by have:=h.size; omega)]
  exact h.cL k hk (λe he=>hne e (mt he))
 qf:=by
  intro e he
  rcases ep.1 he with rfl | he
  .exact heap_alloc_new w _
  .rw[Below.heap_alloc _ _ _ (h.lt he)]; exact h.qf e he
 nodup:=by
  simp only[Ug,CO]
  refine⟨?_,h.nodup⟩
  intro hm
  obtain⟨e,he,hb⟩:=yn.1 hm
  have:=h.lt he
  omega
theorem ayC {α:Type} (xs:Array α) (i j:Nat) (f:α->α):(xs.modify i f)[j]?=if i=j then (xs[j]?).map f else xs[j]?:=by
 rw[Array.getElem?_modify]
def setAt:List dC->Nat->List Value->List dC
 | [],_,_=>[]
 | ⟨b,t,_⟩::L,0,cs=>⟨b,t,cs⟩::L
 | e::L,j+1,cs=>e::setAt L j cs
theorem akH:∀(L:List dC) (j:Nat) (cs:List Value),(setAt L j cs).map (·.b)=L.map (·.b)
 | [],_,_=>rfl
 | ⟨_,_,_⟩::_,0,_=>rfl
 | e::L,j+1,cs=>by simp only[setAt,Ug,akH L j cs]
theorem aEj:∀{L:List dC} {j:Nat} {e:dC} (cs:List Value),L[j]?=some e->(setAt L j cs)[j]?=some ⟨e.b,e.t,cs⟩
 | [],_,_,_,h=>by cases h
 | ⟨_,_,_⟩::_,0,_,_,h=>by simp at h; subst h; rfl
 | _::L,j+1,_,cs,h=>by
  simp only[setAt,eD] at h ⊢
  exact aEj cs h
theorem aEl:∀(L:List dC) (j:Nat) (cs cs':List Value),setAt (setAt L j cs) j cs'=setAt L j cs'
 | [],_,_,_=>rfl
 | ⟨_,_,_⟩::_,0,_,_=>rfl
 | e::L,j+1,cs,cs'=>by simp only[setAt,aEl L j cs cs']
theorem aEk:∀{L:List dC} {j:Nat} {e:dC},L[j]?=some e->setAt L j e.cs=L
 | [],_,_,h=>by cases h
 | ⟨_,_,_⟩::_,0,_,h=>by simp at h; subst h; rfl
 | _::L,j+1,_,h=>by
  simp only[setAt,eD] at h ⊢
  rw[aEk h]
theorem ayt:∀{L:List dC} {j:Nat} {cs:List Value} {e:dC},L[j]?=some e->(L.map (·.b)).Nodup->∀{f:dC},f∈setAt L j cs->(f=⟨e.b,e.t,cs⟩)\/(f∈L/\f.b≠e.b)
 | [],_,_,_,h,_,_,_=>by cases h
 | ⟨_,_,_⟩::L,0,cs,e,h,hn,f,hf=>by
  simp at h; subst h
  simp only[Ug,CO] at hn
  simp only[setAt,ep] at hf
  rcases hf with rfl | hf
  .exact .inl rfl
  .exact .inr ⟨mt hf,λe=>hn.1 (by have h:=adV (f:=λx:dC=>x.b) hf; simp only[e] at h; exact h)⟩
 | g::L,j+1,cs,e,h,hn,f,hf=>by
  simp only[Ug,CO] at hn
  simp only[setAt,eD,ep] at h hf
  rcases hf with rfl | hf
  .exact .inr ⟨mh,λe=>hn.1 (e▸adV (Uh h))⟩
  .rcases ayt h hn.2 hf with h' | ⟨h1,h2⟩
   .exact .inl h'
   .exact .inr ⟨mt h1,h2⟩
theorem Mem.write {w0 w w':World} {L:List dC} (h:Mem w0 w L) {j:Nat} {e:dC} (hj:L[j]?=some e) (cs:List Value) (hos:w'.os=w.os) (htape:w'.tape=w.tape) (hout:w'.output=w.output) (hsz:w'.heap.size=w.heap.size) (hoth:∀k,k≠e.b->w'.heap[k]?=w.heap[k]?) (hnew:w'.heap[e.b]?=some (.cells cs.toArray e.t (0,0))):Mem w0 w' (setAt L j cs) where
 os:=hos.trans h.os
 tape:=htape.trans h.tape
 output:=hout.trans h.output
 size:=by rw[hsz]; exact h.size
 cL:=by
  intro k hk hne
  have hb:∀f∈L,f.b≠k:=by
   intro f hf hfk
   have:k∈(setAt L j cs).map (·.b):=by rw[akH]; exact hfk▸adV hf
   obtain⟨g,hg,hgk⟩:=yn.1 this
   exact hne g hg hgk
  rw[hoth k (λhke=>hb e (Wg hj) hke.symm)]
  exact h.cL k hk hb
 qf:=by
  intro f hf
  rcases ayt hj h.nodup hf with rfl | ⟨hf,hne⟩
  .exact hnew
  .rw[hoth _ hne]; exact h.qf f hf
 nodup:=by rw[akH]; exact h.nodup
theorem a9g (w:World) (b i:Nat) (cs:List Value) (t:TypeId) (v:Value) (h:w.heap[b]?=some (.cells cs.toArray t (0,0))):(w.setCell ⟨b,i,none⟩ v).heap[b]?=some (.cells (cs.set i v).toArray t (0,0)):=by
 simp[World.setCell,Array.getElem?_modify,h]
theorem Mem.setCell {w0 w:World} {L:List dC} (h:Mem w0 w L) {j:Nat} {b:Nat} {t:TypeId} {cs:List Value} (hj:L[j]?=some ⟨b,t,cs⟩) (i:Nat) (v:Value):Mem w0 (w.setCell ⟨b,i,none⟩ v) (setAt L j (cs.set i v)):=
 h.write hj _ rfl rfl rfl (by simp[World.setCell]) (λk hk=>Below.heap_setCell _ _ _ _ hk) (a9g w b i cs t v (h.qf _ (Wg hj)))
theorem Mem.cell {w0 w:World} {L:List dC} (h:Mem w0 w L) {j:Nat} {b:Nat} {t:TypeId} {cs:List Value} (hj:L[j]?=some ⟨b,t,cs⟩) (i:Nat):w.cell? ⟨b,i,none⟩=cs[i]?:=by
 have:=h.qf _ (Wg hj)
 simp only at this
 simp[World.cell?,this]
theorem Mem.frozen {w0 w:World} {L:List dC} (h:Mem w0 w L) {j:Nat} {b:Nat} {t:TypeId} {cs:List Value} (hj:L[j]?=some ⟨b,t,cs⟩) (i:Nat):w.frozen? ⟨b,i,none⟩=false:=by
 have:=h.qf _ (Wg hj)
 simp only at this
 simp[World.frozen?,this]
end Go.Sym
namespace Go.Sym
open Go Go.RowKit
section
variable {P:Program} {Q:Exit->Act->World->Prop} {a:Act} {w w0:World} {n:Nat} {E:Nat->Option Value} {L:List dC} {ops:Array Oper} {rest:List Oper}
theorem G5 {K:Act->World->Prop} (h:K a w):Exit.then K Q .normal a w:=h
theorem aTo {id:Nat} (h:Q .normal a w):Exit.inBlock id Q .normal a w:=h
theorem aTq {id:Nat} (h:Q .normal a w):Exit.inBlock id Q (.exit id) a w:=by simp only[Exit.inBlock,if_true]; exact h
theorem aTr {id id':Nat} (hne:(id'==id)=false) (h:Q (.exit id') a w):Exit.inBlock id Q (.exit id') a w:=by
 have:id'≠id:=by simpa using hne
 simp only[Exit.inBlock,if_neg this]; exact h
theorem aTp {id:Nat} (h:Q .ret a w):Exit.inBlock id Q .ret a w:=h
theorem aQM {x y:Code} (h:x.wp P (Exit.then (y.wp P Q) Q) a w):(Code.seq x y).wp P Q a w:=wp_seq h
theorem aQG {id:Nat} {c:Code} (h:c.wp P (Exit.inBlock id Q) a w):(Code.block id c).wp P Q a w:=wp_block h
theorem aQN (h:Q .normal a w):Code.skip.wp P Q a w:=wp_skip h
theorem aQK (h:Q .ret a w):Code.ret.wp P Q a w:=wp_ret h
theorem aQH {id:Nat} (h:Q (.exit id) a w):(Code.exit id).wp P Q a w:=wp_exit h
theorem aQJ {id:Nat} {l:List Oper} (h:wpList P l.toArray Q l a w):(Code.region id l.toArray false).wp P Q a w:=wp_region_lit h
def Kl:TypeDesc->Bool
 | .struct _ | .array _ _=>true
 | _=>false
theorem LL {t:TypeId} {d:TypeDesc} (hu:P.underlying t=some d) (w:World):(isAgg t).run P w=.ok (Kl d) w:=by
 unfold isAgg
 rw[Oa,run_underlying hu w]
 cases d <;>rfl
theorem run_sizeOf {t:TypeId} {s:Nat} (hi:(P.info? t).map (·.size)=some s) (w:World):(sizeOf t).run P w=.ok s w:=by
 cases hq:P.info? t with
 | none=>simp[hq] at hi
 | some i=>
  have hs:i.size=s:=by simpa [hq] using hi
  simp[sizeOf,typeInfo,hq,hs]
theorem a87 {t:TypeId} {d:TypeDesc} {b off:Nat} {cs:List Value} (hu:P.underlying t=some d) (hd:Kl d=true) (hi:(P.info? t).map (·.size)=some cs.length) (hc:∀j v,cs[j]?=some v->w.cell? ⟨b,off+j,none⟩=some v):(loadVar t ⟨b,off,none⟩).run P w=.ok (.agg cs.toArray) w:=by
 have hl:(loadCells ⟨b,off,none⟩ cs.length).run P w=.ok cs.toArray w:=
  run_loadCells_list (P:=P) w ⟨b,off,none⟩ cs (λj v hv=>by
   have hadd:(⟨b,off,none⟩:Addr).add j=⟨b,off+j,none⟩:=t8 ..
   rw[hadd]
   exact hc j v hv)
 simp[loadVar,LL hu w,hd,run_sizeOf hi w,hl]
theorem a86 {t:TypeId} {d:TypeDesc} {a:Addr} {v:Value} (hu:P.underlying t=some d) (hd:Kl d=false) (hc:w.cell? a=some v):(loadVar t a).run P w=.ok v w:=by
 simp[loadVar,LL hu w,hd,hc]
def cR (P:Program) (a:Act) (o:Oper) (w:World) (v:Value):Prop:=(execOp a.eval o).run P w=.ok (.value v) w
variable {dst:Option Nat} {ty:TypeId} {pos:String} {af:Array Edge} {g:Option (Nat×Bool)}
end
end Go.Sym
namespace Go.Sym
open Go Go.RowKit
theorem aSj (x m:Nat):(x:Int).fdiv (2 ^ m)=((x / 2 ^ m:Nat):Int):=by
 rw[Int.fdiv_eq_ediv_of_nonneg _ (by exact JW (Int.pow_pos dc))]
 simp
theorem Q6 (z:Int) (h:-9223372036854775808<=z/\z < 9223372036854775808):IntKind.i64.wrap z=z:=IntWalk.i64_in z om
end Go.Sym
namespace Go.Sym
open Go Go.RowKit
theorem aQt {S:Array Bool} {i:Nat} (h:S.getD i true=false):S.getD i false=false:=by
 rw[NT] at h ⊢
 cases hx:S[i]? with
 | none=>rw[hx] at h; cases h
 | some b=>rw[hx] at h; simpa using h
theorem aTd {S:Array Bool} {i:Nat} (hi:i < S.size) (h:S.getD i false=false):S.getD i true=false:=by
 rw[NT] at h ⊢
 rw[Array.getElem?_eq_getElem hi] at h ⊢
 simpa using h
theorem a8U (m j:Nat):(Array.replicate m false).getD j false=false:=by
 rw[NT,Array.getElem?_replicate]
 split <;>rfl
section
variable {P:Program} {Q:Exit->Act->World->Prop} {n:Nat} {ops:List Oper}
theorem a_B {oa:Array Oper} (Inv:Array Bool->Act->World->Prop) (step:∀S a w i,i∈Region.ready .any oa S->Inv S a w->wpOp P oa Q i (λa' w'=>Inv (S.setIfInBounds i true) a' w') a w) (done:∀S a w,Region.ready .any oa S=[]->Inv S a w->Q .normal a w) (short:∀S a w,Inv S a w->S.size=oa.size):∀(f:Nat) (S:Array Bool) (a:Act) (w:World),((List.range oa.size).filter (λi=>!S.getD i true)).length<=f->Inv S a w->wpAny P .any oa Q f S a w:=by
 intro f
 induction f with
 | zero=>
  intro S a w hf hI
  have hr:Region.ready .any oa S=[]:=by
   rw[List.eq_nil_iff_forall_not_mem]
   intro i hi
   obtain⟨h1,o,ho,_⟩:=mem_ready.1 hi
   have hlt:i < oa.size:=(T0.1 ho).1
   have hm:i∈(List.range oa.size).filter (λi=>!S.getD i true):=by
    rw[adU]
    exact⟨ug.2 hlt,by rw[h1]; rfl⟩
   have:=List.length_pos_of_mem hm
   omega
  exact⟨hr,done S a w hr hI⟩
 | succ f ih=>
  intro S a w hf hI
  refine⟨λhr=>done S a w hr hI,λi hi=>?_⟩
  obtain⟨h1,o,ho,_⟩:=mem_ready.1 hi
  have hlt:i < oa.size:=(T0.1 ho).1
  refine wpOp_mono (λa' w' h=>ih _ a' w' ?_ h) (step S a w i hi hI)
  have hsz:=short S a w hI
  have hsub:((List.range oa.size).filter (λj=>!(S.setIfInBounds i true).getD j true)).length < ((List.range oa.size).filter (λj=>!S.getD j true)).length:=by
   have key:∀l:List Nat,(∀j∈l,j < oa.size)->((l.filter (λj=>!(S.setIfInBounds i true).getD j true)).length<=(l.filter (λj=>!S.getD j true)).length/\
     (i∈l->(l.filter (λj=>!(S.setIfInBounds i true).getD j true)).length < (l.filter (λj=>!S.getD j true)).length)):=by
    intro l
    induction l with
    | nil=>intro _; exact⟨fv _,λh=>by cases h⟩
    | cons j l ihl=>
     intro hl
     obtain⟨ih1,ih2⟩:=ihl (λk hk=>hl k (mt hk))
     by_cases hji:i=j
     .subst hji
      have e1:(S.setIfInBounds i true).getD i true=true:=by
       have:i < S.size:=by omega
       simp[NT,this]
      simp only[List.filter_cons,e1,h1,Bool.not_true,Bool.not_false,if_true,sr,if_false,mz]
      exact⟨by omega,λ_=>by omega⟩
     .have e1:(S.setIfInBounds i true).getD j true=S.getD j true:=by
       simp[NT,hji]
      simp only[List.filter_cons,e1]
      split
      .simp only[mz]
       refine⟨by omega,λhm=>?_⟩
       rcases ep.1 hm with h | h
       .exact absurd h hji
       .have:=ih2 h; omega
      .refine⟨ih1,λhm=>?_⟩
       rcases ep.1 hm with h | h
       .exact absurd h hji
       .exact ih2 h
   exact (key _ (λj hj=>ug.1 hj)).2 (ug.2 hlt)
  omega
def reach (ops:List Oper):Nat->Nat->List Nat
 | 0,_=>[]
 | f+1,i=>match ops[i]? with
  | none=>[]
  | some o=>o.after.toList.flatMap λe=>if Region.binds .any e then e.on::reach ops f e.on else []
def KD (n:Nat):List Oper->Bool
 | []=>true
 | o::l=>(match o.dst with | none=>true | some d=>decide (d < n) && l.all λo'=>match o'.dst with | none=>true | some d'=>!(d==d')) && KD n l
theorem KE:∀{l:List Oper},KD n l=true->∀(i j:Nat) (oi oj:Oper) (d:Nat),l[i]?=some oi->l[j]?=some oj->oi.dst=some d->oj.dst=some d->i=j/\d < n
 | [],_,i,_,_,_,_,hi,_,_,_=>by simp at hi
 | o::l,h,i,j,oi,oj,d,hi,hj,hdi,hdj=>by
  simp only[KD,ar] at h
  obtain⟨h1,h2⟩:=h
  cases i with
  | zero=>
   simp at hi; subst hi
   rw[hdi] at h1
   simp only[ar,decide_eq_true_eq] at h1
   cases j with
   | zero=>exact⟨rfl,h1.1⟩
   | succ j=>
    simp only[eD] at hj
    have:=dD.1 h1.2 oj (Uh hj)
    rw[hdj] at this
    simp at this
  | succ i=>
   simp only[eD] at hi
   cases j with
   | zero=>
    simp at hj; subst hj
    rw[hdj] at h1
    simp only[ar,decide_eq_true_eq] at h1
    have:=dD.1 h1.2 oi (Uh hi)
    rw[hdi] at this
    simp at this
   | succ j=>
    simp only[eD] at hj
    have:=KE h2 i j oi oj d hi hj hdi hdj
    exact⟨by omega,this.2⟩
def Dv (ops:List Oper):Bool:=(List.range ops.length).all λi=>match ops[i]? with | none=>true | some o=>o.after.toList.all λe=>!Region.binds .any e || decide (e.on < i)
theorem Pd (h:Dv ops=true):∀i o,ops[i]?=some o->∀e∈o.after,Region.binds .any e=true->e.on < i:=by
 intro i o ho e he hb
 have hlt:i < ops.length:=(k8.1 ho).1
 have:=dD.1 h i (ug.2 hlt)
 rw[ho] at this
 have:=dD.1 this e (NU.2 he)
 simpa [hb] using this
theorem akt {S:Nat->Bool} (hc:∀i o,ops[i]?=some o->S i=true->∀e∈o.after,Region.binds .any e=true->S e.on=true):∀(f i:Nat),(∀o,ops[i]?=some o->∀e∈o.after,Region.binds .any e=true->S e.on=true)->∀j∈reach ops f i,S j=true
 | 0,_,_,j,hj=>by simp[reach] at hj
 | f+1,i,h,j,hj=>by
  simp only[reach] at hj
  cases ho:ops[i]? with
  | none=>simp[ho] at hj
  | some o=>
   simp only[ho,ar7] at hj
   obtain⟨e,he,hj⟩:=hj
   split at hj
   .rename_i hb
    have hse:=h o ho e (NU.1 he) hb
    rcases ep.1 hj with rfl | hj
    .exact hse
    .exact akt hc f e.on (λo' ho'=>hc e.on o' ho' hse) j hj
   .cases hj
end
end Go.Sym
namespace Go.Sym
open Go Go.RowKit
section
variable {P:Program} {Q:Exit->Act->World->Prop} {a:Act} {w w0:World} {n:Nat} {E:Nat->Option Value} {L:List dC} {ops:Array Oper} {rest:List Oper}
variable {dst:Option Nat} {ty:TypeId} {pos:String} {af:Array Edge} {g:Option (Nat×Bool)}
theorem a9a (w:World) (b off:Nat) (v cL:Value) (hv:v.oneCell'=true) (hc:w.cell? ⟨b,off,none⟩=some cL) (hf:w.frozen? ⟨b,off,none⟩=false):(store ⟨b,off,none⟩ v).run P w=.ok () (w.setCell ⟨b,off,none⟩ v):=by
 rw[run_store P w _ v _ hv,hc]
 simp[hf]
def jG (cs:List Value) (off:Nat):List Value->List Value
 | []=>cs
 | v::vs=>jG (cs.set off v) (off+1) vs
theorem a9r:∀(vs pre mid post:List Value),mid.length=vs.length->jG (pre++mid++post) pre.length vs=pre++vs++post:=by
 intro vs
 induction vs with
 | nil=>intro pre mid post h; have:mid=[]:=JZ h; subst this; simp[jG]
 | cons v vs ih=>
  intro pre mid post h
  cases mid with
  | nil=>simp at h
  | cons m mid=>
   simp only[jG]
   have e:(pre++(m::mid)++post).set pre.length v=(pre++[v])++mid++post:=by
    rw[List.append_assoc,List.set_append_right _ _ (fv _)]
    simp
   rw[e,show pre.length+1=(pre++[v]).length by simp,ih (pre++[v]) mid post (by simpa using h)]
   simp
theorem QJ {L:List dC} {j b:Nat} {bt:TypeId}:∀(vs cs:List Value) (base i:Nat) (w:World),Mem w0 w L->L[j]?=some ⟨b,bt,cs⟩->(∀v∈vs,v.oneCell'=true)->base+i+vs.length<=cs.length->∃w',(storeCells ⟨b,base,none⟩ vs i).run P w=.ok () w'/\Mem w0 w' (setAt L j (jG cs (base+i) vs))
 | [],cs,base,i,w,hM,hj,_,_=>⟨w,rfl,by
   have:setAt L j (jG cs (base+i) [])=L:=aEk hj
   rw[this]; exact hM⟩
 | v::vs,cs,base,i,w,hM,hj,hv,hle=>by
  have hlt:base+i < cs.length:=by simp at hle; omega
  have hadd:(⟨b,base,none⟩:Addr).add i=⟨b,base+i,none⟩:=t8 ..
  have hst:=a9a (P:=P) w b (base+i) v cs[base+i] (hv v mh) (by rw[hM.cell hj]; exact ue hlt) (hM.frozen hj _)
  have hM1:=hM.setCell hj (base+i) v
  have hj1:(setAt L j (cs.set (base+i) v))[j]?=some ⟨b,bt,cs.set (base+i) v⟩:=aEj _ hj
  obtain⟨w',h1,h2⟩:=QJ vs (cs.set (base+i) v) base (i+1) _ hM1 hj1 (λu hu=>hv u (mt hu)) (by simp at hle ⊢; omega)
  refine⟨w',?_,?_⟩
  .simp only[storeCells,Oa,hadd,hst,Gv]
   exact h1
  .have e:setAt (setAt L j (cs.set (base+i) v)) j (jG (cs.set (base+i) v) (base+(i+1)) vs)=setAt L j (jG cs (base+i) (v::vs)):=by
    simp only[aEl,jG,Nat.add_assoc]
   rw[e] at h2
   exact h2
def dh {α:Type} (f:Nat->α) (i:Nat) (v:α):Nat->α:=λj=>if j=i then v else f j
def cells (n:Nat) (f:Nat->Value):List Value:=(List.range n).map f
abbrev cB (n:Nat) (f:Nat->BitVec 8):List Value:=cells n (λi=>B (f i))
theorem UP {m:Nat} {f:Nat->Value}:(cells m f).length=m:=by simp[cells]
theorem Oy {m i:Nat} {f:Nat->Value} (h:i < m):(cells m f)[i]?=some (f i):=by simp[cells,h]
theorem aQX {m:Nat} {f g:Nat->Value} (h:∀i,i < m->f i=g i):cells m f=cells m g:=by
 unfold cells
 exact J1 λi hi=>h i (ug.1 hi)
def lY {α:Type} (z:α) (l:List α):Nat->α:=λi=>l.getD i z
theorem aEf {t e:TypeId} {m:Nat} {d:TypeDesc} (ht:P.underlying t=some (.array m e)) (he:P.underlying e=some d) (hd:Kl d=false) (hsz:(P.info? e).map (·.size)=some 1) (F G:Nat->Value) (c:Nat->Bool) (hc:∀i w,i < m->(Op.equalIn 9999 e (F i) (G i)).run P w=.ok (c i) w) (w:World):(binOp .eql t (.agg (cells m F).toArray) (.agg (cells m G).toArray)).run P w=.ok (.bool ((List.range m).all c)) w:=by
 have key:(Op.equalIn 10000 t (.agg (cells m F).toArray) (.agg (cells m G).toArray)).run P w=.ok ((List.range m).all c) w:=by
  rw[List.range_eq_range',Op.equalIn]
  simp only[Oa,run_underlying ht,Gv,run_sizeOf hsz,Std.Legacy.Range.forIn_eq_forIn_range',Std.Legacy.Range.size,Nat.sub_zero,Gi,Gj]
  have hl:∀i∈List.range' 0 m 1,i < m:=λi hi=>by simpa using (List.mem_range'_1.1 hi).2
  generalize List.range' 0 m 1=l at hl ⊢
  induction l with
  | nil=>simp
  | cons i l ih=>
   have hi:i < m:=hl i (by simp)
   have px:(part e (cells m F).toArray (i*1)).run P w=.ok (F i) w:=by
    simp[part,LL he,hd,Oy hi]
   have py:(part e (cells m G).toArray (i*1)).run P w=.ok (G i) w:=by
    simp[part,LL he,hd,Oy hi]
   simp only[List.forIn_cons,Oa,px,py,hc i w hi,Gv,Ub]
   cases hb:c i
   .simp
   .simp only[Bool.not_true,sr,if_false,Sem.run_pure,Gv,arW]
    exact ih λj hj=>hl j (by simp[hj])
 rw[run_eql_struct,key]
 rfl
def GH (P:Program) (f:FuncId):Bool:=match P.funcs[f]? with
 | some fn=>!(fn.name=="runtime.NumGoroutine") && fn.body.isSome
 | none=>false
theorem aEe {f:FuncId} (hf:GH P f=true) (args:Array Value):(callFunc f args).run P w=.ok (.enter f args) w:=by
 unfold GH at hf
 split at hf
 .rename_i fn hfn
  simp only[ar,Ai] at hf
  have h2:fn.body.isNone=false:=by
   cases hb:fn.body with
   | none=>rw[hb] at hf; cases hf.2
   | some c=>rfl
  have h1:¬fn.name="runtime.NumGoroutine":=by simpa using hf.1
  have h3:¬fn.body=none:=by intro e; rw[e] at h2; cases h2
  simp[callFunc,hfn,h1,h3]
 .cases hf
structure Pure (P:Program) (f:FuncId) (args:Array Value) (w:World) (v:Value):Prop where
 ok:GH P f=true
 calls:Calls P f args w λe w'=>e=.returned v/\Mem w w' []
end
section
variable {P:Program} {ops:List Oper} {n:Nat} {C:World->Prop} {es:List (Nat×Value)} {K:(Nat->Value)->Prop} {l rest:List Oper} {o:Oper} {i:Nat} {vals:Nat->Value} {v:Value} {a:Act} {w w0:World} {E:Nat->Option Value}
variable {dst:Option Nat} {ty:TypeId} {pos:String} {af:Array Edge}
end
end Go.Sym
namespace Go.Sym
open Go Go.RowKit
section
variable {P:Program} {Q:Exit->Act->World->Prop} {a:Act} {w w0 w1:World} {n:Nat} {E:Nat->Option Value} {L Lx:List dC} {ops:Array Oper} {rest:List Oper}
variable {dst:Option Nat} {ty:TypeId} {pos:String} {af:Array Edge} {g:Option (Nat×Bool)}
def CX (m0:Nat) (e:TypeId) (v:Value) (xs:List Value) (Lx:List dC):Prop:=
 (v=.slice none 0 0/\xs=[]/\Lx=[])\/∃b cap sp,v=.slice (some ⟨b,0,none⟩) xs.length cap/\m0<=b/\xs.length+sp.length=cap/\Lx=[⟨b,e,xs++sp⟩]
theorem CX.nil {m0:Nat} {e:TypeId}:CX m0 e (.slice none 0 0) [] []:=.inl ⟨rfl,rfl,rfl⟩
theorem CX.ge {m0:Nat} {e:TypeId} {v:Value} {xs:List Value} (h:CX m0 e v xs Lx):∀x∈Lx,m0<=x.b:=by
 rcases h with ⟨_,_,rfl⟩ | ⟨b,cap,sp,_,hb,_,rfl⟩
 .intro x hx; cases hx
 .intro x hx; simp only[uh] at hx; subst hx; exact hb
theorem Mem.dropRight {w0 w:World} {X:List dC}:∀{L:List dC},Mem w0 w (L++X)->(∀e∈X,w0.heap.size<=e.b)->Mem w0 w L:=by
 intro L h hX
 refine⟨h.os,h.tape,h.output,h.size,λk hk hne=>h.cL k hk (λe he=>?_),λe he=>h.qf e (CM _ he),?_⟩
 .rcases Gg.1 he with he | he
  .exact hne e he
  .have:=hX e he; omega
 .have:=h.nodup
  rw[List.map_append,J2] at this
  exact this.1
theorem Mem.drew {w0 w:World} {L:List dC} (h:Mem w0 w L):Mem w0 w.drew L:=⟨h.os,h.tape,h.output,h.size,h.cL,h.qf,h.nodup⟩
theorem Mem.aPX {w0 w:World} {L:List dC} (h:Mem w0 w L) (t:TypeId) (cs:List Value):Mem w0 (w.alloc (.cells cs.toArray t (0,0))) (L++[⟨w.heap.size,t,cs⟩]):=by
 have h1:=h.alloc t cs
 refine⟨h1.os,h1.tape,h1.output,h1.size,λk hk hne=>h1.cL k hk (λe he=>hne e (by simpa [or_comm] using he)),λe he=>h1.qf e (by simpa [or_comm] using he),?_⟩
 have:=h1.nodup
 simp only[List.map_append,Ug,List.map_nil,CO] at this ⊢
 rw[J2]
 refine⟨this.2,by simp,λx hx y hy hxy=>?_⟩
 simp only[uh] at hy
 subst hy; subst hxy
 exact this.1 hx
theorem a9f {L:List dC} {e:dC} {cs:List Value}:setAt (L++[e]) L.length cs=L++[⟨e.b,e.t,cs⟩]:=by
 induction L with
 | nil=>rfl
 | cons x L ih=>simp only[List.cons_append,mz,setAt,ih]
structure adK (P:Program) (t e:TypeId) (z:Value) (bytes:Nat):Prop where
 ht:P.underlying t=some (.slice e)
 hi:(P.info? e).map (λi=>(i.zero,i.size,i.bytes))=some (some z,1,bytes)
 hz:z.cells.size=1
 hb:bytes<=8
end
end Go.Sym
namespace Go.Sym
open Go Go.RowKit Go.ChangeShapes Go.WideShapes Go.ChangeAt
section
variable {H:Type} {iM:TypeId×Value->H} {P:Program} {W:World} {base:Nat} {sp:Nat->Bool} {held:Bool}
theorem wf_u64 {z:Int} (h:(Lit.int .u64 z).wf=true):Value.int .u64 z=U (BitVec.ofInt 64 z):=by
 simp only[Lit.wf,IntKind.min,IntKind.max,IntKind.signed,IntKind.bits,ar] at h
 unfold U
 rw[arT]
 congr 1
 simp at h
 omega
theorem wf_u8 {z:Int} (h:(Lit.int .u8 z).wf=true):Value.int .u8 z=B (BitVec.ofInt 8 z):=by
 simp only[Lit.wf,IntKind.min,IntKind.max,IntKind.signed,IntKind.bits,ar] at h
 unfold B
 rw[arT]
 congr 1
 simp at h
 omega
theorem a1K {r:Reach} {b0 m:Nat} {t e:TypeId} {k:IntKind} {v:Value} {d:DataW H} {ps:List MemPlace} (ht:P.underlying t=some (.array m e)) (he:P.underlying e=some (.int k)) (hc:P.cellsOf t=m) (hc1:P.cellsOf e=1) (hval:Value.okWide P W r b0 t v) (hd:DataW.Trod iM P W base sp held t v d ps):∃f:Nat->Int,v=.agg (cells m (λi=>.int k (f i))).toArray/\∀i,i < m->(Lit.int k (f i)).wf=true:=by
 simp only[Value.okWide,ht] at hval
 obtain⟨cs,rfl,hsz,_⟩:=hval
 obtain⟨fuel,hf⟩:=hd
 cases fuel with
 | zero=>simp[DataW.trod] at hf
 | succ fuel=>
  have hl:cs.toList.length=m:=by rw[T1,hsz,hc]
  rw[DataW.trod_step] at hf
  unfold DataW.trodStep at hf
  simp only[ht,Value.cells] at hf
  rw[if_pos (by rw[hl,hc])] at hf
  simp only[eR] at hf
  obtain⟨ys,hy,_⟩:=hf
  have each:∀i,i < m->∃z,cs.toList[i]?=some (.int k z)/\(Lit.int k z).wf=true:=by
   intro i hi
   have hlen:=mapM_some_length hy
   have h1:=mapM_some_get hy i i (by simp[hi])
   rw[N2] at hlen
   rw[ue om] at h1
   obtain⟨z,hz,_,hw⟩:=DataW.trod_int he h1
   refine⟨z,?_,hw⟩
   rw[hc1,um] at hz
   have h2:((cs.toList.drop i).take 1)[0]?=some (.int k z):=by rw[hz]; rfl
   rw[Uf,if_pos dc,Ud,Nat.add_zero] at h2
   exact h2
  refine⟨λi=>match cs.toList[i]? with | some (.int _ z)=>z | _=>0,?_,?_⟩
  .congr 1
   apply NS
   simp only
   apply J0
   intro i
   by_cases hi:i < m
   .obtain⟨z,hz,_⟩:=each i hi
    rw[Oy hi,hz]
   .rw[CL om,CL (by rw[UP]; omega)]
  .intro i hi
   obtain⟨z,hz,hw⟩:=each i hi
   simp only[hz]
   exact hw
theorem a1L {r:Reach} {b0 m:Nat} {t e:TypeId} {v:Value} {d:DataW H} {ps:List MemPlace} (ht:P.underlying t=some (.array m e)) (he:P.underlying e=some (.int .u8)) (hc:P.cellsOf t=m) (hc1:P.cellsOf e=1) (hval:Value.okWide P W r b0 t v) (hd:DataW.Trod iM P W base sp held t v d ps):∃f:Nat->BitVec 8,v=.agg (cB m f).toArray:=by
 obtain⟨f,hv,hw⟩:=a1K ht he hc hc1 hval hd
 exact⟨λi=>BitVec.ofInt 8 (f i),by rw[hv]; congr 2; exact aQX λi hi=>wf_u8 (hw i hi)⟩
theorem WB {r:Reach} {b0:Nat} {t:TypeId} {v:Value} {d:DataW H} {ps:List MemPlace} (ht:P.underlying t=some (.int .u64)) (hval:Value.okWide P W r b0 t v) (hd:DataW.Trod iM P W base sp held t v d ps):∃x,v=U x:=by
 obtain⟨n,rfl,_,_,hw⟩:=open_int ht hval hd
 exact⟨_,wf_u64 hw⟩
theorem Pure.below {f:FuncId} {args:Array Value} {w:World} {v:Value} (h:Pure P f args w v):Calls P f args w λe w'=>e=.returned v/\Below w.heap.size w w':=
 h.calls.mono λ_ _ ⟨he,hm⟩=>⟨he,hm.below⟩
end
end Go.Sym
namespace Go.Z
open Go
inductive X where
 | i (n:Int)
 | v (k:Nat)
 | n
 | c (a b:X)
 | o1 (f:Nat) (a:X)
 | o2 (f:Nat) (a b:X)
 | o3 (f:Nat) (a b c:X)
 | f (k:Nat) (l:X)
abbrev R:=Nat->Int
class bI where
 u:Nat->List R->R
 ub:Nat->Option (Int×Int)
 ok:∀k l i lo hi,ub k=some (lo,hi)->lo<=u k l i/\u k l i<=hi
class Env where
 v:Nat->R
def wk:Nat->IntKind
 | 0=>.u64 | 1=>.u32 | 2=>.u16 | 3=>.u8 | 4=>.i64 | 5=>.i32 | 6=>.i16 | _=>.i8
def kc:IntKind->Nat
 | .u64=>0 | .u32=>1 | .u16=>2 | .u8=>3 | .i64=>4 | .i32=>5 | .i16=>6 | .i8=>7
theorem alq (k:IntKind):wk (kc k)=k:=by cases k <;>rfl
def tf (b:Bool):Int:=bif b then 1 else 0
def O1 (f:Nat) (a:R):R:=match f with
 | 8=>λ_=>tf (decide (a 0=0))
 | f=>λ_=>(wk f).wrap (a 0)
def O2 (f:Nat) (a b:R):R:=match f with
 | 0=>λ_=>a 0+b 0
 | 1=>λ_=>a 0 - b 0
 | 2=>λ_=>a 0*b 0
 | 3=>λ_=>(a 0).tdiv (b 0)
 | 4=>λ_=>(a 0).tmod (b 0)
 | 5=>λ_=>(((a 0).toNat &&& (b 0).toNat:Nat):Int)
 | 6=>λ_=>(((a 0).toNat ||| (b 0).toNat:Nat):Int)
 | 7=>λ_=>(((a 0).toNat ^^^ (b 0).toNat:Nat):Int)
 | 8=>λ_=>(((a 0).toNat ^^^ ((a 0).toNat &&& (b 0).toNat):Nat):Int)
 | 9=>λ_=>a 0*((2 ^ (b 0).toNat:Nat):Int)
 | 10=>λ_=>(((a 0).toNat>>>(b 0).toNat:Nat):Int)
 | 11=>λ_=>tf (decide (a 0 < b 0))
 | 12=>λ_=>tf (decide (a 0=b 0))
 | 13=>λ_=>tf (decide (a 0≠0) && decide (b 0≠0))
 | 14=>λ_=>a (b 0).toNat
 | _=>λi=>a (i+(b 0).toNat)
def O3 (f:Nat) (a b c:R):R:=match f with
 | 0=>λi=>if (i:Int) < b 0 then a i else c (i - (b 0).toNat)
 | 1=>λi=>if a 0=0 then c i else b i
 | _=>λ_=>tf (decide (∀i:Nat,i < (c 0).toNat->a i=b i))
variable [bI] [Env]
def DD:X->R×List R
 | .i n=>(λ_=>n,[])
 | .v k=>(Env.v k,[])
 | .n=>(λ_=>0,[])
 | .c a b=>((DD a).1,(DD a).1::(DD b).2)
 | .o1 f a=>(O1 f (DD a).1,[])
 | .o2 f a b=>(O2 f (DD a).1 (DD b).1,[])
 | .o3 f a b c=>(O3 f (DD a).1 (DD b).1 (DD c).1,[])
 | .f k l=>(bI.u k (DD l).2,[])
def D (x:X):R:=(DD x).1
def N (x:X):Int:=D x 0
omit [bI] [Env] in
theorem CV {f:Nat} (hf:f < 15) (a b:R) (i:Nat):O2 f a b i=O2 f a b 0:=by
 match f,hf with
 | 0,_ | 1,_ | 2,_ | 3,_ | 4,_ | 5,_ | 6,_ | 7,_ | 8,_ | 9,_ | 10,_ | 11,_ | 12,_ | 13,_ | 14,_=>rfl
def gM:X->X->Bool
 | .i a,.i b=>decide (a=b)
 | .v a,.v b=>Nat.beq a b
 | .n,.n=>true
 | .c a b,.c a' b'=>gM a a' && gM b b'
 | .o1 f a,.o1 g a'=>Nat.beq f g && gM a a'
 | .o2 f a b,.o2 g a' b'=>Nat.beq f g && (gM a a' && gM b b')
 | .o3 f a b c,.o3 g a' b' c'=>Nat.beq f g && (gM a a' && (gM b b' && gM c c'))
 | .f k l,.f k' l'=>Nat.beq k k' && gM l l'
 | _,_=>false
omit [bI] [Env] in
theorem xl:∀{a b:X},gM a b=true->a=b:=by
 intro a
 induction a with
 | i a=>intro b h; cases b <;>simp only[gM,sr] at h; rw[of_decide_eq_true h]
 | v a=>intro b h; cases b <;>simp only[gM,sr] at h; rw[iJ h]
 | n=>intro b h; cases b <;>simp only[gM,sr] at h; rfl
 | c a b iha ihb=>
  intro b h; cases b <;>simp only[gM,sr,ar] at h
  rw[iha h.1,ihb h.2]
 | o1 f a iha=>
  intro b h; cases b <;>simp only[gM,sr,ar] at h
  rw[iJ h.1,iha h.2]
 | o2 f a b iha ihb=>
  intro b h; cases b <;>simp only[gM,sr,ar] at h
  rw[iJ h.1,iha h.2.1,ihb h.2.2]
 | o3 f a b c iha ihb ihc=>
  intro b h; cases b <;>simp only[gM,sr,ar] at h
  rw[iJ h.1,iha h.2.1,ihb h.2.2.1,ihc h.2.2.2]
 | f k l ih=>
  intro b h; cases b <;>simp only[gM,sr,ar] at h
  rw[iJ h.1,ih h.2]
abbrev VB:=List (Nat×Int×Int)
def iA (k:Nat):VB->Option (Int×Int)
 | []=>none
 | (j,b)::r=>bif Nat.beq k j then some b else iA k r
def Ar (vb:VB):Prop:=∀k lo hi,iA k vb=some (lo,hi)->∀i,lo<=Env.v k i/\Env.v k i<=hi
def fX (k:Nat):Int×Int:=match k with
 | 0=>(0,18446744073709551615) | 1=>(0,4294967295) | 2=>(0,65535) | 3=>(0,255)
 | 4=>(-9223372036854775808,9223372036854775807) | 5=>(-2147483648,2147483647) | 6=>(-32768,32767) | 8=>(0,1) | _=>(-128,127)
def gu (k:IntKind) (n:Int):Prop:=(fX (kc k)).1<=n/\n<=(fX (kc k)).2
omit [bI] [Env] in
theorem aFm (f:Nat) (hf:f≠8) (n:Int):(fX f).1<=(wk f).wrap n/\(wk f).wrap n<=(fX f).2:=by
 have key:∀k:IntKind,(fX (kc k)).1<=k.wrap n/\k.wrap n<=(fX (kc k)).2:=by
  intro k
  cases k <;>simp only[IntKind.wrap,IntKind.signed,IntKind.bits,kc,fX,arW,arV,decide_eq_true_eq,ge_iff_le,sr,if_false] <;>first | omega | (split <;>omega)
 match f with
 | 0=>exact key .u64 | 1=>exact key .u32 | 2=>exact key .u16 | 3=>exact key .u8 | 4=>exact key .i64 | 5=>exact key .i32 | 6=>exact key .i16 | 7=>exact key .i8
 | 8=>exact absurd rfl hf
 | f+9=>exact key .i8
omit [bI] [Env] in
theorem als {k:IntKind} {n:Int} (h:gu k n):k.wrap n=n:=by
 unfold gu at h
 cases k <;>simp only[IntKind.wrap,IntKind.signed,IntKind.bits,kc,fX,arW,arV,decide_eq_true_eq,ge_iff_le,sr,if_false] at h ⊢ <;>first | omega | (split <;>omega)
omit [bI] [Env] in
theorem ru (b:Bool):(0:Int)<=tf b/\tf b<=1:=by cases b <;>exact⟨by decide,by decide⟩
def dp (n:Int):Int:=match n with
 | .ofNat m=>((2 ^ (Nat.log2 m+1) - 1:Nat):Int)
 | .negSucc _=>0
def bd2 (f:Nat) (a b:Option (Int×Int)):Option (Int×Int):=match f with
 | 0=>match a,b with | some (l,h),some (l',h')=>some (l+l',h+h') | _,_=>none
 | 1=>match a,b with | some (l,h),some (l',h')=>some (l - h',h - l') | _,_=>none
 | 2=>match a,b with | some (l,h),some (l',h')=>bif decide (0<=l) && decide (0<=l') then some (l*l',h*h') else bif decide (l'=h') && decide (h'<=0) then some (h*l',l*l') else none | _,_=>none
 | 3=>match a,b with | some (l,h),some (l',h')=>bif decide (0<=l) && (decide (0 < l') && decide (l'=h')) then some (l / l',h / l') else none | _,_=>none
 | 4=>match a,b with
  | some (l,h),some (l',h')=>bif decide (0 < l') && decide (l'=h') then (bif decide (0<=l) then (bif decide (h < l') then some (l,h) else some (0,l' - 1)) else some (1 - l',l' - 1)) else none
  | none,some (l',h')=>bif decide (0 < l') && decide (l'=h') then some (1 - l',l' - 1) else none
  | _,_=>none
 | 5=>match b,a with | some (_,h'),_=>some (0,bif decide (0<=h') then h' else 0) | none,some (_,h)=>some (0,bif decide (0<=h) then h else 0) | _,_=>none
 | 6=>match a,b with | some (_,h),some (_,h')=>some (0,dp (bif decide (h<=h') then h' else h)) | _,_=>none
 | 7=>match a,b with | some (_,h),some (_,h')=>some (0,dp (bif decide (h<=h') then h' else h)) | _,_=>none
 | 8=>match a with | some (_,h)=>some (0,dp h) | _=>none
 | 10=>match a,b with
  | some (_,h),some (l',h')=>bif decide (0<=h) then (bif decide (l'=h') && decide (0<=l') then some (0,((h.toNat>>>l'.toNat:Nat):Int)) else some (0,h)) else some (0,0)
  | some (_,h),none=>bif decide (0<=h) then some (0,h) else some (0,0)
  | _,_=>none
 | 11=>some (0,1)
 | 12=>some (0,1)
 | 13=>some (0,1)
 | 14=>a
 | 15=>a
 | _=>none
def VH:Option (Int×Int)->Option (Int×Int)->Option (Int×Int)
 | some (l,h),some (l',h')=>some (bif decide (l<=l') then l else l',bif decide (h<=h') then h' else h)
 | _,_=>none
def bd (vb:VB):X->Option (Int×Int)
 | .i n=>some (n,n)
 | .v k=>iA k vb
 | .n=>none
 | .c _ _=>none
 | .o1 f _=>some (fX f)
 | .o2 f a b=>bd2 f (bd vb a) (bd vb b)
 | .o3 0 a _ b=>VH (bd vb a) (bd vb b)
 | .o3 1 _ a b=>VH (bd vb a) (bd vb b)
 | .o3 _ _ _ _=>some (0,1)
 | .f k _=>bI.ub k
omit [bI] [Env] in
theorem aUm (m:Nat):m < 2 ^ (Nat.log2 m+1):=Nat.lt_log2_self
omit [bI] [Env] in
theorem aep {m n h:Nat} (hm:m<=h) (hn:n<=h):m ||| n<=2 ^ (Nat.log2 h+1) - 1/\m ^^^ n<=2 ^ (Nat.log2 h+1) - 1:=by
 have:=aUm h
 have h1:m < 2 ^ (Nat.log2 h+1):=by omega
 have h2:n < 2 ^ (Nat.log2 h+1):=by omega
 have h3:=asg h1 h2
 have h4:=N8 h1 h2
 omega
omit [bI] [Env] in
theorem aha {x y h h':Int} (hx:x<=h) (hy:y<=h') (g:Nat->Nat->Nat) (hg:∀m n k,m<=k->n<=k->g m n<=2 ^ (Nat.log2 k+1) - 1) (h0:g 0 0=0):(0:Int)<=(g x.toNat y.toNat:Nat)/\((g x.toNat y.toNat:Nat):Int)<=dp (bif decide (h<=h') then h' else h):=by
 refine⟨by omega,?_⟩
 generalize hm:(bif decide (h<=h') then h' else h)=m
 have h1:x<=m/\y<=m:=by
  cases hd:decide (h<=h') <;>rw[hd] at hm <;>simp at hm hd <;>omega
 cases m with
 | ofNat k=>
  have:=hg x.toNat y.toNat k (by have:=h1.1; simp at this; omega) (by have:=h1.2; simp at this; omega)
  exact Gb.2 this
 | negSucc k=>
  have e1:x.toNat=0:=by have:=h1.1; omega
  have e2:y.toNat=0:=by have:=h1.2; omega
  rw[e1,e2,h0]; exact aP _
omit [bI] [Env] in
theorem fF {b:Bool} {α:Type} {x y:α} {z:α} (h:(bif b then x else y)=z):(b=true/\x=z)\/(b=false/\y=z):=by
 cases b
 .exact .inr ⟨rfl,h⟩
 .exact .inl ⟨rfl,h⟩
omit [bI] [Env] in
theorem cm {b:Bool} {α:Type} {x:Option α} {z:α} (h:(bif b then x else none)=some z):b=true/\x=some z:=by
 cases b
 .cases h
 .exact⟨rfl,h⟩
def F7 (o:Option (Int×Int)) (r:R):Prop:=∀lo hi,o=some (lo,hi)->∀i,lo<=r i/\r i<=hi
omit [bI] [Env] in
theorem ave {a b:Option (Int×Int)} {r s q:R} (h1:F7 a r) (h2:F7 b s) (h:∀i,(∃j,q i=r j)\/∃j,q i=s j):F7 (VH a b) q:=by
 intro lo hi e i
 match a,b,e with
 | some (l,u),some (l',u'),e=>
  simp only[VH,cu,Prod.mk.injEq] at e
  obtain⟨e1,e2⟩:=e
  have hl:lo<=l/\lo<=l':=by cases hd:decide (l<=l') <;>rw[hd] at e1 <;>simp at e1 hd <;>omega
  have hh:u<=hi/\u'<=hi:=by cases hd:decide (u<=u') <;>rw[hd] at e2 <;>simp at e2 hd <;>omega
  rcases h i with ⟨j,hj⟩ | ⟨j,hj⟩
  .have:=h1 _ _ rfl j; omega
  .have:=h2 _ _ rfl j; omega
omit [bI] [Env] in
theorem a9R {a b:Int} (ha:0<=a):a.tdiv b=a / b:=ar4 ha
omit [bI] [Env] in
theorem X1 {a b:Int} (hb:0 < b):1 - b<=a.tmod b/\a.tmod b<=b - 1/\(0<=a->0<=a.tmod b/\(a < b->a.tmod b=a)):=by
 have h1:0<=a->a.tmod b=a % b:=λh=>JY h
 have h2:0<=a->0<=a % b/\a % b < b:=λ_=>⟨NY a om,NX a hb⟩
 rcases Int.lt_or_le a 0 with h | h
 .have h3:a.tmod b=-((-a) % b):=by
   rw[<- JY (by omega:(0:Int)<= -a),Int.neg_tmod]; omega
  have:=NY (-a) (by omega:b≠0)
  have:=NX (-a) hb
  exact⟨by omega,by omega,λh'=>by omega⟩
 .rw[h1 h]
  have:=h2 h
  exact⟨by omega,by omega,λ_=>⟨by omega,λhl=>T6 h hl⟩⟩
omit [bI] [Env] in
theorem aPY {x y:Int}:(0:Int)<=((x.toNat &&& y.toNat:Nat):Int)/\((x.toNat &&& y.toNat:Nat):Int)<=(x.toNat:Int)/\((x.toNat &&& y.toNat:Nat):Int)<=(y.toNat:Int):=
 ⟨by omega,Gb.2 N6,Gb.2 Nat.and_le_right⟩
omit [bI] [Env] in
theorem aP8 (f:Nat) {a b:Option (Int×Int)} {r s:R} (h1:F7 a r) (h2:F7 b s):F7 (bd2 f a b) (O2 f r s):=by
 intro lo hi e i
 unfold bd2 at e
 split at e
 case h_1=>
  split at e <;>simp only[cu,Prod.mk.injEq,reduceCtorEq] at e
  have:=h1 _ _ rfl 0; have:=h2 _ _ rfl 0
  show lo<=r 0+s 0/\r 0+s 0<=hi
  omega
 case h_2=>
  split at e <;>simp only[cu,Prod.mk.injEq,reduceCtorEq] at e
  have:=h1 _ _ rfl 0; have:=h2 _ _ rfl 0
  show lo<=r 0 - s 0/\r 0 - s 0<=hi
  omega
 case h_3=>
  split at e <;>try (cases e; done)
  rename_i l h l' h'
  have a1:=h1 _ _ rfl 0; have a2:=h2 _ _ rfl 0
  show lo<=r 0*s 0/\r 0*s 0<=hi
  cases hc:decide (0<=l) && decide (0<=l') with
  | true=>
   rw[hc] at e; cases e
   simp only[ar,decide_eq_true_eq] at hc
   exact⟨adQ a1.1 a2.1 hc.2 om,adQ a1.2 a2.2 om om⟩
  | false=>
   rw[hc] at e
   obtain⟨hc,e⟩:=cm e; simp only[cu,Prod.mk.injEq,ar,decide_eq_true_eq] at e hc
   obtain⟨e1,hn⟩:=hc
   obtain⟨rfl,rfl⟩:=e
   rw[show s 0=l' by omega]
   rw[<- e1] at hn
   exact⟨aPw a1.2 hn,aPw a1.1 hn⟩
 case h_4=>
  split at e <;>try cases e
  rename_i l h l' h'
  obtain⟨hc,e⟩:=cm e; simp only[cu,Prod.mk.injEq,ar,decide_eq_true_eq] at e hc
  have a1:=h1 _ _ rfl 0; have a2:=h2 _ _ rfl 0
  obtain⟨rfl,rfl⟩:=e
  show _<=(r 0).tdiv (s 0)/\(r 0).tdiv (s 0)<=_
  rw[a9R om,show s 0=l' by omega]
  exact⟨Int.ediv_le_ediv hc.2.1 a1.1,Int.ediv_le_ediv hc.2.1 a1.2⟩
 case h_5=>
  show lo<=(r 0).tmod (s 0)/\(r 0).tmod (s 0)<=hi
  split at e
  .rename_i l h l' h'
   have a1:=h1 _ _ rfl 0; have a2:=h2 _ _ rfl 0
   obtain⟨hc,e⟩:=cm e; simp only[ar,decide_eq_true_eq] at hc
   rw[show s 0=l' by omega]
   have hm:=X1 (a:=r 0) hc.1
   rcases fF e with ⟨hd,e⟩ | ⟨hd,e⟩
   .simp only[decide_eq_true_eq] at hd
    have h5:=hm.2.2 om
    rcases fF e with ⟨hf,e⟩ | ⟨hf,e⟩ <;>simp only[cu,Prod.mk.injEq,decide_eq_true_eq,decide_eq_false_iff_not] at e hf
    .have:=h5.2 om; omega
    .omega
   .simp only[cu,Prod.mk.injEq] at e
    omega
  .rename_i l' h'
   have a2:=h2 _ _ rfl 0
   obtain⟨hc,e⟩:=cm e; simp only[cu,Prod.mk.injEq,ar,decide_eq_true_eq] at e hc
   rw[show s 0=l' by omega]
   have hm:=X1 (a:=r 0) hc.1
   omega
  .cases e
 case h_6=>
  have ha:=aPY (x:=r 0) (y:=s 0)
  show lo<=(((r 0).toNat &&& (s 0).toNat:Nat):Int)/\(((r 0).toNat &&& (s 0).toNat:Nat):Int)<=hi
  split at e
  .have a2:=h2 _ _ rfl 0
   simp only[cu,Prod.mk.injEq] at e
   obtain⟨e1,e2⟩:=e
   rcases fF e2 with ⟨hd,e3⟩ | ⟨hd,e3⟩ <;>simp at hd <;>omega
  .rename_i l' h'
   have a2:=h1 _ _ rfl 0
   simp only[cu,Prod.mk.injEq] at e
   obtain⟨e1,e2⟩:=e
   rcases fF e2 with ⟨hd,e3⟩ | ⟨hd,e3⟩ <;>simp at hd <;>omega
  .cases e
 case h_7=>
  split at e <;>simp only[cu,Prod.mk.injEq,reduceCtorEq] at e
  obtain⟨rfl,rfl⟩:=e
  exact aha (h1 _ _ rfl 0).2 (h2 _ _ rfl 0).2 (· ||| ·) (λm n k h h'=>(aep h h').1) rfl
 case h_8=>
  split at e <;>simp only[cu,Prod.mk.injEq,reduceCtorEq] at e
  obtain⟨rfl,rfl⟩:=e
  exact aha (h1 _ _ rfl 0).2 (h2 _ _ rfl 0).2 (· ^^^ ·) (λm n k h h'=>(aep h h').2) rfl
 case h_9=>
  split at e <;>simp only[cu,Prod.mk.injEq,reduceCtorEq] at e
  obtain⟨rfl,rfl⟩:=e
  have hx:=(h1 _ _ rfl 0).2
  have:=aha hx hx (λm n=>m ^^^ (m &&& (s 0).toNat)) (λm n k h h'=>(aep h (An N6 h)).2) (by simp)
  refine⟨this.1,T7 this.2 ?_⟩
  rw[show ∀z:Int,(bif decide (z<=z) then z else z)=z from λz=>by cases decide (z<=z) <;>rfl]
  exact aP _
 case h_10=>
  show lo<=(((r 0).toNat>>>(s 0).toNat:Nat):Int)/\(((r 0).toNat>>>(s 0).toNat:Nat):Int)<=hi
  have hsh:(r 0).toNat>>>(s 0).toNat<=(r 0).toNat:=by rw[qQ]; exact adZ _ _
  generalize hg:(r 0).toNat>>>(s 0).toNat=g at hsh ⊢
  split at e
  .rename_i l h l' h'
   have a1:=h1 _ _ rfl 0; have a2:=h2 _ _ rfl 0
   rcases fF e with ⟨hc,e⟩ | ⟨hc,e⟩ <;>simp only[decide_eq_true_eq,decide_eq_false_iff_not] at hc
   .rcases fF e with ⟨hd,e⟩ | ⟨_,e⟩ <;>simp only[cu,Prod.mk.injEq] at e
    .simp only[ar,decide_eq_true_eq] at hd
     obtain⟨rfl,rfl⟩:=e
     refine⟨by omega,Gb.2 ?_⟩
     rw[<- hg,show (s 0).toNat=l'.toNat by omega,qQ,qQ]
     exact Nat.div_le_div_right om
    .omega
   .simp only[cu,Prod.mk.injEq] at e
    omega
  .rename_i l h
   have a1:=h1 _ _ rfl 0
   rcases fF e with ⟨hc,e⟩ | ⟨hc,e⟩ <;>simp only[cu,Prod.mk.injEq,decide_eq_true_eq,decide_eq_false_iff_not] at e hc <;>omega
  .cases e
 case h_11=>cases e; exact ru _
 case h_12=>cases e; exact ru _
 case h_13=>cases e; exact ru _
 case h_14=>exact h1 _ _ e _
 case h_15=>exact h1 _ _ e _
 case h_16=>cases e
theorem cO {vb:VB} (hv:Ar vb):∀x:X,F7 (bd vb x) (D x):=by
 intro x
 induction x with
 | i n=>intro lo hi e i; cases e; exact⟨aP _,aP _⟩
 | v k=>intro lo hi e i; exact hv k lo hi e i
 | n=>intro lo hi e; cases e
 | c a b=>intro lo hi e; cases e
 | o1 f a _=>
  intro lo hi e i
  have e':fX f=(lo,hi):=by simpa [bd] using e
  by_cases hf:f=8
  .subst hf; cases e'; exact ru _
  .have:D (.o1 f a) i=(wk f).wrap (D a 0):=by
    show O1 f _ i=_
    unfold O1
    split
    .exact absurd rfl hf
    .rfl
   rw[this]; have:=aFm f hf (D a 0); rw[e'] at this; exact this
 | o2 f a b iha ihb=>exact aP8 f iha ihb
 | o3 f a b c iha ihb ihc=>
  match f with
  | 0=>
   refine ave iha ihc λi=>?_
   by_cases h:(i:Int) < D b 0
   .exact .inl ⟨i,if_pos h⟩
   .exact .inr ⟨i - (D b 0).toNat,if_neg h⟩
  | 1=>
   refine ave ihb ihc λi=>?_
   by_cases h:D a 0=0
   .exact .inr ⟨i,if_pos h⟩
   .exact .inl ⟨i,if_neg h⟩
  | f+2=>intro lo hi e i; cases e; exact ru _
 | f k l _=>intro lo hi e i; exact bI.ok _ _ _ _ _ e
abbrev jQ:=Int×List (X×Int)
def fN:List (X×Int)->Int
 | []=>0
 | (x,c)::r=>c*N x+fN r
def NL (l:jQ):Int:=l.1+fN l.2
def Kk (x:X) (c:Int):List (X×Int)->List (X×Int)
 | []=>[(x,c)]
 | (y,d)::r=>bif gM x y then (bif decide (c+d=0) then r else (y,c+d)::r) else (y,d)::Kk x c r
def Of (k:Int) (l:List (X×Int)):List (X×Int)->List (X×Int)
 | []=>l
 | (x,c)::r=>Kk x (k*c) (Of k l r)
def comb (a:jQ) (k:Int) (b:jQ):jQ:=(a.1+k*b.1,Of k a.2 b.2)
def atom (x:X):jQ:=(0,[(x,1)])
def Ha:X->Option Int
 | .i n=>some n
 | .o2 f a b=>bif Nat.blt f 14 && not (Nat.beq f 9) then (match Ha a with
  | some n=>(match Ha b with
   | some m=>some (O2 f (λ_=>n) (λ_=>m) 0)
   | none=>none)
  | none=>none) else none
 | _=>none
def kC:X->jQ
 | .i n=>(n,[])
 | .o2 f a b=>match f with
  | 0=>comb (kC a) 1 (kC b)
  | 1=>comb (kC a) (-1) (kC b)
  | 2=>match kC a,kC b with
   | (n,[]),l=>comb (0,[]) n l
   | l,(n,[])=>comb (0,[]) n l
   | _,_=>atom (.o2 2 a b)
  | f=>match Ha (.o2 f a b) with
   | some n=>(n,[])
   | none=>atom (.o2 f a b)
 | x=>atom x
theorem asI (x:X) (c:Int):∀l,fN (Kk x c l)=c*N x+fN l
 | []=>rfl
 | (y,d)::r=>by
  unfold Kk
  cases he:gM x y with
  | true=>
   rw[xl he]
   cases hd:decide (c+d=0) with
   | true=>
    have h0:c=-d:=by have:=of_decide_eq_true hd; omega
    show fN r=c*N y+(d*N y+fN r)
    rw[h0,Int.neg_mul]; omega
   | false=>
    show (c+d)*N y+fN r=c*N y+(d*N y+fN r)
    rw[Int.add_mul]; omega
  | false=>
   show d*N y+fN (Kk x c r)=c*N x+(d*N y+fN r)
   rw[asI x c r]; omega
theorem asD (k:Int) (l:List (X×Int)):∀r,fN (Of k l r)=fN l+k*fN r
 | []=>by show fN l=fN l+k*0; omega
 | (x,c)::r=>by
  show fN (Kk x (k*c) (Of k l r))=fN l+k*(c*N x+fN r)
  rw[asI,asD k l r,adP,Ak]; omega
theorem Az (a:jQ) (k:Int) (b:jQ):NL (comb a k b)=NL a+k*NL b:=by
 show a.1+k*b.1+fN (Of k a.2 b.2)=a.1+fN a.2+k*(b.1+fN b.2)
 rw[asD,adP]; omega
theorem C9 (x:X):NL (atom x)=N x:=by
 show 0+(1*N x+0)=N x
 omega
omit [bI] [Env] in
theorem aPG {f:Nat} (hf:f < 14) (a b:R):O2 f a b 0=O2 f (λ_=>a 0) (λ_=>b 0) 0:=by
 match f,hf with
 | 0,_ | 1,_ | 2,_ | 3,_ | 4,_ | 5,_ | 6,_ | 7,_ | 8,_ | 9,_ | 10,_ | 11,_ | 12,_ | 13,_=>rfl
theorem aTK:∀{x:X} {n:Int},Ha x=some n->N x=n:=by
 intro x
 induction x with
 | i m=>intro n h; injection h
 | o2 f a b iha ihb=>
  intro n h
  unfold Ha at h
  obtain⟨hc,h⟩:=cm h
  rw[ar] at hc
  cases ha:Ha a with
  | none=>rw[ha] at h; cases h
  | some p=>
   cases hb:Ha b with
   | none=>rw[ha,hb] at h; cases h
   | some q=>
    rw[ha,hb] at h
    injection h with h
    show O2 f (D a) (D b) 0=n
    have e1:D a 0=p:=iha ha
    have e2:D b 0=q:=ihb hb
    rw[aPG (wh hc.1),e1,e2,h]
 | v k=>intro n h; cases h
 | n=>intro n h; cases h
 | c a b=>intro n h; cases h
 | o1 f a=>intro n h; cases h
 | o3 f a b c=>intro n h; cases h
 | f k l=>intro n h; cases h
theorem pb:∀x:X,NL (kC x)=N x:=by
 intro x
 induction x with
 | i n=>show n+0=n; omega
 | o2 f a b iha ihb=>
  unfold kC
  split
  .rw[Az,iha,ihb]; show _=N a+N b; omega
  .rw[Az,iha,ihb]; show _=N a - N b; omega
  .split
   .rename_i _ _ n h
    rw[Az,ihb]
    have e:N a=n:=by rw[<- iha,h]; show n+0=n; omega
    show (0:Int)+0+n*N b=N a*N b
    rw[e]; omega
   .rename_i _ _ n h _
    rw[Az,iha]
    have e:N b=n:=by rw[<- ihb,h]; show n+0=n; omega
    show (0:Int)+0+n*N a=N a*N b
    rw[e,wc n]; omega
   .exact C9 _
  .split
   .rename_i n h
    rw[aTK h]; show n+0=n; omega
   .exact C9 _
 | v k=>exact C9 _
 | n=>exact C9 _
 | c a b=>exact C9 _
 | o1 f a=>exact C9 _
 | o3 f a b c=>exact C9 _
 | f k l=>exact C9 _
def VW (vb:VB):List (X×Int)->Option Int
 | []=>some 0
 | (x,c)::r=>match bd vb x,VW vb r with
  | some (lo,hi),some s=>some ((bif decide (0<=c) then c*lo else c*hi)+s)
  | _,_=>none
def Wt (vb:VB) (l:jQ):Bool:=match VW vb l.2 with
 | some s=>decide (0<=l.1+s)
 | none=>false
theorem avA {vb:VB} (hv:Ar vb):∀(l:List (X×Int)) (s:Int),VW vb l=some s->s<=fN l
 | [],s,h=>by cases h; exact aP _
 | (x,c)::r,s,h=>by
  unfold VW at h
  split at h
  .rename_i lo hi q hb hq
   cases h
   have h1:=avA hv r q hq
   have h2:=cO hv x lo hi hb 0
   show _<=c*N x+fN r
   cases hd:decide (0<=c) with
   | true=>
    have:=ar2 h2.1 (of_decide_eq_true hd)
    show c*lo+q<=_
    have e:c*D x 0=c*N x:=rfl
    omega
   | false=>
    have hc:c<=0:=by have:=of_decide_eq_false hd; omega
    have:=Int.mul_le_mul_of_nonpos_left hc h2.2
    show c*hi+q<=_
    have e:c*D x 0=c*N x:=rfl
    omega
  .cases h
theorem ay4 {vb:VB} (hv:Ar vb) {l:jQ} (h:Wt vb l=true):0<=NL l:=by
 unfold Wt at h
 split at h
 .rename_i s hs
  have h1:=avA hv _ _ hs
  have h2:=of_decide_eq_true h
  show 0<=l.1+fN l.2
  omega
 .cases h
structure Fx where
 vb:VB
 fs:List jQ
 tr:List (X×Bool)
 eq:List (X×X)
structure ah (F:Fx):Prop where
 vb:Ar F.vb
 fs:∀l∈F.fs,0<=NL l
 tr:∀p∈F.tr,decide (N p.1≠0)=p.2
 eq:∀p∈F.eq,D p.1=D p.2
def dP (vb:VB) (l:jQ):List jQ->Bool
 | []=>false
 | f::r=>Wt vb (comb l (-1) f) || dP vb l r
def dR (vb:VB) (l:jQ) (all:List jQ):List jQ->Bool
 | []=>false
 | f::r=>dP vb (comb l (-1) f) all || dR vb l all r
def OV (F:Fx) (l:jQ):Bool:=Wt F.vb l || (dP F.vb l F.fs || dR F.vb l F.fs F.fs)
def KN (F:Fx) (x:X):Bool:=OV F (kC x)
variable {F:Fx}
theorem afg {vb:VB} (hv:Ar vb):∀{fs:List jQ} {l:jQ},(∀f∈fs,0<=NL f)->dP vb l fs=true->0<=NL l
 | f::r,l,hf,h=>by
  simp only[dP,dt] at h
  rcases h with h | h
  .have h1:=ay4 hv h
   rw[Az] at h1
   have:=hf f mh
   omega
  .exact afg hv (λg hg=>hf g (mt hg)) h
theorem auA {vb:VB} (hv:Ar vb) {all:List jQ} (ha:∀f∈all,0<=NL f):∀{fs:List jQ} {l:jQ},(∀f∈fs,0<=NL f)->dR vb l all fs=true->0<=NL l
 | f::r,l,hf,h=>by
  simp only[dR,dt] at h
  rcases h with h | h
  .have h1:=afg hv ha h
   rw[Az] at h1
   have:=hf f mh
   omega
  .exact auA hv ha (λg hg=>hf g (mt hg)) h
theorem afh (hF:ah F) {l:jQ} (h:OV F l=true):0<=NL l:=by
 simp only[OV,dt] at h
 rcases h with h | h | h
 .exact ay4 hF.vb h
 .exact afg hF.vb hF.fs h
 .exact auA hF.vb hF.fs hF.fs h
theorem OU (hF:ah F) {x:X} (h:KN F x=true):0<=N x:=by
 rw[<- pb]; exact afh hF h
def ay (F:Fx) (a b:X):Bool:=OV F (comb (kC b) (-1) (kC a))
def jq (F:Fx) (a b:X):Bool:=OV F (comb (-1,[]) 1 (comb (kC b) (-1) (kC a)))
def er (F:Fx) (a b:X):Bool:=gM a b || (ay F a b && ay F b a)
theorem aT (hF:ah F) {a b:X} (h:ay F a b=true):N a<=N b:=by
 have:=afh hF h
 rw[Az,pb,pb] at this; omega
theorem lZ (hF:ah F) {a b:X} (h:jq F a b=true):N a < N b:=by
 have:=afh hF h
 rw[Az,Az,pb,pb] at this
 have e:NL (-1,[])=-1:=rfl
 omega
theorem gq (hF:ah F) {a b:X} (h:er F a b=true):N a=N b:=by
 simp only[er,dt,ar] at h
 rcases h with h | ⟨h,h'⟩
 .rw[xl h]
 .have:=aT hF h; have:=aT hF h'; omega
def Lh:Int->List (X×Int)->X
 | n,[]=>.i n
 | n,(x,c)::r=>let y:=bif decide (c=1) then x else .o2 2 x (.i c)
  match r with
  | []=>bif decide (n=0) then y else .o2 0 y (.i n)
  | _=>.o2 0 y (Lh n r)
def gU (x:X):X:=let l:=kC x; Lh l.1 l.2
theorem aze:∀(n:Int) (l:List (X×Int)),N (Lh n l)=n+fN l
 | n,[]=>by show n=n+0; omega
 | n,(x,c)::r=>by
  have hy:N (bif decide (c=1) then x else .o2 2 x (.i c))=c*N x:=by
   cases hd:decide (c=1) with
   | true=>rw[of_decide_eq_true hd,Int.one_mul]; rfl
   | false=>exact wc _ _
  unfold Lh
  dsimp only
  generalize (bif decide (c=1) then x else .o2 2 x (.i c))=y at hy
  cases r with
  | nil=>
   show N (bif decide (n=0) then y else .o2 0 y (.i n))=n+(c*N x+0)
   cases hd:decide (n=0) with
   | true=>have:=of_decide_eq_true hd; show N y=_; omega
   | false=>show N y+n=_; omega
  | cons p r=>
   show N y+N (Lh n (p::r))=n+(c*N x+fN (p::r))
   rw[aze n (p::r)]; omega
theorem uT (x:X):N (gU x)=N x:=by
 show N (Lh _ _)=_
 rw[aze,<- pb x]; rfl
end Go.Z
namespace Go.Z
open Go
variable [bI] [Env] {F:Fx}
def uJ (x:X):List (X×Bool)->Option Bool
 | []=>none
 | (y,b)::r=>bif gM x y then some b else uJ x r
def ta (F:Fx):X->Option Bool
 | .i n=>some (!decide (n=0))
 | .o1 f a=>match f with
  | 8=>(ta F a).map (!·)
  | f=>uJ (.o1 f a) F.tr
 | .o2 f a b=>match f with
  | 11=>bif jq F a b then some true else bif ay F b a then some false else uJ (.o2 11 a b) F.tr
  | 12=>bif er F a b then some true else bif jq F a b || jq F b a then some false else uJ (.o2 12 a b) F.tr
  | 13=>match ta F a,ta F b with
   | some true,some r=>some r
   | some false,_=>some false
   | _,some false=>some false
   | _,_=>uJ (.o2 13 a b) F.tr
  | f=>uJ (.o2 f a b) F.tr
 | x=>uJ x F.tr
theorem uK (hF:ah F) {x:X} {b:Bool} (h:uJ x F.tr=some b):decide (N x≠0)=b:=by
 have key:∀l:List (X×Bool),(∀p∈l,decide (N p.1≠0)=p.2)->uJ x l=some b->decide (N x≠0)=b:=by
  intro l
  induction l with
  | nil=>intro _ h; cases h
  | cons p r ih=>
   intro hl h
   obtain⟨y,c⟩:=p
   unfold uJ at h
   cases he:gM x y with
   | true=>
    rw[he] at h
    cases h
    rw[xl he]; exact hl _ mh
   | false=>
    rw[he] at h
    exact ih (λq hq=>hl q (mt hq)) h
 exact key _ hF.tr h
omit [bI] [Env] in
theorem gX (b:Bool):decide (tf b≠0)=b:=by cases b <;>rfl
theorem Ec (hF:ah F):∀{x:X} {b:Bool},ta F x=some b->decide (N x≠0)=b:=by
 intro x
 induction x with
 | i z=>intro b h; cases h; show decide (z≠0)=_; simp
 | o1 f a ih=>
  intro b h
  unfold ta at h
  split at h
  .obtain⟨c,hc,rfl⟩:=eR.1 h
   have:=ih hc
   show decide (tf (decide (D a 0=0))≠0)=_
   rw[gX,<- this]
   by_cases e:D a 0=0
   .have:N a=0:=e
    simp[e,this]
   .have:¬N a=0:=e
    simp[e,this]
  .exact uK hF h
 | o2 f a b iha ihb=>
  intro r h
  unfold ta at h
  split at h
  .show decide (tf (decide (N a < N b))≠0)=_
   rw[gX]
   rcases fF h with ⟨hc,h⟩ | ⟨_,h⟩
   .cases h; exact decide_eq_true (lZ hF hc)
   .rcases fF h with ⟨hc,h⟩ | ⟨_,h⟩
    .cases h; exact decide_eq_false (by have:=aT hF hc; omega)
    .rw[<- gX (decide (N a < N b))]; exact uK hF h
  .show decide (tf (decide (N a=N b))≠0)=_
   rw[gX]
   rcases fF h with ⟨hc,h⟩ | ⟨_,h⟩
   .cases h; exact decide_eq_true (gq hF hc)
   .rcases fF h with ⟨hc,h⟩ | ⟨_,h⟩
    .cases h
     rw[dt] at hc
     refine decide_eq_false λe=>?_
     rcases hc with hc | hc
     .have:=lZ hF hc; omega
     .have:=lZ hF hc; omega
    .rw[<- gX (decide (N a=N b))]; exact uK hF h
  .have e:decide (N (.o2 13 a b)≠0)=(decide (N a≠0) && decide (N b≠0)):=gX _
   split at h
   .rename_i h1 h2
    cases h
    rw[e,iha h1,ihb h2]; rfl
   .rename_i h1
    cases h
    rw[e,iha h1]; rfl
   .rename_i h2 _ _
    cases h
    rw[e,ihb h2,Bool.and_false]
   .exact uK hF h
  .exact uK hF h
 | v k=>intro b h; exact uK hF h
 | n=>intro b h; exact uK hF h
 | c a b=>intro b h; exact uK hF h
 | o3 f a b c=>intro b h; exact uK hF h
 | f k l=>intro b h; exact uK hF h
def b9 (a b:X):X:=gU (.o2 0 a b)
def dF (a b:X):X:=gU (.o2 1 a b)
theorem eU (a b:X):N (b9 a b)=N a+N b:=uT _
theorem jH (a b:X):N (dF a b)=N a - N b:=uT _
def gt (F:Fx):X->X->X
 | .i n,_=>.i n
 | .o1 f a,_=>.o1 f a
 | .o2 f a o,i=>bif Nat.blt f 15 then .o2 f a o else bif ay F (.i 0) o then gt F a (b9 i o) else .o2 14 (.o2 f a o) (gU i)
 | .o3 0 a n b,i=>bif jq F i n then gt F a i else bif ay F n i && ay F (.i 0) n then gt F b (dF i n) else .o2 14 (.o3 0 a n b) (gU i)
 | x,i=>.o2 14 x (gU i)
omit [bI] [Env] in
theorem Gq {f:Nat} (hf:¬f < 15) (a b:R) (i:Nat):O2 f a b i=a (i+(b 0).toNat):=by
 match f,hf with
 | f+15,_=>rfl
theorem G1 (x i:X):N (.o2 14 x (gU i))=D x (N i).toNat:=by
 show D x (N (gU i)).toNat=_
 rw[uT]
theorem OX (hF:ah F):∀{a i:X},0<=N i->N (gt F a i)=D a (N i).toNat:=by
 intro a
 induction a with
 | i n=>intro i _; rfl
 | o1 f a _=>
  intro i _
  show O1 f _ 0=O1 f _ _
  unfold O1; split <;>rfl
 | o2 f a o iha _=>
  intro i hi
  unfold gt
  cases hf:Nat.blt f 15 with
  | true=>exact (CV (wh hf) _ _ _).symm
  | false=>
   have hf':¬f < 15:=λh=>by rw[show Nat.blt f 15=true from J4 h] at hf; cases hf
   cases ho:ay F (.i 0) o with
   | true=>
    have h0:0<=N o:=aT hF ho
    show N (gt F a (b9 i o))=O2 f (D a) (D o) (N i).toNat
    rw[iha (by rw[eU]; omega),eU,Gq hf']
    congr 1
    show _=_+(N o).toNat
    omega
   | false=>exact G1 _ _
 | o3 f a n b iha _ ihb=>
  intro i hi
  match f with
  | 0=>
   rw[gt]
   show N (bif _ then _ else _)=if ((N i).toNat:Int) < N n then D a (N i).toNat else D b ((N i).toNat - (N n).toNat)
   cases h1:jq F i n with
   | true=>
    have:=lZ hF h1
    rw[if_pos om]; exact iha hi
   | false=>
    cases h2:ay F n i && ay F (.i 0) n with
    | true=>
     rw[ar] at h2
     have h3:=aT hF h2.1
     have h4:0<=N n:=aT hF h2.2
     rw[if_neg om]
     show N (gt F b (dF i n))=_
     rw[ihb (by rw[jH]; omega),jH]
     congr 1; omega
    | false=>exact G1 (.o3 0 a n b) i
  | f+1=>exact G1 _ _
 | v k=>intro i _; exact G1 _ _
 | n=>intro i _; exact G1 _ _
 | c a b=>intro i _; exact G1 _ _
 | f k l=>intro i _; exact G1 _ _
def w9 (F:Fx) (x o:X):X:=bif er F o (.i 0) then x else .o2 15 x (gU o)
theorem u6 (hF:ah F) {x o:X} (i:Nat):D (w9 F x o) i=D x (i+(N o).toNat):=by
 unfold w9
 cases h:er F o (.i 0) with
 | true=>have:N o=0:=gq hF h; rw[this]; rfl
 | false=>show D x (i+(N (gU o)).toNat)=_; rw[uT]
def sub (F:Fx):X->X->X->X
 | .i m,_,_=>.i m
 | .o1 f a,_,_=>.o1 f a
 | .o2 f a p,o,n=>bif Nat.blt f 15 then .o2 f a p else bif ay F (.i 0) p then sub F a (b9 o p) n else w9 F (.o2 f a p) o
 | .o3 0 a m b,o,n=>bif ay F (b9 o n) m then sub F a o n else bif ay F m o && ay F (.i 0) m then sub F b (dF o m) n else
   bif ay F o m then (let d:=dF m o; .o3 0 (sub F a o d) d (sub F b (.i 0) (dF n d))) else w9 F (.o3 0 a m b) o
 | x,o,_=>w9 F x o
theorem LP (hF:ah F):∀{a o n:X},0<=N o->∀i:Nat,(i:Int) < N n->D (sub F a o n) i=D a (i+(N o).toNat):=by
 intro a
 induction a with
 | i m=>intro o n _ i _; rfl
 | o1 f a _=>
  intro o n _ i _
  show O1 f _ _=O1 f _ _
  unfold O1; split <;>rfl
 | o2 f a p iha _=>
  intro o n ho i hi
  unfold sub
  cases hf:Nat.blt f 15 with
  | true=>
   have h:=wh hf
   show O2 f _ _ _=O2 f _ _ _
   rw[CV h,CV h _ _ (i+_)]
  | false=>
   have hf':¬f < 15:=λh=>by rw[show Nat.blt f 15=true from J4 h] at hf; cases hf
   cases hp:ay F (.i 0) p with
   | true=>
    have h0:0<=N p:=aT hF hp
    show D (sub F a (b9 o p) n) i=O2 f (D a) (D p) _
    rw[iha (by rw[eU]; omega) i hi,eU,Gq hf']
    congr 1
    show _=_+(N p).toNat
    omega
   | false=>exact u6 hF i
 | o3 f a m b iha _ ihb=>
  intro o n ho i hi
  match f with
  | 0=>
   rw[sub]
   have e0:D (.o3 0 a m b) (i+(N o).toNat)=if ((i+(N o).toNat:Nat):Int) < N m then D a (i+(N o).toNat) else D b (i+(N o).toNat - (N m).toNat):=rfl
   rw[e0]
   cases h1:ay F (b9 o n) m with
   | true=>
    have:=aT hF h1
    rw[eU] at this
    rw[if_pos om]; exact iha ho i hi
   | false=>
    cases h2:ay F m o && ay F (.i 0) m with
    | true=>
     rw[ar] at h2
     have h3:=aT hF h2.1
     have h4:0<=N m:=aT hF h2.2
     rw[if_neg om]
     show D (sub F b (dF o m) n) i=_
     rw[ihb (by rw[jH]; omega) i hi,jH]
     congr 1; omega
    | false=>
     cases h3:ay F o m with
     | true=>
      have h4:=aT hF h3
      show (if (i:Int) < N (dF m o) then D (sub F a o (dF m o)) i else D (sub F b (.i 0) (dF n (dF m o))) (i - (N (dF m o)).toNat))=_
      rw[jH]
      by_cases h5:(i:Int) < N m - N o
      .rw[if_pos h5,if_pos om]
       exact iha ho i (by rw[jH]; exact h5)
      .rw[if_neg h5,if_neg om]
       rw[ihb (show 0<=N (.i 0) from aP _) _ (by rw[jH,jH]; omega)]
       congr 1
       show _+(0:Int).toNat=_
       omega
     | false=>rw[<- e0]; exact u6 hF i
  | f+1=>exact u6 hF i
 | v k=>intro o n _ i _; exact u6 hF i
 | n=>intro o n _ i _; exact u6 hF i
 | c a b=>intro o n _ i _; exact u6 hF i
 | f k l=>intro o n _ i _; exact u6 hF i
def sP:X->Bool
 | .i _=>true
 | .o1 _ _=>true
 | .o2 f _ _=>Nat.blt f 15
 | .o3 f _ _ _=>Nat.blt 1 f
 | _=>false
theorem wE {x:X} (h:sP x=true) (i:Nat):D x i=N x:=by
 cases x with
 | i n=>rfl
 | o1 f a=>show O1 f _ _=O1 f _ _; unfold O1; split <;>rfl
 | o2 f a b=>exact CV (wh h) _ _ _
 | o3 f a b c=>
  match f,h with
  | f+2,_=>rfl
 | v k=>cases h
 | n=>cases h
 | c a b=>cases h
 | f k l=>cases h
def Wm (F:Fx) (a n B e:X):Option X:=match a with
 | .o2 14 A o=>bif gM A B && (er F n (.i 1) && (er F (b9 o (.i 1)) e && ay F (.i 0) o)) then some (.o2 15 A o) else none
 | .o2 15 A o=>bif gM A B && (er F (b9 o n) e && ay F (.i 0) o) then some (.o2 15 A o) else none
 | A=>bif gM A B && er F n e then some A else none
def ayE (F:Fx) (a n b m:X):Option X:=match a with
 | .f k l=>bif er F m (.i 1) && er F b (.o2 14 (.f k l) n) then some (.f k l) else none
 | _=>none
def ayF (F:Fx) (a n b m:X):Option X:=match b with
 | .o2 14 B e=>bif er F m (.i 1) then Wm F a n B e else none
 | .o2 15 B e=>Wm F a n B e
 | _=>none
def mrg (F:Fx) (a n b m:X):Option X:=bif sP a && (sP b && er F a b) then some a else match ayE F a n b m with
 | some p=>some p
 | none=>ayF F a n b m
theorem ayD (hF:ah F) {a n B e p:X} (h:Wm F a n B e=some p) (hn:0<=N n) (i:Nat):((i:Int) < N n->D p i=D a i)/\(N n<=(i:Int)->D p i=D B (i - (N n).toNat+(N e).toNat)):=by
 unfold Wm at h
 split at h
 .rename_i A o
  obtain⟨hb,h⟩:=cm h
  cases h
  simp only[ar] at hb
  obtain⟨h1,h2,h3,h4⟩:=hb
  have e1:=xl h1
  subst e1
  have e2:N n=1:=gq hF h2
  have e3:=gq hF h3
  rw[eU] at e3
  have e3:N o+1=N e:=e3
  have e4:0<=N o:=aT hF h4
  refine⟨λhi=>?_,λhi=>?_⟩
  .show D A (i+(N o).toNat)=D A (N o).toNat
   rw[show i=0 by omega,Nat.zero_add]
  .show D A (i+(N o).toNat)=_
   congr 1; omega
 .rename_i A o
  obtain⟨hb,h⟩:=cm h
  cases h
  simp only[ar] at hb
  obtain⟨h1,h3,h4⟩:=hb
  have e1:=xl h1
  subst e1
  have e3:=gq hF h3
  rw[eU] at e3
  have e4:0<=N o:=aT hF h4
  refine⟨λhi=>rfl,λhi=>?_⟩
  show D A (i+(N o).toNat)=_
  congr 1; omega
 .obtain⟨hb,h⟩:=cm h
  cases h
  rw[ar] at hb
  have e1:=xl hb.1
  subst e1
  have e2:=gq hF hb.2
  refine⟨λhi=>rfl,λhi=>?_⟩
  congr 1; omega
theorem aZZ (hF:ah F) {a n b m p:X} (h:mrg F a n b m=some p) (hn:0<=N n) (i:Nat) (hi:(i:Int) < N n+N m):D p i=if (i:Int) < N n then D a i else D b (i - (N n).toNat):=by
 unfold mrg at h
 rcases fF h with ⟨hb,h⟩ | ⟨hz,h⟩
 .cases h
  simp only[ar] at hb
  rw[wE hb.1,wE hb.2.1,gq hF hb.2.2,ite_self]
 .clear hz
  split at h
  .rename_i q hq
   cases h
   unfold ayE at hq
   split at hq
   .rename_i k l
    obtain⟨hb,hq⟩:=cm hq
    cases hq
    rw[ar] at hb
    have h1:N m=1:=gq hF hb.1
    have h2:N b=D (.f k l) (N n).toNat:=gq hF hb.2
    by_cases q:(i:Int) < N n
    .rw[if_pos q]
    .rw[if_neg q,show i - (N n).toNat=0 by omega]
     show _=N b
     rw[h2,show i=(N n).toNat by omega]
   .cases hq
  unfold ayF at h
  split at h
  .rename_i B e _ _
   obtain⟨hm,h⟩:=cm h
   have hm:N m=1:=gq hF hm
   obtain⟨h1,h2⟩:=ayD hF h hn i
   by_cases q:(i:Int) < N n
   .rw[if_pos q]; exact h1 q
   .rw[if_neg q,h2 om]
    show _=D B (N e).toNat
    congr 1; omega
  .rename_i B e _ _
   obtain⟨h1,h2⟩:=ayD hF h hn i
   by_cases q:(i:Int) < N n
   .rw[if_pos q]; exact h1 q
   .rw[if_neg q,h2 om]; rfl
  .cases h
def KX (F:Fx) (a n b:X):X:=match b with
 | .o3 0 b1 m c=>match mrg F a n b1 m with
  | some p=>bif ay F (.i 0) n && ay F (.i 0) m then .o3 0 p (b9 n m) c else .o3 0 a n (.o3 0 b1 m c)
  | none=>.o3 0 a n (.o3 0 b1 m c)
 | b=>.o3 0 a n b
def p6 (a:R) (n:Int) (b:R):R:=λi=>if (i:Int) < n then a i else b (i - n.toNat)
theorem avd (hF:ah F) (a n b:X):D (KX F a n b)=p6 (D a) (N n) (D b):=by
 unfold KX
 split
 .rename_i b1 m c
  split
  .rename_i p hp
   cases hc:ay F (.i 0) n && ay F (.i 0) m with
   | true=>
    rw[ar] at hc
    have h1:0<=N n:=aT hF hc.1
    have h2:0<=N m:=aT hF hc.2
    funext i
    show (if (i:Int) < N (b9 n m) then D p i else D c (i - (N (b9 n m)).toNat))=if (i:Int) < N n then D a i else (if ((i - (N n).toNat:Nat):Int) < N m then D b1 (i - (N n).toNat) else D c (i - (N n).toNat - (N m).toNat))
    rw[eU]
    by_cases q:(i:Int) < N n+N m
    .rw[if_pos q,aZZ hF hp h1 i q]
     by_cases q2:(i:Int) < N n
     .rw[if_pos q2,if_pos q2]
     .rw[if_neg q2,if_neg q2,if_pos om]
    .rw[if_neg q,if_neg om,if_neg om]
     congr 1; omega
   | false=>rfl
  .rfl
 .rfl
def jC (F:Fx):X->X->X->X
 | .o3 0 p m q,n,b=>bif ay F n m then jC F p n b else bif ay F (.i 0) m && ay F m n then KX F p m (jC F q (dF n m) b) else .o3 0 (.o3 0 p m q) n b
 | a,n,b=>bif ay F n (.i 0) then b else KX F a (gU n) b
theorem Df (hF:ah F) (a n b:X):D (bif ay F n (.i 0) then b else KX F a (gU n) b)=p6 (D a) (N n) (D b):=by
 cases h:ay F n (.i 0) with
 | true=>
  have h0:N n<=0:=aT hF h
  funext i
  show D b i=if (i:Int) < N n then D a i else D b (i - (N n).toNat)
  rw[if_neg om,show (N n).toNat=0 by omega]; rfl
 | false=>show D (KX F a (gU n) b)=_; rw[avd hF,uT]
theorem yB (hF:ah F):∀(a n b:X),D (jC F a n b)=p6 (D a) (N n) (D b):=by
 intro a
 induction a with
 | o3 f p m q ihp _ ihq=>
  intro n b
  match f with
  | 0=>
   rw[jC]
   have e0:∀i,D (.o3 0 p m q) i=if (i:Int) < N m then D p i else D q (i - (N m).toNat):=λi=>rfl
   cases h1:ay F n m with
   | true=>
    have h2:=aT hF h1
    show D (jC F p n b)=_
    rw[ihp]
    funext i
    unfold p6
    by_cases h:(i:Int) < N n
    .rw[if_pos h,if_pos h,e0,if_pos om]
    .rw[if_neg h,if_neg h]
   | false=>
    cases h2:ay F (.i 0) m && ay F m n with
    | true=>
     rw[ar] at h2
     have h3:0<=N m:=aT hF h2.1
     have h4:=aT hF h2.2
     funext i
     rw[cond_false,cond_true,avd hF]
     show p6 (D p) (N m) (D (jC F q (dF n m) b)) i=p6 (D (.o3 0 p m q)) (N n) (D b) i
     rw[ihq,jH]
     unfold p6
     rw[e0]
     by_cases h5:(i:Int) < N m
     .rw[if_pos h5,if_pos om,if_pos h5]
     .rw[if_neg h5]
      by_cases h6:(i:Int) < N n
      .rw[if_pos om,if_pos h6,if_neg h5]
      .rw[if_neg om,if_neg h6]
       congr 1; omega
    | false=>rfl
  | f+1=>exact Df hF _ _ _
 | i m=>intro n b; exact Df hF _ _ _
 | v k=>intro n b; exact Df hF _ _ _
 | n=>intro n b; exact Df hF _ _ _
 | c a b=>intro n b; exact Df hF _ _ _
 | o1 f a=>intro n b; exact Df hF _ _ _
 | o2 f a b=>intro n b; exact Df hF _ _ _
 | f k l=>intro n b; exact Df hF _ _ _
def uz (x y:X):List (X×X)->Bool
 | []=>false
 | (a,b)::r=>((gM x a && gM y b) || (gM x b && gM y a)) || uz x y r
theorem U5 {x y:X}:∀{l:List (X×X)},(∀p∈l,D p.1=D p.2)->uz x y l=true->D x=D y
 | (a,b)::r,hl,h=>by
  simp only[uz,dt,ar] at h
  rcases h with (h | h) | h
  .rw[xl h.1,xl h.2]; exact hl (a,b) mh
  .rw[xl h.1,xl h.2]; exact (hl (a,b) mh).symm
  .exact U5 (λp hp=>hl p (mt hp)) h
def mM:X->Bool
 | .c _ _=>false
 | _=>true
theorem ag4 {x:X} (h:mM x=true):(DD x).2=[]:=by
 cases x <;>first | rfl | cases h
def GR (F:Fx) (x y:X):Bool:=gM x y || (mM x && (mM y && (uz x y F.eq || (sP x && (sP y && er F x y)))))
theorem qW {x y:X} (hx:mM x=true) (hy:mM y=true) (h:D x=D y):DD x=DD y:=Prod.ext h (by rw[ag4 hx,ag4 hy])
theorem GS (hF:ah F) {x y:X} (h:GR F x y=true):DD x=DD y:=by
 simp only[GR,dt,ar] at h
 rcases h with h | ⟨hx,hy,h | ⟨h1,h2,h3⟩⟩
 .rw[xl h]
 .exact qW hx hy (U5 hF.eq h)
 .exact qW hx hy (funext λi=>by rw[wE h1,wE h2,gq hF h3])
def gp (F:Fx):X->X->Bool
 | .c a b,y=>match y with
  | .c a' b'=>gp F a a' && gp F b b'
  | _=>false
 | .f k l,y=>GR F (.f k l) y || (match y with
  | .f k' l'=>Nat.beq k k' && gp F l l'
  | _=>false)
 | .o1 f a,y=>GR F (.o1 f a) y || (match y with
  | .o1 g a'=>Nat.beq f g && (er F a a' || gp F a a')
  | _=>false)
 | .o2 f a b,y=>GR F (.o2 f a b) y || (match y with
  | .o2 g a' b'=>Nat.beq f g && ((er F b b' || gp F b b') && (bif Nat.blt f 14 then er F a a' || gp F a a' else gp F a a'))
  | _=>false)
 | .o3 f a b c,y=>GR F (.o3 f a b c) y || (match y with
  | .o3 g a' b' c'=>Nat.beq f g && (match f with
   | 0=>(er F b b' || gp F b b') && (gp F a a' && gp F c c')
   | 1=>(er F a a' || gp F a a') && (gp F b b' && gp F c c')
   | _=>(er F c c' || gp F c c') && (gp F a a' && gp F b b'))
  | _=>false)
 | x,y=>GR F x y
omit [bI] [Env] in
theorem asj {f:Nat} (hf:f < 14) {a a' b b':R} (h1:a 0=a' 0) (h2:b 0=b' 0):O2 f a b=O2 f a' b':=by
 match f,hf with
 | 0,_ | 1,_ | 2,_ | 3,_ | 4,_ | 5,_ | 6,_ | 7,_ | 8,_ | 9,_ | 10,_ | 11,_ | 12,_ | 13,_=>exact funext λ_=>by simp only[O2,h1,h2]
omit [bI] [Env] in
theorem aPF {f:Nat} (hf:¬f < 14) {a b b':R} (h2:b 0=b' 0):O2 f a b=O2 f a b':=by
 match f,hf with
 | 14,_=>exact funext λ_=>by simp only[O2,h2]
 | f+15,_=>exact funext λ_=>by simp only[O2,h2]
theorem LM (hF:ah F) {a b:X} (h:(er F a b || gp F a b)=true) (ih:gp F a b=true->DD a=DD b):D a 0=D b 0:=by
 rw[dt] at h
 exact h.elim (λh=>gq hF h) λh=>congrFun (congrArg Prod.fst (ih h)) 0
theorem Dk (hF:ah F):∀{x y:X},gp F x y=true->DD x=DD y:=by
 intro x
 induction x with
 | c a b iha ihb=>
  intro y h
  unfold gp at h
  split at h
  .rw[ar] at h
   show ((DD a).1,(DD a).1::(DD b).2)=((DD _).1,(DD _).1::(DD _).2)
   rw[iha h.1,ihb h.2]
  .cases h
 | f k l ih=>
  intro y h
  unfold gp at h
  rw[dt] at h
  rcases h with h | h
  .exact GS hF h
  .split at h
   .rw[ar] at h
    show (bI.u k (DD l).2,[])=(bI.u _ (DD _).2,[])
    rw[iJ h.1,ih h.2]
   .cases h
 | o1 f a ih=>
  intro y h
  unfold gp at h
  rw[dt] at h
  rcases h with h | h
  .exact GS hF h
  .split at h
   .rw[ar] at h
    have e:D a 0=D _ 0:=LM hF h.2 ih
    have hf:=iJ h.1
    subst hf
    show (O1 f (D a),[])=(O1 f (D _),[])
    congr 1
    unfold O1
    split <;>(funext _; rw[e])
   .cases h
 | o2 f a b iha ihb=>
  intro y h
  unfold gp at h
  rw[dt] at h
  rcases h with h | h
  .exact GS hF h
  .split at h
   .rw[ar,ar] at h
    obtain⟨h1,h2,h3⟩:=h
    have hf:=iJ h1
    subst hf
    have e2:=LM hF h2 ihb
    show (O2 f (D a) (D b),[])=(O2 f (D _) (D _),[])
    congr 1
    rcases fF h3 with ⟨hb,h4⟩ | ⟨hb,h4⟩
    .exact asj (wh hb) (LM hF h4 iha) e2
    .rw[show D a=D _ from congrArg Prod.fst (iha h4)]
     exact aPF (λh=>by rw[show Nat.blt f 14=true from J4 h] at hb; cases hb) e2
   .cases h
 | o3 f a b c iha ihb ihc=>
  intro y h
  unfold gp at h
  rw[dt] at h
  rcases h with h | h
  .exact GS hF h
  .split at h
   .rw[ar] at h
    obtain⟨h1,h⟩:=h
    have hf:=iJ h1
    subst hf
    show (O3 f (D a) (D b) (D c),[])=(O3 f (D _) (D _) (D _),[])
    congr 1
    split at h <;>(rw[ar,ar] at h)
    .have e:D b 0=D _ 0:=LM hF h.1 ihb
     have e1:D a=D _:=congrArg Prod.fst (iha h.2.1)
     have e2:D c=D _:=congrArg Prod.fst (ihc h.2.2)
     funext i
     simp only[O3,e,e1,e2]
    .have e:D a 0=D _ 0:=LM hF h.1 iha
     have e1:D b=D _:=congrArg Prod.fst (ihb h.2.1)
     have e2:D c=D _:=congrArg Prod.fst (ihc h.2.2)
     funext i
     simp only[O3,e,e1,e2]
    .rename_i h0 h1
     have e:D c 0=D _ 0:=LM hF h.1 ihc
     have e1:D a=D _:=congrArg Prod.fst (iha h.2.1)
     have e2:D b=D _:=congrArg Prod.fst (ihb h.2.2)
     match f,h0,h1 with
     | f+2,_,_=>simp only[O3,e,e1,e2]
   .cases h
 | i n=>intro y h; exact GS hF h
 | v k=>intro y h; exact GS hF h
 | n=>intro y h; exact GS hF h
def GO (F:Fx):X->X->X
 | .o3 0 a m b,n=>bif ay F n m then GO F a n else .o3 0 a m b
 | x,_=>x
theorem atB (hF:ah F) {n:X}:∀{x:X} (i:Nat),(i:Int) < N n->D (GO F x n) i=D x i:=by
 intro x
 induction x with
 | o3 f a m b iha _ _=>
  intro i hi
  match f with
  | 0=>
   rw[GO]
   cases h:ay F n m with
   | true=>
    have:=aT hF h
    show D (GO F a n) i=if (i:Int) < N m then D a i else _
    rw[if_pos om]; exact iha i hi
   | false=>rfl
  | f+1=>rfl
 | _=>intro i _; rfl
def nl (F:Fx):X->X->X
 | .o3 0 a m b,n=>bif ay F m (.i 0) then nl F b n else bif ay F n m then nl F a n else bif ay F (.i 0) m then jC F (nl F a m) m (nl F b (dF n m)) else .o3 0 a m b
 | .o2 f a o,n=>bif Nat.blt f 15 then .o2 f a o else bif ay F (.i 0) o then sub F (nl F a (b9 n o)) o n else .o2 f a o
 | x,_=>x
theorem Pu (hF:ah F):∀{x n:X} (i:Nat),(i:Int) < N n->D (nl F x n) i=D x i:=by
 intro x
 induction x with
 | o3 f a m b iha _ ihb=>
  intro n i hi
  match f with
  | 0=>
   rw[nl]
   have e0:D (.o3 0 a m b) i=if (i:Int) < N m then D a i else D b (i - (N m).toNat):=rfl
   rw[e0]
   cases h1:ay F m (.i 0) with
   | true=>
    have h2:N m<=0:=aT hF h1
    rw[if_neg om,show (N m).toNat=0 by omega]
    exact ihb i hi
   | false=>
    cases h2:ay F n m with
    | true=>
     have:=aT hF h2
     rw[if_pos om]
     exact iha i hi
    | false=>
     cases h3:ay F (.i 0) m with
     | true=>
      have q2:0<=N m:=aT hF h3
      show D (jC F (nl F a m) m (nl F b (dF n m))) i=_
      rw[yB hF]
      unfold p6
      by_cases q:(i:Int) < N m
      .rw[if_pos q,if_pos q]; exact iha i q
      .rw[if_neg q,if_neg q]
       refine ihb _ ?_
       rw[jH]
       omega
     | false=>rfl
  | f+1=>rfl
 | o2 f a o iha _=>
  intro n i hi
  unfold nl
  cases hf:Nat.blt f 15 with
  | true=>rfl
  | false=>
   have hf':¬f < 15:=λh=>by rw[show Nat.blt f 15=true from J4 h] at hf; cases hf
   cases ho:ay F (.i 0) o with
   | true=>
    have h0:0<=N o:=aT hF ho
    show D (sub F (nl F a (b9 n o)) o n) i=O2 f (D a) (D o) i
    rw[LP hF h0 i hi,Gq hf']
    exact iha _ (by rw[eU]; omega)
   | false=>rfl
 | _=>intro n i _; rfl
def dz:X->X
 | .o2 14 a (.i 0)=>a
 | x=>x
theorem U1 (x:X):N (dz x)=N x:=by
 unfold dz
 split
 .rfl
 .rfl
def yG (F:Fx):X->X->X->Bool
 | .o3 0 a m b,y,n=>gp F (.o3 0 a m b) y || (bif ay F n m then yG F a y n else ay F (.i 0) m && (bif sP y then yG F a y m && yG F b y (dF n m) else match GO F y n with
  | .o3 0 a' m' b'=>bif er F m m' then ((yG F a a' m || (er F m (.i 1) && er F (dz a) (dz a'))) && yG F b b' (dF n m)) else (yG F a (nl F (sub F y (.i 0) m) m) m && yG F b (nl F (sub F y m (dF n m)) (dF n m)) (dF n m))
  | _=>false))
 | x,y,n=>gp F x (GO F y n)
theorem aRH (hF:ah F):∀{x y n:X},yG F x y n=true->∀i:Nat,(i:Int) < N n->D x i=D y i:=by
 intro x
 have gen:∀{x y n:X},gp F x (GO F y n)=true->∀i:Nat,(i:Int) < N n->D x i=D y i:=λh i hi=>by
  exact (congrFun (congrArg Prod.fst (Dk hF h)) i).trans (atB hF i hi)
 induction x with
 | o3 f a m b iha _ ihb=>
  intro y n h i hi
  match f with
  | 0=>
   rw[yG,dt] at h
   rcases h with h | h
   .exact congrFun (congrArg Prod.fst (Dk hF h)) i
   show (if (i:Int) < N m then D a i else D b (i - (N m).toNat))=_
   rcases fF h with ⟨hc,h⟩ | ⟨_,h⟩
   .have:=aT hF hc
    rw[if_pos om]
    exact iha h i hi
   .rw[ar] at h
    obtain⟨hm,h⟩:=h
    have hm:0<=N m:=aT hF hm
    rcases fF h with ⟨hk,h⟩ | ⟨_,h⟩
    .rw[ar] at h
     by_cases h5:(i:Int) < N m
     .rw[if_pos h5]; exact iha h.1 i h5
     .rw[if_neg h5,ihb h.2 _ (by rw[jH]; omega),wE hk,wE hk i]
    split at h
    .rename_i a' m' b' hy
     rcases fF h with ⟨h1,h⟩ | ⟨_,h⟩
     .rw[ar] at h
      obtain⟨h2,h3⟩:=h
      have e:=gq hF h1
      refine Eq.trans ?_ (atB hF (x:=y) i hi)
      rw[hy]
      show _=if (i:Int) < N m' then D a' i else D b' (i - (N m').toNat)
      rw[<- e]
      by_cases h5:(i:Int) < N m
      .rw[if_pos h5,if_pos h5]
       rw[dt] at h2
       rcases h2 with h2 | h2
       .exact iha h2 i h5
       .rw[ar] at h2
        have e1:N m=1:=gq hF h2.1
        have e2:=gq hF h2.2
        rw[U1,U1] at e2
        rw[show i=0 by omega]
        exact e2
      .rw[if_neg h5,if_neg h5]; exact ihb h3 _ (by rw[jH]; omega)
     .rw[ar] at h
      obtain⟨h2,h3⟩:=h
      by_cases h5:(i:Int) < N m
      .rw[if_pos h5,iha h2 i h5,Pu hF i h5,LP hF (o:=.i 0) (aP 0) i h5]
       rfl
      .have hi2:((i - (N m).toNat:Nat):Int) < N (dF n m):=by rw[jH]; omega
       rw[if_neg h5,ihb h3 _ hi2,Pu hF _ hi2,LP hF hm _ hi2]
       congr 1
       omega
    .cases h
  | f+1=>exact gen h i hi
 | _=>intro y n h i hi; exact gen h i hi
def GQ (F:Fx) (x y n:X):Bool:=yG F (nl F x n) (nl F y n) n
theorem U3 (hF:ah F) {x y n:X} (h:GQ F x y n=true):∀i:Nat,(i:Int) < N n->D x i=D y i:=λi hi=>by
 rw[<- Pu hF (x:=x) i hi,<- Pu hF (x:=y) i hi]
 exact aRH hF h i hi
omit [Env] in
theorem Vs (F:Fx):∀(a i:X),sP (gt F a i)=true:=by
 intro a
 induction a with
 | i n=>intro i; rfl
 | o1 f a _=>intro i; rfl
 | o2 f a o iha _=>
  intro i
  unfold gt
  cases hf:Nat.blt f 15 with
  | true=>exact hf
  | false=>cases ay F (.i 0) o with
   | true=>exact iha _
   | false=>rfl
 | o3 f a n b iha _ ihb=>
  intro i
  match f with
  | 0=>
   rw[gt]
   cases jq F i n with
   | true=>exact iha _
   | false=>cases ay F n i && ay F (.i 0) n with
    | true=>exact ihb _
    | false=>rfl
  | f+1=>rfl
 | v k=>intro i; rfl
 | n=>intro i; rfl
 | c a b=>intro i; rfl
 | f k l=>intro i; rfl
omit [bI] [Env] in
theorem afr {x:X} (h:sP x=true):mM x=true:=by cases x <;>first | rfl | cases h
def res (F:Fx):X->X
 | .o1 f a=>.o1 f (res F a)
 | .o2 f a b=>let a:=res F a; let b:=res F b; bif Nat.beq f 14 && ay F (.i 0) b then gt F a b else .o2 f a b
 | .o3 f c a b=>let c:=res F c; let a:=res F a; let b:=res F b
  match f with
  | 1=>(match ta F c with
   | some true=>bif mM a then a else .o3 1 c a b
   | some false=>bif mM b then b else .o3 1 c a b
   | none=>.o3 1 c a b)
  | f=>.o3 f c a b
 | .c a b=>.c (res F a) (res F b)
 | .f k l=>.f k (res F l)
 | x=>x
theorem Qx (hF:ah F):∀x:X,DD (res F x)=DD x:=by
 intro x
 induction x with
 | o1 f a ih=>show (O1 f (DD _).1,_)=(O1 f (DD _).1,_); rw[ih]
 | o2 f a b iha ihb=>
  have e0:DD (.o2 f (res F a) (res F b))=DD (.o2 f a b):=by show (O2 f (DD _).1 (DD _).1,_)=(O2 f (DD _).1 (DD _).1,_); rw[iha,ihb]
  show DD (bif Nat.beq f 14 && ay F (.i 0) (res F b) then gt F (res F a) (res F b) else .o2 f (res F a) (res F b))=_
  cases h:Nat.beq f 14 && ay F (.i 0) (res F b) with
  | false=>exact e0
  | true=>
   rw[ar] at h
   have hf:=iJ h.1
   subst hf
   have h0:0<=N (res F b):=aT hF h.2
   rw[cond_true]
   refine Eq.trans (qW (afr (Vs F _ _)) rfl ?_) e0
   funext i
   rw[wE (Vs F _ _),OX hF h0]
   rfl
 | o3 f c a b ihc iha ihb=>
  have e0:DD (.o3 f (res F c) (res F a) (res F b))=DD (.o3 f c a b):=by show (O3 f (DD _).1 (DD _).1 (DD _).1,_)=(O3 f (DD _).1 (DD _).1 (DD _).1,_); rw[ihc,iha,ihb]
  match f with
  | 1=>
   refine Eq.trans ?_ e0
   show DD (match ta F (res F c) with
    | some true=>bif mM (res F a) then res F a else .o3 1 (res F c) (res F a) (res F b)
    | some false=>bif mM (res F b) then res F b else .o3 1 (res F c) (res F a) (res F b)
    | none=>.o3 1 (res F c) (res F a) (res F b))=_
   have e1:D (.o3 1 (res F c) (res F a) (res F b))=λi=>if N (res F c)=0 then D (res F b) i else D (res F a) i:=rfl
   split
   .rename_i h
    have h1:=of_decide_eq_true (Ec hF h)
    cases hn:mM (res F a) with
    | false=>rfl
    | true=>
     rw[cond_true]
     exact qW hn rfl (by rw[e1]; funext i; rw[if_neg h1])
   .rename_i h
    have h1:=of_decide_eq_false (Ec hF h)
    have h1:N (res F c)=0:=Classical.byContradiction h1
    cases hn:mM (res F b) with
    | false=>rfl
    | true=>
     rw[cond_true]
     exact qW hn rfl (by rw[e1]; funext i; rw[if_pos h1])
   .rfl
  | 0=>exact e0
  | f+2=>exact e0
 | c a b iha ihb=>show ((DD _).1,(DD _).1::(DD _).2)=((DD _).1,(DD _).1::(DD _).2); rw[iha,ihb]
 | f k l ih=>show (bI.u k (DD _).2,_)=(bI.u k (DD _).2,_); rw[ih]
 | i n=>rfl
 | v k=>rfl
 | n=>rfl
theorem Qw (hF:ah F) (x:X):D (res F x)=D x:=congrArg Prod.fst (Qx hF x)
theorem Ii (hF:ah F) (x:X):N (res F x)=N x:=congrFun (Qw hF x) 0
def bK (x:X):X:=.o2 0 x (.i 0)
def LH (F:Fx) (a:X) (c:Int):List (X×Int)->Option (List (X×Int))
 | []=>none
 | (b,d)::r=>bif decide (c=d) && gp F a b then some r else (LH F a c r).map ((b,d)::·)
def Xr (F:Fx):List (X×Int)->List (X×Int)->Bool
 | [],l=>l.isEmpty
 | (a,c)::r,l=>match LH F a c l with | some l'=>Xr F r l' | none=>false
def eqS (F:Fx) (x y:X):Bool:=let l:=kC x; let m:=kC y; decide (l.1=m.1) && Xr F l.2 m.2
theorem aD8 (hF:ah F) {a:X} {c:Int}:∀{l l':List (X×Int)},LH F a c l=some l'->fN l=c*N a+fN l'
 | (b,d)::r,l',h=>by
  rw[LH] at h
  rcases fF h with ⟨hc,e⟩ | ⟨_,e⟩
  .rw[ar] at hc
   have h1:=of_decide_eq_true hc.1
   have h2:N a=N b:=congrFun (congrArg Prod.fst (Dk hF hc.2)) 0
   injection e with e
   subst e h1
   rw[h2]; rfl
  .cases hr:LH F a c r with
   | none=>rw[hr] at e; cases e
   | some q=>
    rw[hr] at e
    injection e with e
    subst e
    have:=aD8 hF hr
    show d*N b+fN r=c*N a+(d*N b+fN q)
    omega
theorem aDB (hF:ah F):∀{l m:List (X×Int)},Xr F l m=true->fN l=fN m
 | [],[],_=>rfl
 | (a,c)::r,m,h=>by
  rw[Xr] at h
  cases hr:LH F a c m with
  | none=>rw[hr] at h; cases h
  | some q=>
   rw[hr] at h
   rw[aD8 hF hr,<- aDB hF h]
   rfl
theorem aRI (hF:ah F) {x y:X} (h:eqS F x y=true):N x=N y:=by
 unfold eqS at h
 rw[ar] at h
 rw[<- pb x,<- pb y]
 unfold NL
 rw[of_decide_eq_true h.1,aDB hF h.2]
def yH (F:Fx) (x y:X):Bool:=er F x y || (let a:=res F x; let b:=res F y; (er F (dz a) (dz b) || uz (bK a) (bK b) F.eq) || (gp F a b || (gp F b a || eqS F a b)))
theorem Dl (hF:ah F) {x y:X} (h:yH F x y=true):N x=N y:=by
 unfold yH at h
 simp only[dt] at h
 rcases h with h | (h | h) | h | h | h
 .exact gq hF h
 .have:=gq hF h; rwa [U1,U1,Ii hF,Ii hF] at this
 .have h1:N (res F x)+0=N (res F y)+0:=congrFun (U5 hF.eq h) 0
  rw[Ii hF,Ii hF] at h1
  omega
 .have:=congrFun (congrArg Prod.fst (Dk hF h)) 0
  rw[Qx hF,Qx hF] at this; exact this
 .have:=congrFun (congrArg Prod.fst (Dk hF h)) 0
  rw[Qx hF,Qx hF] at this; exact this.symm
 .have:=aRI hF h; rwa [Ii hF,Ii hF] at this
def ix (x n:X):X:=.o3 0 x n (.i 0)
def U2 (F:Fx) (x y n:X):Bool:=(GQ F x y n || uz (ix x n) (ix y n) F.eq) || (let a:=res F x; let b:=res F y; GQ F a b n || GQ F b a n)
theorem atV (hF:ah F) {x y n:X} (h:U2 F x y n=true):∀i:Nat,(i:Int) < N n->D x i=D y i:=λi hi=>by
 unfold U2 at h
 simp only[dt] at h
 rcases h with (h | h) | h | h
 .exact U3 hF h i hi
 .have:=congrFun (U5 hF.eq h) i
  have e:∀x:X,D (ix x n) i=D x i:=λx=>if_pos hi
  rwa [e,e] at this
 .have:=U3 hF h i hi; rwa [Qw hF,Qw hF] at this
 .have:=U3 hF h i hi; rw[Qw hF,Qw hF] at this; exact this.symm
end Go.Z
namespace Go.Ev
open Go
inductive T (α:Type) where
 | lf (a:α)
 | nd (l r:T α)
section
def T.get {α:Type} (t:T α):Nat->α:=T.rec (motive:=λ_=>Nat->α) (λa _=>a) (λ_ _ gl gr i=>cond (Nat.beq (Nat.mod i 2) 0) (gl (Nat.div i 2)) (gr (Nat.div i 2))) t
def T.set {α:Type} (d:Nat):T α->Nat->α->T α:=Nat.rec (motive:=λ_=>T α->Nat->α->T α) (λ_ _ a=>.lf a)
 (λ_ ih t i a=>T.casesOn (motive:=λ_=>T α) t (λb=>cond (Nat.beq (Nat.mod i 2) 0) (.nd (ih (.lf b) (Nat.div i 2) a) (.lf b)) (.nd (.lf b) (ih (.lf b) (Nat.div i 2) a)))
  (λl r=>cond (Nat.beq (Nat.mod i 2) 0) (.nd (ih l (Nat.div i 2) a) r) (.nd l (ih r (Nat.div i 2) a)))) d
inductive K where
 | n
 | r (lo hi:Nat)
 | m (js:List Nat)
 | f (i:Nat)
def DH:Nat:=12
def DF:Nat:=9
def a7:IntKind->Nat
 | .u64=>18446744073709551616
 | .u32=>4294967296
 | .u16=>65536
 | .u8=>256
 | .i64=>9223372036854775808
 | .i32=>2147483648
 | .i16=>32768
 | .i8=>128
def bits (op:BinOp) (x y:Nat):Option Nat:=
 match op with
 | .and=>some (x &&& y)
 | .or=>some (x ||| y)
 | .xor=>some (x ^^^ y)
 | .andNot=>some (x ^^^ (x &&& y))
 | _=>none
inductive Ex where
 | norm
 | ret
 | exit (i:Nat)
def aZW:Op->Bool
 | .alloc _=>true
 | .box _ _=>true
 | .buildSlice _ _ _=>true
 | .makeSlice _ _ _=>true
 | .call ⟨.builtin .append,_,_⟩=>true
 | _=>false
def ahg:Option Nat->Option Nat->Bool
 | none,none=>true
 | some a,some b=>Nat.beq a b
 | _,_=>false
def jD:List K->List Nat
 | []=>[]
 | .f i::r=>i::jD r
 | _::r=>jD r
def la:List K->List Nat
 | []=>[]
 | .m js::r=>js++la r
 | _::r=>la r
def qh (q:Nat):List Nat->Bool
 | []=>false
 | x::l=>Nat.beq q x || qh q l
def lone (js:List Nat):List Nat->List Nat
 | []=>[]
 | q::l=>bif qh q js then lone js l else q::lone js l
def sL (ks:List K):List Nat:=match jD ks with
 | []=>[]
 | l=>lone (la ks) l
end
end Go.Ev
namespace Go.Z
open Go
open Go.Ev (T K Ex DH DF)
section
variable [bI]
inductive gj where
 | k (x:X)
 | g
 | a
inductive C where
 | int (k:IntKind) (x:X)
 | bool (b:Bool)
 | bx (x:X)
 | str (n x:X)
 | db
 | ptr (id off:Nat) (e:X)
 | cT
 | sl (id off:Nat) (e len:X) (cap:gj)
 | yV
 | fn (f:FuncId) (caps:List (Nat×Nat))
inductive ai where
 | c (c:C)
 | a (ks:List IntKind) (n x:X)
inductive P1 where
 | c (c:C)
 | agg (l:List ai)
inductive V where
 | c (c:C)
 | agg (l:List ai)
 | dK (l:List P1)
structure Bl where
 t:TypeId
 ss:List ai
 ro:Bool
 ks:Nat
structure Hp where
 h:T (Option Bl)
 nx:Nat
abbrev Fr:=T (Option V)
abbrev jy:=Operand->Option V
structure Info where
 td:TypeId->Option TypeDesc
 sz:TypeId->Option Nat
 zs:TypeId->Option (List ai)
 eg:TypeId->Bool
 fn:FuncId->Option Func
 pl:FuncId->Nat->List K
 F:Fx
def Hp.get (h:Hp) (i:Nat):Option Bl:=h.h.get i
def Hp.put (h:Hp) (i:Nat) (b:Option Bl):Hp:=⟨h.h.set DH i b,h.nx⟩
def nat? (n:Int):Option Nat:=match n with | .ofNat m=>some m | .negSucc _=>none
def ot:X->Option Nat
 | .i n=>nat? n
 | _=>none
def VA (k:IntKind) (n:Int):Bool:=decide ((fX (kc k)).1<=n) && decide (n<=(fX (kc k)).2)
def Ou:List UInt8->X
 | []=>.i 0
 | b::r=>.o3 0 (.i b.toNat) (.i 1) (Ou r)
def OB:Value->Option C
 | .bool b=>some (.bool b)
 | .int k n=>bif VA k n then some (.int k (.i n)) else none
 | .pointer none=>some .db
 | .slice none 0 0=>some .cT
 | .string s=>some (.str (.i s.data.size) (Ou s.data.toList))
 | .nilFunc=>some .yV
 | _=>none
def cst:Value->Option V
 | .agg cs=>(cs.toList.mapM OB).map λl=>.agg (l.map .c)
 | v=>(OB v).map .c
def dy (s:Fr):jy
 | .tmp t=>bif Nat.blt t 512 then s.get t else none
 | .const v=>cst v
 | .func f=>some (.c (.fn f []))
 | .global _=>none
def wH (f:Nat) (a b:X):X:=match a,b with
 | .i n,.i m=>.i (O2 f (λ_=>n) (λ_=>m) 0)
 | a,b=>.o2 f a b
def vf (F:Fx) (k:IntKind) (x:X):X:=
 let y:=gU x
 bif ay F (.i (fX (kc k)).1) y && ay F y (.i (fX (kc k)).2) then y else match y with
 | .i n=>.i (k.wrap n)
 | y=>.o1 (kc k) y
def nnK (k:IntKind):Bool:=match k with | .u64 | .u32 | .u16 | .u8=>true | _=>false
def sX (F:Fx) (k:IntKind) (x:X):Bool:=nnK k || ay F (.i 0) x
def Eb (F:Fx):X->Option Bool
 | .o3 2 a b c=>bif GQ F a b c then some true else uJ (.o3 2 a b c) F.tr
 | .o1 8 (.o3 2 a b c)=>bif GQ F a b c then some false else (uJ (.o3 2 a b c) F.tr).map (!·)
 | x=>ta F x
def rh (F:Fx) (x:X):C:=match Eb F x with
 | some b=>.bool b
 | none=>.bx x
def Wi (F:Fx) (x y:X):X:=bif ay F (.i 0) x && jq F x y then x else wH 4 x y
def aen (F:Fx) (op:BinOp) (k:IntKind) (x y:X):Option C:=
 match op with
 | .add=>some (.int k (vf F k (.o2 0 x y)))
 | .sub=>some (.int k (vf F k (.o2 1 x y)))
 | .mul=>some (.int k (vf F k (.o2 2 x y)))
 | .quo=>bif jq F (.i 0) y then some (.int k (vf F k (wH 3 x y))) else none
 | .rem=>bif jq F (.i 0) y then some (.int k (Wi F x y)) else none
 | .shl=>match ot y with
  | some m=>bif Nat.ble m k.bits then some (.int k (vf F k (.o2 2 x (.i ((2 ^ m:Nat):Int))))) else none
  | none=>bif ay F (.i 0) y && ay F y (.i k.bits) then some (.int k (vf F k (.o2 9 x y))) else none
 | .shr=>bif sX F k x && (ay F (.i 0) y && ay F y (.i k.bits)) then some (.int k (wH 10 x y)) else none
 | .and=>bif sX F k x && sX F k y then some (.int k (wH 5 x y)) else none
 | .or=>bif sX F k x && sX F k y then some (.int k (wH 6 x y)) else none
 | .xor=>bif sX F k x && sX F k y then some (.int k (wH 7 x y)) else none
 | .andNot=>bif sX F k x && sX F k y then some (.int k (wH 8 x y)) else none
 | .eql=>some (rh F (.o2 12 x y))
 | .neq=>some (rh F (.o1 8 (.o2 12 x y)))
 | .lss=>some (rh F (.o2 11 x y))
 | .gtr=>some (rh F (.o2 11 y x))
 | .leq=>some (rh F (.o1 8 (.o2 11 y x)))
 | .geq=>some (rh F (.o1 8 (.o2 11 x y)))
def au6:TypeDesc->Bool
 | .int _=>true
 | _=>false
def VD (I:Info) (t:TypeId):Bool:=match I.td t with | some (.pointer _)=>true | _=>false
def q7 (I:Info) (t:TypeId):Bool:=match I.td t with | some (.slice _)=>true | _=>false
def isR (I:Info) (t:TypeId) (n:Nat):Bool:=match I.td t with
 | some (.array m e)=>match I.td e,I.sz e with
  | some d,some 1=>au6 d && Nat.beq m n && I.eg t
  | _,_=>false
 | _=>false
def GU (op:BinOp) (b:Bool):Option V:=
 match op with
 | .eql=>some (.c (.bool b))
 | .neq=>some (.c (.bool (!b)))
 | _=>none
def U4 (F:Fx) (op:BinOp) (x:X):Option V:=
 match op with
 | .eql=>some (.c (rh F x))
 | .neq=>some (.c (rh F (.o1 8 x)))
 | _=>none
def q8 (a b:IntKind):Bool:=Nat.beq (kc a) (kc b)
def ox (F:Fx) (k:IntKind):List ai->Option (X×X)
 | []=>some (.i 0,.i 0)
 | [.a [k'] n x]=>bif q8 k k' then some (n,x) else none
 | .c (.int k' x)::r=>match ox F k r with
  | some (m,y)=>bif q8 k k' then some (b9 (.i 1) m,jC F (gU x) (.i 1) y) else none
  | none=>none
 | .a [k'] n x::r=>match ox F k r with
  | some (m,y)=>bif q8 k k' && ay F (.i 0) n then some (b9 n m,jC F x n y) else none
  | none=>none
 | _=>none
def afn:List ai->Option IntKind
 | .c (.int k _)::_=>some k
 | .a [k] _ _::_=>some k
 | _=>none
def bin (I:Info) (op:BinOp) (t:TypeId):V->V->Option V
 | .c (.int k x),.c (.int k' y)=>if k=k'\/op=.shl\/op=.shr then (aen I.F op k x y).map .c else none
 | .c (.str n x),.c (.str m y)=>bif er I.F n m then U4 I.F op (.o3 2 x y n) else bif jq I.F n m || jq I.F m n then GU op false else none
 | .c .db,.c .db=>bif VD I t then GU op true else none
 | .c (.ptr _ _ _),.c .db=>bif VD I t then GU op false else none
 | .c .cT,.c .cT=>bif q7 I t then GU op true else none
 | .c (.sl _ _ _ _ _),.c .cT=>bif q7 I t then GU op false else none
 | .agg a,.agg b=>match afn a with
  | some k=>match ox I.F k a,ox I.F k b with
   | some (n,x),some (m,y)=>match ot n,ot m with
    | some n',some m'=>bif Nat.beq n' m' && isR I t n' then U4 I.F op (.o3 2 x y (.i n')) else none
    | _,_=>none
   | _,_=>none
  | none=>none
 | _,_=>none
def a0A (F:Fx) (x:X):C:=rh F (.o1 8 x)
def un (I:Info) (op:UnOp):V->Option V
 | .c (.bool b)=>match op with | .not=>some (.c (.bool (!b))) | _=>none
 | .c (.bx x)=>match op with | .not=>some (.c (a0A I.F x)) | _=>none
 | .c (.int k x)=>match op with
  | .neg=>some (.c (.int k (vf I.F k (.o2 1 (.i 0) x))))
  | .xor=>bif nnK k then some (.c (.int k (gU (.o2 1 (.i k.max) x)))) else none
  | _=>none
 | _=>none
def a9e:ai->X
 | .c _=>.i 1
 | .a _ n _=>n
def q9:List ai->X
 | []=>.i 0
 | s::r=>b9 (a9e s) (q9 r)
def Xf (ks:List IntKind) (o:Nat):Bool:=Nat.beq (Nat.mod o ks.length) 0
def qV (F:Fx):List ai->Nat->Option (List ai×List ai)
 | [],o=>bif Nat.beq o 0 then some ([],[]) else none
 | .c c::r,o=>match o with
  | 0=>some ([],.c c::r)
  | o+1=>(qV F r o).map λ(p,q)=>(.c c::p,q)
 | .a ks n x::r,o=>bif Nat.beq o 0 then some ([],.a ks n x::r) else match ot n with
  | some m=>bif Nat.ble m o then (qV F r (o - m)).map λ(p,q)=>(.a ks n x::p,q) else
   bif Xf ks o then some ([.a ks (.i o) x],.a ks (.i (m - o:Nat)) (sub F x (.i o) (.i (m - o:Nat)))::r) else none
  | none=>bif ay F (.i o) n && Xf ks o then some ([.a ks (.i o) x],.a ks (dF n (.i o)) (sub F x (.i o) (dF n (.i o)))::r) else none
def loc (F:Fx) (ss:List ai) (off:Nat) (e:X):Option (List ai×List ai×X):=match qV F ss off with
 | some (p,q)=>match ot e with
  | some 0=>some (p,q,.i 0)
  | some j=>match q with
   | .a ks n x::r=>bif jq F (.i j) n then some (p,.a ks n x::r,.i j) else (qV F q j).map λ(p',q')=>(p++p',q',.i 0)
   | q=>(qV F q j).map λ(p',q')=>(p++p',q',.i 0)
  | none=>some (p,q,e)
 | none=>none
def Wl (m:Nat):List (X×Int)->Bool
 | []=>true
 | (_,c)::r=>decide (c % (m:Int)=0) && Wl m r
def phase (m:Nat) (e:X):Option Nat:=match m with
 | 1=>some 0
 | m=>let l:=kC e
  bif Wl m l.2 then nat? (l.1 % (m:Int)) else none
def cellAt (F:Fx) (ss:List ai) (off:Nat) (e:X):Option C:=match loc F ss off e with
 | some (_,.c c::_,.i 0)=>some c
 | some (_,.a ks n x::_,e')=>match phase ks.length e' with
  | some p=>match ks[p]? with
   | some k=>bif ay F (.i 0) e' && jq F e' n then some (.int k (gt F x e')) else none
   | none=>none
  | none=>none
 | _=>none
def w5 (F:Fx) (ss:List ai) (off:Nat) (e n:X):Option (List ai):=match loc F ss off e with
 | some (_,q,e')=>match ot e',ot n with
  | some 0,some m=>(qV F q m).map (·.1)
  | _,_=>match q with
   | .a ks m x::_=>match phase ks.length e' with
    | some 0=>bif ay F (.i 0) e' && (ay F (.i 0) n && ay F (b9 e' n) m) then some [.a ks n (sub F x e' n)] else none
    | _=>none
   | _=>bif er F n (.i 0) then some [] else none
 | none=>none
def isAgg:TypeDesc->Bool
 | .array ..=>true
 | .struct _=>true
 | _=>false
def QG (F:Fx) (ks:List IntKind) (x:X):Nat->Nat->Option (List ai)
 | 0,_=>some []
 | m+1,j=>match ks[Nat.mod j ks.length]?,QG F ks x m (j+1) with
  | some k,some l=>some (.c (.int k (gt F x (.i (j:Int))))::l)
  | _,_=>none
def xb (F:Fx):List ai->List ai
 | []=>[]
 | .a ks n x::r=>match ot n with
  | some m=>bif Nat.blt 1 ks.length && Nat.blt m 17 then (match QG F ks x m 0 with
   | some l=>l++xb F r
   | none=>.a ks n x::xb F r) else .a ks n x::xb F r
  | none=>.a ks n x::xb F r
 | s::r=>s::xb F r
def load (I:Info) (h:Hp) (t:TypeId) (id off:Nat) (e:X):Option V:=
 match I.td t,I.sz t,h.get id with
 | some d,some n,some b=>bif isAgg d then (w5 I.F b.ss off e (.i n)).map (λl=>.agg (xb I.F l)) else (cellAt I.F b.ss off e).map .c
 | _,_,_=>none
def Ip:V->Option (List ai)
 | .c c=>some [.c c]
 | .agg l=>some l
 | .dK _=>none
def Bc (F:Fx) (ks:List IntKind):Nat->List ai->Option (X×X)
 | _,[]=>some (.i 0,.i 0)
 | p,.c (.int k x)::r=>match ks[p]?,Bc F ks (Nat.mod (p+1) ks.length) r with
  | some k',some (m,y)=>bif q8 k k' then some (b9 (.i 1) m,jC F (gU x) (.i 1) y) else none
  | _,_=>none
 | _,_=>none
def rowOf (F:Fx) (ks:List IntKind) (p:Nat) (l:List ai):Option (X×X):=match ks with
 | [k]=>ox F k l
 | ks=>Bc F ks p l
def Yn (F:Fx) (x e v n m:X):X:=bif er F (b9 e n) m then jC F x e v else jC F x e (jC F v n (sub F x (b9 e n) (dF m (b9 e n))))
def storeAt (F:Fx) (ss:List ai) (off:Nat) (e:X) (l:List ai) (n:X):Option (List ai):=match loc F ss off e with
 | some (p,q,e')=>
  let raw:Option (List ai):=match ot e',ot n with
   | some 0,some m=>(qV F q m).map λ(_,r)=>p++(l++r)
   | _,_=>none
  match q with
  | .a ks m x::r=>match (phase ks.length e').bind λph=>rowOf F ks ph l with
   | some (_,v)=>bif ay F (.i 0) e' && (ay F (.i 0) n && ay F (b9 e' n) m) then some (p++(.a ks m (Yn F x e' v n m)::r)) else raw
   | none=>raw
  | _=>raw
 | none=>none
def store (I:Info) (h:Hp) (t:TypeId) (id off:Nat) (e:X) (v:V):Option Hp:=
 match h.get id,Ip v,I.sz t with
 | some b,some l,some n=>bif er I.F (q9 l) (.i n) && not b.ro then (storeAt I.F b.ss off e l (.i n)).map λss=>h.put id (some ⟨b.t,ss,false,b.ks⟩) else none
 | _,_,_=>none
def wP:V->Option X
 | .c (.int _ x)=>some x
 | _=>none
def Vk (I:Info) (t:TypeId) (f:Nat):Option Field:=match I.td t with | some (.struct fs)=>fs[f]? | _=>none
def place (I:Info) (d:TypeDesc) (i:Nat):Option (Nat×Nat):=match d with
 | .struct fs=>match fs[i]? with
  | some f=>(I.sz f.type).map (f.offset,·)
  | none=>none
 | .array _ e=>(I.sz e).map λk=>(i*k,k)
 | .slice e=>(I.sz e).map λk=>(i*k,k)
 | _=>none
def Ib (I:Info) (d:TypeDesc) (base:List ai):List (Nat×Option V)->Option (List ai)
 | []=>some base
 | (i,some v)::r=>match Ip v,place I d i with
  | some l,some (o,k)=>bif er I.F (q9 l) (.i k) then (storeAt I.F base o (.i 0) l (.i k)).bind λb=>Ib I d b r else none
  | _,_=>none
 | _::_=>none
def Ox:V->Option (Nat×Nat)
 | .c (.ptr id off (.i 0))=>some (id,off)
 | _=>none
def Qv:Nat->List ai->List ai
 | 0,_=>[]
 | n+1,l=>l++Qv n l
def Du:V->Option X
 | .c .cT=>some (.i 0)
 | .c (.sl _ _ _ len _)=>some len
 | _=>none
def bU (ρ:jy) (d:X):Option Operand->Option X
 | none=>some d
 | some y=>(ρ y).bind wP
def wt (ρ:jy):Option Operand->Option (Option X)
 | none=>some none
 | some y=>((ρ y).bind wP).map some
def jd (x:X) (k:Nat):X:=match k with
 | 1=>x
 | k=>gU (.o2 2 x (.i k))
def GI (F:Fx) (i:X):gj->gj
 | .k c=>bif jq F i c then .k (dF c i) else bif er F i (.i 0) then .k c else .a
 | .g=>bif er F i (.i 0) then .g else .a
 | .a=>.a
def fits (F:Fx) (len j:X):gj->Bool
 | .k c=>ay F j c
 | _=>ay F j len
def Qa (off:Nat) (e:X) (o:Nat):Nat×X:=match ot e with
 | some 0=>(off+o,.i 0)
 | _=>(off,b9 e (.i o))
def rm (e i:X) (k:Nat):X:=b9 e (jd i k)
def pop (I:Info) (ρ:jy):Op->Option V
 | .move x | .assign x=>ρ x
 | .pick c a b=>match ρ c with
  | some (.c (.bool true))=>ρ a
  | some (.c (.bool false))=>ρ b
  | some (.c (.bx x))=>match ρ a,ρ b with
   | some (.c (.int k p)),some (.c (.int k' q))=>bif q8 k k' then some (.c (.int k (.o3 1 x p q))) else none
   | some (.c (.bool true)),some (.c (.bool false))=>some (.c (.bx x))
   | _,_=>none
  | _=>none
 | .build t ps=>match I.zs t,I.td t with
  | some z,some d=>bif isAgg d then (Ib I d z (ps.toList.map λ(i,x)=>(i,ρ x))).map .agg else none
  | _,_=>none
 | .nilCheck x=>match ρ x with
  | some (.c (.ptr id off e))=>some (.c (.ptr id off e))
  | some (.c (.fn f l))=>some (.c (.fn f l))
  | _=>none
 | .binOp op t x y _=>match ρ x,ρ y with
  | some a,some b=>bin I op t a b
  | _,_=>none
 | .unOp op _ x=>match ρ x with
  | some a=>un I op a
  | none=>none
 | .convert s d x=>match ρ x,I.td d,I.td s with
  | some (.c (.int _ n)),some (.int k),some _=>some (.c (.int k (vf I.F k n)))
  | _,_,_=>none
 | .sliceToArrayPointer t x=>match ρ x,I.td t with
  | some (.c (.sl id off e len _)),some (.array n _)=>bif ay I.F (.i n) len && Nat.blt 0 n then some (.c (.ptr id off e)) else none
  | _,_=>none
 | .makeFunc (.func f) ⟨[]⟩ cs=>(cs.toList.mapM λx=>(ρ x).bind Ox).map λl=>.c (.fn f l)
 | .slice t x lo hi mx=>match ρ x,I.td t with
  | some (.c (.ptr id off e)),some (.array n el)=>match I.sz el,bU ρ (.i 0) lo,bU ρ (.i n) hi,wt ρ mx with
   | some k,some i,some j,some none=>bif Nat.ble n 1048576 && (ay I.F (.i 0) i && (ay I.F i j && ay I.F j (.i n))) then some (.c (.sl id off (rm e i k) (dF j i) (GI I.F i (.k (.i n))))) else none
   | _,_,_,_=>none
  | some (.c .cT),some (.slice el)=>match I.sz el,bU ρ (.i 0) lo,bU ρ (.i 0) hi,wt ρ mx with
   | some _,some i,some j,some none=>bif er I.F i (.i 0) && er I.F j (.i 0) then some (.c .cT) else none
   | _,_,_,_=>none
  | some (.c (.sl id off e len cap)),some (.slice el)=>match I.sz el,bU ρ (.i 0) lo,bU ρ len hi,wt ρ mx with
   | some k,some i,some j,some none=>bif ay I.F (.i 0) i && (ay I.F i j && fits I.F len j cap) then some (.c (.sl id off (rm e i k) (dF j i) (GI I.F i cap))) else none
   | some k,some i,some j,some (some m)=>match hi with
    | some _=>bif ay I.F (.i 0) i && (ay I.F i j && (ay I.F j m && (fits I.F len m cap && jq I.F i m))) then some (.c (.sl id off (rm e i k) (dF j i) (.k (dF m i)))) else none
    | none=>none
   | _,_,_,_=>none
  | _,_=>none
 | .fieldAddr t x f=>match ρ x,Vk I t f with
  | some (.c (.ptr id off e)),some fd=>match I.sz fd.type with
   | some (_+1)=>let (o,e'):=Qa off e fd.offset
    some (.c (.ptr id o e'))
   | _=>none
  | _,_=>none
 | .field t x f=>match ρ x,Vk I t f with
  | some (.agg l),some fd=>match I.td fd.type,I.sz fd.type with
   | some d,some n=>bif isAgg d then (w5 I.F l fd.offset (.i 0) (.i n)).map .agg else (cellAt I.F l fd.offset (.i 0)).map .c
   | _,_=>none
  | _,_=>none
 | .indexAddr t x y=>match ρ x,(ρ y).bind wP,I.td t with
  | some (.c (.ptr id off e)),some i,some (.array n el)=>match I.sz el with
   | some k=>bif ay I.F (.i 0) i && jq I.F i (.i n) then some (.c (.ptr id off (rm e i k))) else none
   | none=>none
  | some (.c (.sl id off e len _)),some i,some (.slice el)=>match I.sz el with
   | some k=>bif ay I.F (.i 0) i && jq I.F i len then some (.c (.ptr id off (rm e i k))) else none
   | none=>none
  | _,_,_=>none
 | .index t x y=>match ρ x,(ρ y).bind wP,I.td t with
  | some (.agg l),some i,some (.array n el)=>match I.td el,I.sz el with
   | some d,some k=>bif ay I.F (.i 0) i && jq I.F i (.i n) then (bif isAgg d then (w5 I.F l 0 (jd i k) (.i k)).map .agg else (cellAt I.F l 0 (jd i k)).map .c) else none
   | _,_=>none
  | _,_,_=>none
 | .extract x i=>match ρ x with
  | some (.dK l)=>match l[i]? with | some (.c c)=>some (.c c) | some (.agg a)=>some (.agg a) | none=>none
  | _=>none
 | .call ⟨.builtin .len,⟨[x]⟩,⟨[t]⟩⟩=>bif q7 I t then ((ρ x).bind Du).map λn=>.c (.int .i64 n) else none
 | .call ⟨.builtin .cap,⟨[x]⟩,⟨[t]⟩⟩=>bif q7 I t then (match ρ x with
  | some (.c .cT)=>some (.c (.int .i64 (.i 0)))
  | some (.c (.sl _ _ _ _ (.k c)))=>some (.c (.int .i64 c))
  | _=>none) else none
 | .call ⟨.builtin .min,⟨[x,y]⟩,_⟩=>match ρ x,ρ y with
  | some (.c (.int k p)),some (.c (.int k' q))=>bif q8 k k' then some (.c (.int k (bif ay I.F p q then p else bif ay I.F q p then q else .o3 1 (.o2 11 q p) q p))) else none
  | _,_=>none
 | .call ⟨.builtin .max,⟨[x,y]⟩,_⟩=>match ρ x,ρ y with
  | some (.c (.int k p)),some (.c (.int k' q))=>bif q8 k k' then some (.c (.int k (bif ay I.F q p then p else bif ay I.F p q then q else .o3 1 (.o2 11 p q) q p))) else none
  | _,_=>none
 | _=>none
def BIG:Nat:=16777216
def KW (I:Info) (e:TypeId):Option IntKind:=match I.td e,I.zs e with
 | some (.int k),some [.c (.int k' (.i 0))]=>bif q8 k k' then some k else none
 | _,_=>none
def mkX (F:Fx) (ss:List ai):Bool:=ay F (q9 ss) (.i BIG)
def jnR (F:Fx) (c:List ai):List ai:=match afn c with
 | some k=>match ox F k c with
  | some (n,x)=>[.a [k] n x]
  | none=>c
 | none=>c
def jnK (I:Info) (e:TypeId) (c:List ai):List ai:=match KW I e with
 | some _=>jnR I.F c
 | none=>c
def mk (I:Info) (ρ:jy):Op->Option (Option (X×X)×Bl)
 | .alloc t=>match I.sz t,I.zs t with
  | some _,some z=>some (none,⟨t,z,false,0⟩)
  | _,_=>none
 | .box t x=>match ρ x with
  | some v=>(Ip v).bind λl=>bif mkX I.F l then some (none,⟨t,l,false,0⟩) else none
  | none=>none
 | .buildSlice t n ps=>match I.td t with
  | some (.slice e)=>match I.sz e,I.zs e with
   | some (k+1),some z=>bif Nat.ble (n*(k+1)) 16384 then (Ib I (.slice e) (match KW I e with | some q=>[.a [q] (.i n) (.i 0)] | none=>Qv n z) (ps.toList.map λ(i,x)=>(i,ρ x))).map λc=>(some (.i n,.i n),⟨e,jnK I e c,false,0⟩) else none
   | _,_=>none
  | _=>none
 | .makeSlice t l c=>match I.td t,(ρ l).bind wP,(ρ c).bind wP with
  | some (.slice e),some n,some m=>match I.sz e,I.zs e with
   | some (k+1),some z=>bif ay I.F (.i 0) n && (ay I.F n m && ay I.F m (.i 1048576)) then (match KW I e with
    | some q=>some (some (n,m),⟨e,[.a [q] m (.i 0)],false,0⟩)
    | none=>match ot m with
     | some m'=>bif Nat.ble (m'*(k+1)) 16384 then some (some (n,m),⟨e,Qv m' z,false,0⟩) else none
     | none=>none) else none
   | _,_=>none
  | _,_,_=>none
 | _=>none
def yR (id:Nat):Option (X×X)->V
 | none=>.c (.ptr id 0 (.i 0))
 | some (n,m)=>.c (.sl id 0 (.i 0) n (.k m))
def Hp.new (h:Hp) (id:Nat) (b:Bl):Option Hp:=bif Nat.blt id 4096 then some (h.put id (some b)) else none
def Av (I:Info) (e:TypeId):Bool:=match I.td e with | some (.int .u8)=>true | _=>false
def toStr (I:Info) (h:Hp) (s:TypeId):Option V->Option V
 | some (.c .cT)=>match I.td s with
  | some (.slice e)=>bif Av I e then some (.c (.str (.i 0) (.i 0))) else none
  | _=>none
 | some (.c (.sl id off ex len _))=>match I.td s,h.get id with
  | some (.slice e),some b=>bif Av I e then (w5 I.F b.ss off ex len).bind λl=>(ox I.F .u8 l).map λ(_,x)=>.c (.str len x) else none
  | _,_=>none
 | _=>none
def UN:gj->Bool
 | .a=>false
 | _=>true
def contents (F:Fx) (h:Hp) (k:Nat):V->Option (List ai)
 | .c .cT=>some []
 | .c (.sl id off e len _)=>bif er F len (.i 0) then some [] else bif Nat.blt id 4096 && ay F (.i 0) e then (h.get id).bind λb=>w5 F b.ss off e (jd len k) else none
 | _=>none
def UQ (F:Fx) (h:Hp) (k id off:Nat) (e n:X) (l:List ai):Option (V×Hp):=match h.get id with
 | some b=>bif not b.ro then (storeAt F b.ss off e l (jd n k)).map λss=>(.c (.int .i64 n),h.put id (some ⟨b.t,ss,false,b.ks⟩)) else none
 | none=>none
def cpy (F:Fx) (h:Hp) (k:Nat) (d src:V):Option (V×Hp):=
 match Du src,contents F h k src with
 | some m,some l=>
  match d with
  | .c (.sl id off e len cap)=>bif ay F m len && er F m (.i 0) then some (.c (.int .i64 m),h) else
   bif ay F m len && (UN cap || ay F (.i 1) len) then UQ F h k id off e m l else
   bif ay F len m && ay F (.i 1) len then (w5 F l 0 (.i 0) (jd len k)).bind λl'=>UQ F h k id off e len l' else none
  | .c .cT=>some (.c (.int .i64 (.i 0)),h)
  | _=>none
 | _,_=>none
def VI (F:Fx) (a b:List ai):List ai:=match afn a with
 | some k=>match ox F k (a++b) with
  | some (n,x)=>[.a [k] n x]
  | none=>a++b
 | none=>a++b
def O9:List ai->List IntKind
 | .c (.int k _)::r=>k::O9 r
 | _=>[]
def afx (F:Fx) (k:Nat) (a b:List ai):List ai:=match a with
 | []=>let ks:=O9 b
  bif Nat.beq ks.length k && Nat.blt 1 k then (match Bc F ks 0 b with
   | some (m,y)=>[.a ks m y]
   | none=>b) else b
 | [.a ks n x]=>match phase ks.length n,Bc F ks 0 b with
  | some 0,some (m,y)=>bif Nat.beq ks.length k && (Nat.blt 1 k && ay F (.i 0) n) then [.a ks (b9 n m) (jC F x n y)] else [.a ks n x]++b
  | _,_=>[.a ks n x]++b
 | a=>a++b
def Dt (F:Fx) (k:Nat) (a b:List ai):List ai:=match k with
 | 1=>match a with
  | []=>VI F b []
  | a=>VI F a b
 | k=>afx F k a b
def app (F : Fx) (h : Hp) (nid : Nat) (e : TypeId) (k : Nat) (a src : V) : Option (V × Hp) :=
  match Du a, Du src, contents F h k a, contents F h k src with
  | some n, some m, some l, some l2 =>
    let big : Bool := ay F (b9 n m) (.i 1048576)
    match a with
    | .c (.sl id off ex _ (.k c)) =>
      bif ay F (b9 n m) c then
        (match h.get id with
         | some b => bif not b.ro then (storeAt F b.ss off (b9 ex (jd n k)) l2 (jd m k)).map fun ss => (.c (.sl id off ex (b9 n m) (.k c)), h.put id (some ⟨b.t, ss, false, b.ks⟩)) else none
         | none => none)
      else bif jq F c (b9 n m) && big then (h.new nid ⟨e, Dt F k l l2, false, k⟩).map (V.c (.sl nid 0 (.i 0) (b9 n m) .g), ·) else none
    | .c .cT => bif er F m (.i 0) then some (.c .cT, h) else bif ay F (.i 1) m && big then (h.new nid ⟨e, Dt F k l l2, false, k⟩).map (V.c (.sl nid 0 (.i 0) (b9 n m) .g), ·) else none
    | .c (.sl id 0 (.i 0) _ .g) => bif er F m (.i 0) then some (a, h) else bif big then (match h.get id with
      | some b => bif not b.ro && (Nat.beq b.t e && (Nat.beq b.ks k && er F (q9 b.ss) (jd n k))) then (h.new nid ⟨e, Dt F k l l2, false, k⟩).map fun h' => (V.c (.sl nid 0 (.i 0) (b9 n m) .g), h'.put id none)
        else bif not b.ro && (Nat.beq b.ks k && ay F (jd (b9 n m) k) (q9 b.ss)) then (storeAt F b.ss 0 (b9 (.i 0) (jd n k)) l2 (jd m k)).map fun ss => (.c (.sl id 0 (.i 0) (b9 n m) .g), h.put id (some ⟨b.t, ss, false, b.ks⟩)) else none
      | none => none) else none
    | _ => none
  | _, _, _, _ => none
def eE (I:Info) (ρ:jy) (h:Hp) (nid:Nat):Op->Option (V×Hp)
 | .load t x=>match ρ x with
  | some (.c (.ptr id off e))=>(load I h t id off e).map (·,h)
  | _=>none
 | .convert s d x=>match I.td d with
  | some .string=>(toStr I h s (ρ x)).map (·,h)
  | some (.slice e)=>match ρ x with
   | some (.c (.sl id off ex len cap))=>match I.td s,h.get id with
    | some (.slice _),some b=>bif Nat.beq s d && (Av I e && ((UN cap || ay I.F (.i 1) len) && !b.ro)) then some (.c (.sl id off ex len cap),h.put id (some ⟨b.t,b.ss,true,b.ks⟩)) else none
    | _,_=>none
   | _=>none
  | _=>(pop I ρ (.convert s d x)).map (·,h)
 | .store t x y=>match ρ x,ρ y with
  | some (.c (.ptr id off e)),some v=>(store I h t id off e v).map (V.dK [],·)
  | _,_=>none
 | .alloc t=>(mk I ρ (.alloc t)).bind λ(q,b)=>(h.new nid b).map (yR nid q,·)
 | .box t x=>(mk I ρ (.box t x)).bind λ(q,b)=>(h.new nid b).map (yR nid q,·)
 | .buildSlice t n ps=>(mk I ρ (.buildSlice t n ps)).bind λ(q,b)=>(h.new nid b).map (yR nid q,·)
 | .makeSlice t l c=>(mk I ρ (.makeSlice t l c)).bind λ(q,b)=>(h.new nid b).map (yR nid q,·)
 | .call ⟨.builtin .copy,⟨[x,y]⟩,⟨[t,t']⟩⟩=>match I.td t,I.td t',ρ x,ρ y with
  | some (.slice e),some (.slice _),some d,some src=>match I.sz e with
   | some k=>cpy I.F h k d src
   | none=>none
  | _,_,_,_=>none
 | .call ⟨.builtin .append,⟨[x,y]⟩,⟨[t,t']⟩⟩=>match I.td t,I.td t',ρ x,ρ y with
  | some (.slice e),some (.slice _),some a,some src=>match I.sz e,I.zs e with
   | some (k+1),some _=>app I.F h nid e (k+1) a src
   | _,_=>none
  | some (.slice e),some (.int .i64),some (.c .cT),some (.c (.int .i64 z))=>match I.sz e,I.zs e with
   | some 1,some [.c (.int .u8 (.i 0))]=>bif Av I e && (ay I.F (.i 1) z && ay I.F z (.i 1048576)) then (h.new nid ⟨e,[.a [.u8] z (.i 0)],false,1⟩).map (V.c (.sl nid 0 (.i 0) z .g),·) else none
   | _,_=>none
  | _,_,_,_=>none
 | p=>(pop I ρ p).map (·,h)
def wanted (F:Fx) (ops:List Oper) (s:Fr):Option (Nat×Bool)->Option Bool
 | none=>some true
 | some (j,b)=>match ops[j]? with
  | some o=>match o.dst with
   | some d=>match dy s (.tmp d) with
    | some (.c (.bool b'))=>some (b==b')
    | some (.c (.bx x))=>(Eb F x).map (b==·)
    | some (.dK [])=>some false
    | _=>none
   | none=>none
  | none=>none
def qk (n:Nat) (s:Fr) (d:Option Nat) (v:V):Option Fr:=match d with | some d=>bif Nat.blt d n then some (s.set DF d (some v)) else none | none=>some s
variable (I:Info) (call:FuncId->List V->Hp->Option (V×Hp))
def args (ρ:jy):List Operand->Option (List V)
 | []=>some []
 | x::r=>match ρ x,args ρ r with
  | some v,some l=>some (v::l)
  | _,_=>none
def Hp.nxt (h:Hp) (o:Op):Hp:=⟨h.h,bif Go.Ev.aZW o then h.nx+1 else h.nx⟩
def step (ρ:jy) (h:Hp) (o:Oper):Option (V×Hp):=
 match o.op with
 | .call ⟨.value f,xs,_⟩=>match ρ f,args ρ xs.toList with
  | some (.c (.fn g caps)),some l=>call g (l++caps.map λ(id,off)=>V.c (.ptr id off (.i 0))) h
  | _,_=>none
 | .store t x y=>match o.dst with
  | none=>eE I ρ (h.nxt o.op) h.nx (.store t x y)
  | some _=>none
 | p=>eE I ρ (h.nxt p) h.nx p
def ops (n:Nat) (all:List Oper):List Oper->Fr->Hp->Option (Fr×Hp)
 | [],s,h=>some (s,h)
 | o::r,s,h=>match wanted I.F all s o.guard with
  | some true=>match step I call (dy s) h o with
   | some (v,h')=>match qk n s o.dst v with
    | some s'=>ops n all r s' h'
    | none=>none
   | none=>none
  | some false=>match qk n s o.dst (.dK []) with
   | some s'=>ops n all r s' h
   | none=>none
  | none=>none
def look (i:Nat):List (Nat×Bl)->Option Bl
 | []=>none
 | (j,b)::r=>bif Nat.beq i j then some b else look i r
def drop (i:Nat):List (Nat×Bl)->List (Nat×Bl)
 | []=>[]
 | (j,b)::r=>bif Nat.beq i j then r else (j,b)::drop i r
def uH (base:Nat):List Nat->List (Nat×Bl)->Hp->Option (List (Nat×Bl)×Hp)
 | [],pd,h=>some (pd,h)
 | j::js,pd,h=>match look j pd with
  | some b=>uH base js (drop j pd) (h.put (base+j) (some b))
  | none=>none
def jV (n base:Nat) (all:List Oper):List Oper->List K->Fr->Hp->List (Nat×Bl)->Option (Fr×List Hp×Hp×List (Nat×Bl))
 | [],[],s,h,pd=>some (s,[h],h,pd)
 | o::r,.m js::ks,s,h,pd=>match uH base js pd h with
  | some (pd',h1)=>match wanted I.F all s o.guard with
   | some true=>match step I call (dy s) h1 o with
    | some (v,h')=>match qk n s o.dst v with
     | some s'=>match jV n base all r ks s' h' pd' with
      | some (sF,hs,hF,pF)=>some (sF,h::hs,hF,pF)
      | none=>none
     | none=>none
    | none=>none
   | some false=>match qk n s o.dst (.dK []) with
    | some s'=>match jV n base all r ks s' h1 pd' with
     | some (sF,hs,hF,pF)=>some (sF,h::hs,hF,pF)
     | none=>none
    | none=>none
   | none=>none
  | none=>none
 | o::r,.f i::ks,s,h,pd=>match mk I (dy s) o.op with
  | some (q,b)=>bif Nat.blt (base+i) 4096 then (match qk n s o.dst (yR (base+i) q) with
   | some s'=>jV n base all r ks s' h ((i,b)::pd)
   | none=>none) else none
  | none=>none
 | o::r,_::ks,s,h,pd=>match wanted I.F all s o.guard with
  | some true=>match eE I (dy s) h 0 o.op with
   | some (v,_)=>match qk n s o.dst v with
    | some s'=>jV n base all r ks s' h pd
    | none=>none
   | none=>none
  | some false=>match qk n s o.dst (.dK []) with
   | some s'=>jV n base all r ks s' h pd
   | none=>none
  | none=>none
 | _,_,_,_,_=>none
def VN:List IntKind->List IntKind->Bool
 | [],[]=>true
 | a::l,b::r=>q8 a b && VN l r
 | _,_=>false
def Kv:List (Nat×Nat)->List (Nat×Nat)->Bool
 | [],[]=>true
 | (a,b)::r,(c,d)::t=>Nat.beq a c && (Nat.beq b d && Kv r t)
 | _,_=>false
def atb (F:Fx):gj->gj->Bool
 | .k x,.k y=>yH F x y
 | .g,.g=>true
 | _,.a=>true
 | _,_=>false
def X9 (F:Fx) (x:X):Option Bool:=match Eb F x with
 | some b=>some b
 | none=>Eb F (res F x)
def Ku (F:Fx):C->C->Bool
 | .int k x,.int k' y=>q8 k k' && yH F x y
 | .bool a,.bool b=>a==b
 | .bool a,.bx y=>match X9 F y with | some b=>a==b | none=>false
 | .bx x,.bool b=>match X9 F x with | some a=>a==b | none=>false
 | .bx x,.bx y=>yH F x y
 | .str n x,.str m y=>yH F n m && U2 F x y n
 | .db,.db=>true
 | .ptr i o e,.ptr i' o' e'=>Nat.beq i i' && (Nat.beq o o' && yH F e e')
 | .cT,.cT=>true
 | .sl i o e n c,.sl i' o' e' n' c'=>Nat.beq i i' && (Nat.beq o o' && (yH F e e' && (yH F n n' && atb F c c')))
 | .yV,.yV=>true
 | .fn f l,.fn g l'=>Nat.beq f g && Kv l l'
 | _,_=>false
def qn (F:Fx):List ai->List ai->Bool
 | [],[]=>true
 | .c a::r,.c b::t=>Ku F a b && qn F r t
 | .a ks n x::r,.a ks' m y::t=>VN ks ks' && (yH F n m && (U2 F x y n && qn F r t))
 | _,_=>false
def Ix (F:Fx):V->V->Bool
 | .c a,.c b=>Ku F a b
 | .agg a,.agg b=>qn F a b
 | _,_=>false
def readAll (ρ:jy) (o:Op) (v:V):List Hp->Bool
 | []=>true
 | h::hs=>match eE I ρ h 0 o with
  | some (v',_)=>Ix I.F v' v && readAll ρ o v hs
  | none=>false
def recheck (all:List Oper) (s:Fr) (hs:List Hp):List Oper->List K->Bool
 | o::r,.r lo hi::ks=>match wanted I.F all s o.guard with
  | some true=>match o.dst with
   | some d=>match dy s (.tmp d) with
    | some v=>readAll I (dy s) o.op v ((hs.drop lo).take (hi+1 - lo)) && recheck all s hs r ks
    | none=>false
   | none=>false
  | some false=>recheck all s hs r ks
  | none=>false
 | _::r,_::ks=>recheck all s hs r ks
 | _,_=>true
def akx (n:Nat) (all:List Oper) (ks:List K) (s:Fr) (h:Hp):Option (Fr×Hp):=
 match jV I call n h.nx all all ks s ⟨h.h,h.nx+(Go.Ev.jD ks).length⟩ [] with
 | some (sF,hs,hF,pF)=>bif recheck I all sF hs all ks then (match uH h.nx (Go.Ev.sL ks) pF hF with
  | some (_,hE)=>some (sF,hE)
  | none=>none) else none
 | none=>none
def Pg (body:Fr->Hp->Option (Ex×Fr×Hp)):Nat->Fr->Hp->Option (Ex×Fr×Hp)
 | 0,_,_=>none
 | n+1,s,h=>match body s h with
  | some (.norm,s',h')=>Pg body n s' h'
  | r=>r
def keyOf:Code->Option Nat
 | .region id _ _=>some id
 | .seq a b=>match keyOf a with
  | some k=>some k
  | none=>keyOf b
 | .block _ a=>keyOf a
 | .loop a=>keyOf a
 | .scope a=>keyOf a
 | _=>none
abbrev iv:=Fr->Hp->Option (Ex×Fr×Hp)
def Pf (g:iv) (body:Fr->Hp->Option (Ex×Fr×Hp)):Nat->Fr->Hp->Option (Ex×Fr×Hp)
 | 0,_,_=>none
 | n+1,s,h=>match (match g s h with
  | some r=>some r
  | none=>body s h) with
  | some (.norm,s',h')=>Pf g body n s' h'
  | r=>r
def code (n:Nat) (pl:Nat->List K) (lp:Nat->Option iv):Code->Fr->Hp->Option (Ex×Fr×Hp)
 | .skip,s,h=>some (.norm,s,h)
 | .label _,s,h=>some (.norm,s,h)
 | .region id os d,s,h=>match (bif d then akx I call n os.toList (pl id) s h else ops I call n os.toList os.toList s h) with
  | some (s',h')=>some (.norm,s',h')
  | none=>none
 | .seq a b,s,h=>match code n pl lp a s h with
  | some (.norm,s',h')=>code n pl lp b s' h'
  | r=>r
 | .cond c a b,s,h=>match dy s c with
  | some (.c (.bool true))=>code n pl lp a s h
  | some (.c (.bool false))=>code n pl lp b s h
  | some (.c (.bx x))=>match Eb I.F x with
   | some true=>code n pl lp a s h
   | some false=>code n pl lp b s h
   | none=>none
  | _=>none
 | .block i a,s,h=>match code n pl lp a s h with
  | some (.exit j,s',h')=>bif Nat.beq i j then some (.norm,s',h') else some (.exit j,s',h')
  | r=>r
 | .loop a,s,h=>match (keyOf a).bind lp with
  | some g=>Pf g (code n pl lp a) 1000 s h
  | none=>Pg (code n pl lp a) 1000 s h
 | .scope a,s,h=>code n pl lp a s h
 | .exit i,s,h=>some (.exit i,s,h)
 | .ret,s,h=>some (.ret,s,h)
 | _,_,_=>none
def XE (s:Fr) (h:Hp):ResultVar->Option P1
 | .tmp t=>match dy s (.tmp t) with
  | some (.c c)=>some (.c c)
  | some (.agg l)=>some (.agg l)
  | _=>none
 | .cell p t=>match dy s (.tmp p) with
  | some (.c (.ptr id off e))=>match load I h t id off e with
   | some (.c c)=>some (.c c)
   | some (.agg l)=>some (.agg l)
   | _=>none
  | _=>none
def LG (s:Fr) (h:Hp):List ResultVar->Option (List P1)
 | []=>some []
 | r::l=>match XE I s h r,LG s h l with
  | some p,some q=>some (p::q)
  | _,_=>none
def results (s:Fr) (h:Hp) (l:List ResultVar):Option V:=
 match LG I s h l with
 | some [.c c]=>some (.c c)
 | some [.agg a]=>some (.agg a)
 | some l=>some (.dK l)
 | none=>none
def GZ:Nat->List V->Fr
 | _,[]=>.lf none
 | i,v::r=>(GZ (i+1) r).set DF i (some v)
abbrev pY:=List V->Hp->Option (V×Hp)
def uv (orc:FuncId->Option pY) (lps:FuncId->Nat->Option iv):Nat->FuncId->List V->Hp->Option (V×Hp)
 | 0,_,_,_=>none
 | n+1,f,as,h=>match orc f with
  | some g=>g as h
  | none=>match I.fn f with
   | some fn=>match (bif Nat.ble fn.ntmps 512 && Nat.ble as.length fn.ntmps then fn.body else none) with
    | some b=>match code I (uv orc lps n) fn.ntmps (I.pl f) (lps f) b (GZ 0 as) h with
     | some (.norm,s,h')=>(results I s h' fn.results.toList).map (·,h')
     | some (.ret,s,h')=>(results I s h' fn.results.toList).map (·,h')
     | _=>none
    | none=>none
   | none=>none
end
end Go.Z
namespace Go.Sym
open Go Go.RowKit
section
variable {P:Program} {Q:Exit->Act->World->Prop} {a:Act} {w w0:World} {n:Nat} {E:Nat->Option Value} {L:List dC} {ops:Array Oper} {rest:List Oper}
variable {dst:Option Nat} {ty:TypeId} {pos:String} {af:Array Edge} {g:Option (Nat×Bool)}
theorem aQL {c:Code} (h:c.wp P (Exit.noGoto Q) a w):(Code.scope c).wp P Q a w:=wp_scope_straight h
theorem aQI {l:Nat} (h:Q .normal a w):(Code.label l).wp P Q a w:=wp_label h
theorem aTs (h:Q .normal a w):Exit.noGoto Q .normal a w:=h
theorem aTu {id:Nat} (h:Q (.exit id) a w):Exit.noGoto Q (.exit id) a w:=h
theorem aTt (h:Q .ret a w):Exit.noGoto Q .ret a w:=h
end
section
variable {P:Program} {ops:List Oper} {n:Nat} {C:World->Prop} {o:Oper} {a:Act} {w:World} {E:Nat->Option Value}
end
end Go.Sym
