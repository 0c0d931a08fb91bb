import Derived.Test.YtgmieahcpkcabaaGreatBq5
import Derived.Test.YtgmieahcpkcabaaGreatBq1
set_option maxRecDepth 100000
set_option linter.unusedSimpArgs false
set_option linter.unusedVariables false
set_option linter.constructorNameAsVariable false
set_option linter.unusedSectionVars false
noncomputable section
namespace Go.Lz
open Go.Z (R)
structure In (F:Int) (K:Nat) (L w:Int) (k:Nat):Prop where
 le:k<=K
 lo:L*256 ^ (K - k)<=F
 hi:F < (L+w)*256 ^ (K - k)
theorem pow_pos (n:Nat):(0:Int) < 256 ^ n:=Int.pow_pos dc
def code (F:Int) (K:Nat) (L:Int) (k:Nat):Int:=F / 256 ^ (K - k) - L
theorem In.code {F L w:Int} {K k:Nat} (h:In F K L w k):0<=code F K L k/\Lz.code F K L k < w:=by
 have hp:=pow_pos (K - k)
 have h1:L<=F / 256 ^ (K - k):=Int.le_ediv_of_mul_le hp h.lo
 have h2:F / 256 ^ (K - k) < L+w:=Int.ediv_lt_of_lt_mul hp h.hi
 unfold Lz.code
 omega
theorem In.a0N {F L w a v:Int} {K k:Nat} (h0:0<=a) (hv:a+v<=w) (h:In F K (L+a) v k):In F K L w k:=by
 have hp:=pow_pos (K - k)
 refine⟨h.le,T7 ?_ h.lo,adO h.hi ?_⟩
 .exact ar3 om om
 .exact ar3 om om
theorem In.a0P {F L w:Int} {K k:Nat} (h:In F K (L*256) (w*256) (k+1)):In F K L w k:=by
 have hk:=h.le
 have e:(256:Int) ^ (K - k)=256*256 ^ (K - (k+1)):=by
  rw[show K - k=(K - (k+1))+1 by omega,sv,wc]
 refine⟨by omega,?_,?_⟩
 .rw[e,<- Ak]; exact h.lo
 .rw[e,<- Ak,Int.add_mul]; exact h.hi
theorem aQ1 {F L:Int} {K k:Nat} (hk:k+1<=K):Lz.code F K L k*256+be F K k=Lz.code F K (L*256) (k+1):=by
 unfold Lz.code be
 rw[if_pos om,show (K:Int).toNat - 1 - k=K - (k+1) by omega,show K - k=(K - (k+1))+1 by omega,sv,<- F9 (JW (pow_pos _))]
 omega
theorem In.back {F L w a v:Int} {K k:Nat} (h0:0<=a) (hv:a+v<=w) (h:In F K ((L+a)*gr v) (wide v) (k+(fy v).toNat)):In F K (L+a) v k/\In F K L w k:=by
 have h1:In F K (L+a) v k:=by
  unfold gr wide fy at h
  by_cases q:v < 16777216
  .simp only[if_pos q] at h
   exact In.a0P h
  .simp only[if_neg q,JX] at h
   exact h
 exact⟨h1,h1.a0N h0 hv⟩
theorem In.bit {F L w p b:Int} {K k:Nat} (hw:16777216<=w) (hw':w<=4294967295) (hb:b=0\/b=1) (h:In F K (jB L w p b) (aM w p b) (k+(bq w p b).toNat)):In F K L w k/\dO (Lz.code F K L k) w p=b/\Lz.code F K L k - (if b=0 then 0 else bU w p)=Lz.code F K (L+if b=0 then 0 else bU w p) k/\In F K (L+if b=0 then 0 else bU w p) (part w p b) k:=by
 have hn:=wu (p:=p) hw hw'
 rw[UE b hw hw'] at h
 have e:jB L w p b=(L+if b=0 then 0 else bU w p)*gr (part w p b):=rfl
 have en:bq w p b=fy (part w p b):=rfl
 rw[e,en] at h
 have hv:(if b=0 then 0 else bU w p)+part w p b<=w:=by
  unfold part
  rcases hb with hb | hb
  .rw[if_pos hb,if_pos hb]; omega
  .rw[if_neg om,if_neg om]; omega
 have h0:0<=(if b=0 then 0 else bU w p):=by split <;>omega
 obtain⟨h1,h2⟩:=In.back h0 hv h
 have c:=h1.code
 refine⟨h2,?_,?_,h1⟩
 .unfold Lz.code part at c
  unfold dO Lz.code
  rcases hb with hb | hb
  .rw[if_pos hb,if_pos hb] at c
   rw[if_pos om,hb]
  .rw[if_neg om,if_neg om] at c
   rw[if_neg om,hb]
 .unfold Lz.code; omega
theorem In.half {F L w b:Int} {K k:Nat} (hw:16777216<=w) (hw':w<=4294967295) (hb:b=0\/b=1) (h:In F K (wC L w b) (gD w) (k+(eL w).toNat)):In F K L w k/\o7 (Lz.code F K L k) w=b/\Lz.code F K L k - (if b=0 then 0 else w / 2)=Lz.code F K (L+if b=0 then 0 else w / 2) k/\In F K (L+if b=0 then 0 else w / 2) (w / 2) k:=by
 rw[Vt hw hw'] at h
 have e:wC L w b=(L+if b=0 then 0 else w / 2)*gr (w / 2):=rfl
 have en:eL w=fy (w / 2):=rfl
 rw[e,en] at h
 have hv:(if b=0 then 0 else w / 2)+w / 2<=w:=by split <;>omega
 have h0:0<=(if b=0 then 0 else w / 2):=by split <;>omega
 obtain⟨h1,h2⟩:=In.back h0 hv h
 have c:=h1.code
 refine⟨h2,?_,?_,h1⟩
 .unfold Lz.code at c
  unfold o7 Lz.code
  rcases hb with hb | hb
  .rw[if_pos hb] at c
   rw[if_pos om,hb]
  .rw[if_neg om] at c
   rw[if_neg om,hb]
 .unfold Lz.code; omega
theorem Kr (v:Int) (i:Nat):v / 2 ^ i % 2=0\/v / 2 ^ i % 2=1:=by omega
theorem At (w p b:Int):0<=bq w p b/\bq w p b<=1:=wL _
theorem Ks (w p b:Int):16777216<=aM w p b/\aM w p b<=4294967295:=cH dc _
theorem auM (w:Int):16777216<=gD w/\gD w<=4294967295:=cH dc _
theorem O0 (w:Int):0<=eL w/\eL w<=1:=wL _
theorem ak2 {F n v:Int} {K:Nat}:∀(i:Nat) (s:TS) (k:Nat),16777216<=s.w->s.w<=4294967295->(∀q,31<=s.r q/\s.r q<=2017)->In F K (aZ n v i s).L (aZ n v i s).w (k+((aZ n v i s).k - s.k).toNat)->In F K s.L s.w k
 | 0,s,k,_,_,_,h=>by
  unfold aZ at h
  rwa [adS,show (0:Int).toNat=0 from rfl,Nat.add_zero] at h
 | i+1,s,k,h1,h2,hr,h=>by
  rw[Bh] at h
  have hw:=Ks s.w (atR s.r n s.a) (v / 2 ^ i % 2)
  have hk:=At s.w (atR s.r n s.a) (v / 2 ^ i % 2)
  have hb:=(Ea n v i (s:=cU n (v / 2 ^ i % 2) s) hw.1 hw.2 λq=>LW _ _ _ _ _).2.1.1
  have e:(cU n (v / 2 ^ i % 2) s).k=s.k+bq s.w (atR s.r n s.a) (v / 2 ^ i % 2):=rfl
  have ih:=ak2 i (cU n (v / 2 ^ i % 2) s) (k+(bq s.w (atR s.r n s.a) (v / 2 ^ i % 2)).toNat) hw.1 hw.2 (λq=>LW _ _ _ _ _) (by
   rw[show k+(bq s.w (atR s.r n s.a) (v / 2 ^ i % 2)).toNat+((aZ n v i (cU n (v / 2 ^ i % 2) s)).k - (cU n (v / 2 ^ i % 2) s).k).toNat=k+((aZ n v i (cU n (v / 2 ^ i % 2) s)).k - s.k).toNat by omega]
   exact h)
  exact (In.bit h1 h2 (Kr v i) ih).1
theorem afj {F d:Int} {K:Nat}:∀(i:Nat) (s:HS) (k:Nat),16777216<=s.w->s.w<=4294967295->In F K (cF d i s).L (cF d i s).w (k+((cF d i s).k - s.k).toNat)->In F K s.L s.w k
 | 0,s,k,_,_,h=>by
  unfold cF at h
  rwa [adS,show (0:Int).toNat=0 from rfl,Nat.add_zero] at h
 | i+1,s,k,h1,h2,h=>by
  rw[OY] at h
  have hw:=auM s.w
  have hk:=O0 s.w
  have hb:=(Dr d i (s:=gJ (d / 2 ^ i % 2) s) hw.1 hw.2).2.1
  have e:(gJ (d / 2 ^ i % 2) s).k=s.k+eL s.w:=rfl
  have ih:=afj i (gJ (d / 2 ^ i % 2) s) (k+(eL s.w).toNat) hw.1 hw.2 (by
   rw[show k+(eL s.w).toNat+((cF d i (gJ (d / 2 ^ i % 2) s)).k - (gJ (d / 2 ^ i % 2) s).k).toNat=k+((cF d i (gJ (d / 2 ^ i % 2) s)).k - s.k).toNat by omega]
   exact h)
  exact (In.half h1 h2 (Kr d i) ih).1
theorem ak4 {F L w n v a i:Int} {r:R} {K k:Nat} (h1:16777216<=w) (h2:w<=4294967295) (hr:∀q,31<=r q/\r q<=2017) (hi:0<=i) (h7:i<=7) (h:In F K (tL L w r n v a i) (tW w r n v a i) (k+(tK w r n v a i).toNat)):In F K L w k:=by
 have b:=Ea n v (i+1).toNat (s:=⟨0,w,0,r,a⟩) h1 h2 hr
 have e:=QT n v (i+1).toNat (s:=⟨L,w,0,r,a⟩) (t:=⟨0,w,0,r,a⟩) rfl rfl rfl
 simp only at b e
 have ew:tW w r n v a i=(aZ n v (i+1).toNat ⟨L,w,0,r,a⟩).w:=by
  unfold tW
  rw[e.1]
  exact a6 b.1.1 b.1.2
 have ek:tK w r n v a i=(aZ n v (i+1).toNat ⟨L,w,0,r,a⟩).k - 0:=by
  unfold tK
  rw[e.2,a6 om om]
  omega
 rw[ew,ek] at h
 exact ak2 (i+1).toNat ⟨L,w,0,r,a⟩ k h1 h2 hr h
theorem aSY {F L w d i:Int} {K k:Nat} (h1:16777216<=w) (h2:w<=4294967295) (hi:0<=i) (h5:i<=5) (h:In F K (hL L w d i) (hW w i) (k+(hK w i).toNat)):In F K L w k:=by
 have b:=Dr 0 (i+1).toNat (s:=⟨0,w,0⟩) h1 h2
 have e:=OZ (i+1).toNat (d:=d) (d':=0) (s:=⟨L,w,0⟩) (t:=⟨0,w,0⟩) rfl
 simp only at b e
 have ew:hW w i=(cF d (i+1).toNat ⟨L,w,0⟩).w:=by
  unfold hW
  rw[e.1]
  exact a6 b.1.1 b.1.2
 have ek:hK w i=(cF d (i+1).toNat ⟨L,w,0⟩).k - 0:=by
  unfold hK
  rw[e.2,a6 om om]
  omega
 rw[ew,ek] at h
 exact afj (i+1).toNat ⟨L,w,0⟩ k h1 h2 h
structure PS.Fit (s:PS):Prop where
 w0:16777216<=s.w
 w1:s.w<=4294967295
 rb:∀q,31<=s.rb q/\s.rb q<=2017
 rl:∀q,31<=s.rl q/\s.rl q<=2017
 rd:∀q,31<=s.rd q/\s.rd q<=2017
 cp:∀q,31<=s.cp q/\s.cp q<=2017
 bh:0<=s.bh/\s.bh<=1
theorem akV (w:Int) (r:R) (n v a i:Int):0<=tK w r n v a i/\tK w r n v a i<=8:=cH dc _
theorem aSU (w i:Int):0<=hK w i/\hK w i<=6:=cH dc _
theorem LQ (w:Int) (r:R) (n v a i:Int):16777216<=tW w r n v a i/\tW w r n v a i<=4294967295:=cH dc _
theorem auK (w i:Int):16777216<=hW w i/\hW w i<=4294967295:=cH dc _
theorem aFb {r:R} {i p b:Int} (h:∀q,31<=r q/\r q<=2017) (q:Nat):31<=dh r i (adapt p b) q/\dh r i (adapt p b) q<=2017:=by
 unfold dh; split
 .exact cH dc _
 .exact h q
theorem aEY {n d v:Int} {s:PS} (h:s.Fit):(cg n d v s).Fit:=by
 unfold cg
 split
 .exact⟨(LQ _ _ _ _ _ _).1,(LQ _ _ _ _ _ _).2,λ_=>cH dc _,h.rl,h.rd,aFb h.cp,show (0:Int)<=0/\(0:Int)<=1 by decide⟩
 .exact⟨(auK _ _).1,(auK _ _).2,h.rb,λ_=>cH dc _,λ_=>cH dc _,aFb h.cp,show (0:Int)<=1/\(1:Int)<=1 by decide⟩
theorem a9Y {F n d v : Int} {s : PS} {K k : Nat} (hf : s.Fit) (h : In F K (cg n d v s).L (cg n d v s).w (k + ((cg n d v s).k - s.k).toNat)) : In F K s.L s.w k := by
  unfold cg at h
  split at h
  · unfold mI at h
    simp only at h
    have b1 := At s.w (s.cp s.bh.toNat) 0
    have b2 := akV (aM s.w (s.cp s.bh.toNat) 0) s.rb 256 v 1 7
    have hw := Ks s.w (s.cp s.bh.toNat) 0
    refine (In.bit (p := s.cp s.bh.toNat) (b := 0) hf.w0 hf.w1 (.inl rfl) (ak4 (n := 256) (v := v) (a := 1) (i := 7) hw.1 hw.2 hf.rb dc dc ?_)).1
    rwa [show k + (s.k + (bq s.w (s.cp s.bh.toNat) 0 + tK (aM s.w (s.cp s.bh.toNat) 0) s.rb 256 v 1 7) - s.k).toNat = k + (bq s.w (s.cp s.bh.toNat) 0).toNat + (tK (aM s.w (s.cp s.bh.toNat) 0) s.rb 256 v 1 7).toNat by omega] at h
  · unfold mD at h
    simp only at h
    have b1 := At s.w (s.cp s.bh.toNat) 1
    have hw := Ks s.w (s.cp s.bh.toNat) 1
    have key : ∀ k1 w1, 0 ≤ k1 → 16777216 ≤ w1 → w1 ≤ 4294967295 → ∀ L1, In F K (hL (tL (tL L1 w1 s.rl 256 (n - 2) 1 7) (tW w1 s.rl 256 (n - 2) 1 7) s.rd 64 ((d - 1) / 64) 1 5) (tW (tW w1 s.rl 256 (n - 2) 1 7) s.rd 64 ((d - 1) / 64) 1 5) (d - 1) 5) (hW (tW (tW w1 s.rl 256 (n - 2) 1 7) s.rd 64 ((d - 1) / 64) 1 5) 5)
        (k + (s.k + (k1 + tK w1 s.rl 256 (n - 2) 1 7 + tK (tW w1 s.rl 256 (n - 2) 1 7) s.rd 64 ((d - 1) / 64) 1 5 + hK (tW (tW w1 s.rl 256 (n - 2) 1 7) s.rd 64 ((d - 1) / 64) 1 5) 5) - s.k).toNat) → In F K L1 w1 (k + k1.toNat) := by
      intro k1 w1 b1 c1 c2 L1 h
      have h2 := akV w1 s.rl 256 (n - 2) 1 7
      have w2 := LQ w1 s.rl 256 (n - 2) 1 7
      have h3 := akV (tW w1 s.rl 256 (n - 2) 1 7) s.rd 64 ((d - 1) / 64) 1 5
      have w3 := LQ (tW w1 s.rl 256 (n - 2) 1 7) s.rd 64 ((d - 1) / 64) 1 5
      have h4 := aSU (tW (tW w1 s.rl 256 (n - 2) 1 7) s.rd 64 ((d - 1) / 64) 1 5) 5
      refine ak4 (n := 256) (v := n - 2) (a := 1) (i := 7) c1 c2 hf.rl dc dc (ak4 (n := 64) (v := (d - 1) / 64) (a := 1) (i := 5) w2.1 w2.2 hf.rd dc dc (aSY (d := d - 1) (i := 5) w3.1 w3.2 dc dc ?_))
      have e : ∀ A B C : Int, 0 ≤ A → 0 ≤ B → 0 ≤ C → k + (s.k + (k1 + A + B + C) - s.k).toNat = k + k1.toNat + A.toNat + B.toNat + C.toNat := fun A B C _ _ _ => by omega
      rwa [e _ _ _ h2.1 h3.1 h4.1] at h
    have := key _ _ b1.1 hw.1 hw.2 _ h
    exact (In.bit (p := s.cp s.bh.toNat) (b := 1) hf.w0 hf.w1 (.inr rfl) this).1
theorem aC9 {F:Int} {K:Nat} (tk:R):∀(m j:Nat) (s:PS) (k:Nat),s.Fit->In F K (gV tk m j s).L (gV tk m j s).w (k+((gV tk m j s).k - s.k).toNat)->In F K s.L s.w k
 | 0,j,s,k,_,h=>by
  unfold gV at h
  rwa [adS,show (0:Int).toNat=0 from rfl,Nat.add_zero] at h
 | m+1,j,s,k,hf,h=>by
  rw[A9] at h
  have hb:=QQ (tk (3*j)) (tk (3*j+1)) (tk (3*j+2)) s
  have hb2:=(DS tk m (j+1) hb.1.1 hb.1.2).2.1
  refine a9Y (n:=tk (3*j)) (d:=tk (3*j+1)) (v:=tk (3*j+2)) hf (aC9 tk m (j+1) _ _ (aEY hf) ?_)
  rw[show k+((cg (tk (3*j)) (tk (3*j+1)) (tk (3*j+2)) s).k - s.k).toNat+((gV tk m (j+1) (cg (tk (3*j)) (tk (3*j+1)) (tk (3*j+2)) s)).k - (cg (tk (3*j)) (tk (3*j+1)) (tk (3*j+2)) s).k).toNat=k+((gV tk m (j+1) (cg (tk (3*j)) (tk (3*j+1)) (tk (3*j+2)) s)).k - s.k).toNat by omega]
  exact h
theorem In.end {F w:Int} {K:Nat} (hw:0 < w):In F K F w K:=⟨fv _,by rw[yw,Gc,JX]; exact aP _,by rw[yw,Gc,JX]; omega⟩
end Go.Lz
namespace Go.Lz
open Go.Z (R)
structure ak where
 c:Int
 w:Int
 ax:Int
 used:Int
 ol:Int
 out:R
 cp:R
 bh:Int
 rb:R
 rl:R
 rd:R
 tl:Int
 td:Int
 tb:Int
 node:Int
 part:Int
 dL:R
 made:Int
 plain:Int
 zl:Int
 zd:Int
 zb:Int
 left:Int
 st:Int
 n:Int
 fw:R
def GD (c b:Int):Int:=(((c*256).toNat ||| b.toNat:Nat):Int)
theorem ata {c b:Int} (hc:0<=c) (h0:0<=b) (h1:b<=255):GD c b=c*256+b:=by
 unfold GD
 have e:(c*256).toNat=2 ^ 8*c.toNat:=by omega
 rw[e,<- Ur om]
 omega
def C7 (r:R) (n x:Int):R:=λq=>if (q:Int) < n then r q else if ((q - n.toNat:Nat):Int) < 1 then x else 0
def ak.dec (s:ak) (p:Int):ak:={s with c:=kz s.c s.w p,w:=aM s.w p (dO s.c s.w p),ax:=bq s.w p (dO s.c s.w p)}
def ak.half (s:ak):ak:={s with c:=o6 s.c s.w,w:=gD s.w,ax:=eL s.w}
def ak.kind (s:ak):ak:=
 let p:=s.cp s.bh.toNat
 let b:=dO s.c s.w p
 {s.dec p with cp:=dh s.cp s.bh (adapt p b),bh:=b,tl:=0,td:=0,tb:=0,node:=1,part:=if b=1 then 2 else 1,left:=0}
def ak.UJ (s:ak):ak:=
 let p:=atR s.rb 256 s.node
 let b:=dO s.c s.w p
 {s.dec p with rb:=dq s.rb 256 s.node b,node:=s.node*2+b,part:=1,left:=0}
def ak.UK (s:ak):ak:=
 let p:=atR s.rb 256 s.node
 let b:=dO s.c s.w p
 {s.dec p with rb:=dq s.rb 256 s.node b,tl:=0,td:=0,tb:=s.node*2+(b+-256),node:=1,part:=0,zl:=0,zd:=0,zb:=s.node*2+(b+-256),left:=1}
def ak.byte (s:ak):ak:=if s.node < 128 then s.UJ else s.UK
def ak.VP (s:ak):ak:=
 let p:=atR s.rl 256 s.node
 let b:=dO s.c s.w p
 {s.dec p with rl:=dq s.rl 256 s.node b,node:=s.node*2+b,part:=2,left:=0}
def ak.VQ (s:ak):ak:=
 let p:=atR s.rl 256 s.node
 let b:=dO s.c s.w p
 {s.dec p with rl:=dq s.rl 256 s.node b,tl:=s.node*2+(b+-254),node:=1,part:=3,left:=0}
def ak.len (s:ak):ak:=if s.node < 128 then s.VP else s.VQ
def ak.Yo (s:ak):ak:=
 let p:=atR s.rd 64 s.node
 let b:=dO s.c s.w p
 {s.dec p with rd:=dq s.rd 64 s.node b,node:=s.node*2+b,part:=3,left:=0}
def ak.Yp (s:ak):ak:=
 let p:=atR s.rd 64 s.node
 let b:=dO s.c s.w p
 {s.dec p with rd:=dq s.rd 64 s.node b,td:=b*64+(s.node*128+-4096),node:=1,part:=4,left:=0}
def ak.upper (s:ak):ak:=if s.node < 32 then s.Yo else s.Yp
def ak.Dn (s:ak):Int:=s.td+(o7 s.c s.w+(s.node*2+-63))
def ak.wG (s:ak):Prop:=s.tb=0/\¬s.made < s.Dn/\¬s.plain+s.made*-1 < s.tl
instance (s:ak):Decidable s.wG:=by unfold ak.wG; infer_instance
def ak.VX (s:ak):ak:={s.half with node:=s.node*2+o7 s.c s.w,part:=4,left:=0}
def ak.Pj (s:ak):ak:={s.half with td:=s.Dn,node:=1,part:=0,zl:=s.tl,zd:=s.Dn,zb:=s.tb,left:=s.tl}
def ak.avB (s:ak):ak:={s.Pj with st:=4}
def ak.lower (s:ak):ak:=if s.node < 32 then s.VX else if s.wG then s.Pj else s.avB
def ak.take (s:ak):ak:=if s.part=0 then s.kind else if s.part=1 then s.byte else if s.part=2 then s.len else if s.part=3 then s.upper else s.lower
def ak.cell (s:ak):Int:=if 0 < s.zl then s.dL (s.zd*-1+s.made).toNat else s.zb
def ak.put (s:ak):ak:={s with out:=C7 s.out s.ol s.cell,ol:=s.ol+1,dL:=dh s.dL s.made s.cell,made:=s.made+1,left:=s.left+-1}
def ak.i5 (s:ak):ak:={s with c:=GD s.c (s.fw s.used.toNat),ax:=s.ax+-1,used:=s.used+1}
def ak.rest (s:ak):Bool×ak:=
 if 0 < s.left then (if s.ol < 128 then (true,s.put) else (false,{s with st:=2}))
 else if s.made=s.plain then (true,{s with st:=if s.c=0 then 3 else 4}) else (true,s.take)
def ak.next (s:ak):Bool×ak:=
 if s.st=3 then (false,s) else if s.st=4 then (false,s)
 else if 0 < s.ax then (if s.used=s.n then (false,{s with st:=1}) else (true,s.i5))
 else if s.c < s.w then s.rest else (true,{s with st:=4})
section
variable {s:ak}
theorem ay0 (h:s.st=3):s.next=(false,s):=if_pos h
theorem a0s (h3:¬s.st=3) (h:s.st=4):s.next=(false,s):=by unfold ak.next; rw[if_neg h3,if_pos h]
variable (h3:¬s.st=3) (h4:¬s.st=4)
include h3 h4
theorem a0u (hn:0 < s.ax) (hu:s.used=s.n):s.next=(false,{s with st:=1}):=by unfold ak.next; rw[if_neg h3,if_neg h4,if_pos hn,if_pos hu]
theorem ay1 (hn:0 < s.ax) (hu:¬s.used=s.n):s.next=(true,s.i5):=by unfold ak.next; rw[if_neg h3,if_neg h4,if_pos hn,if_neg hu]
variable (hn:s.ax<=0)
include hn
theorem a0t (hc:s.w<=s.c):s.next=(true,{s with st:=4}):=by unfold ak.next; rw[if_neg h3,if_neg h4,if_neg om,if_neg om]
variable (hc:s.c < s.w)
include hc
theorem Ws:s.next=s.rest:=by unfold ak.next; rw[if_neg h3,if_neg h4,if_neg om,if_pos hc]
theorem agY (hl:0 < s.left) (ho:s.ol < 128):s.next=(true,s.put):=by rw[Ws h3 h4 hn hc]; unfold ak.rest; rw[if_pos hl,if_pos ho]
theorem ay2 (hl:0 < s.left) (ho:128<=s.ol):s.next=(false,{s with st:=2}):=by rw[Ws h3 h4 hn hc]; unfold ak.rest; rw[if_pos hl,if_neg om]
variable (hl:s.left<=0)
include hl
theorem agX (hm:s.made=s.plain):s.next=(true,{s with st:=if s.c=0 then 3 else 4}):=by rw[Ws h3 h4 hn hc]; unfold ak.rest; rw[if_neg om,if_pos hm]
theorem wO (hm:¬s.made=s.plain):s.next=(true,s.take):=by rw[Ws h3 h4 hn hc]; unfold ak.rest; rw[if_neg om,if_neg hm]
end
section
variable {s:ak}
theorem akW (h:s.part=0):s.take=s.kind:=if_pos h
variable (h0:¬s.part=0)
include h0
theorem aEI (h:s.part=1) (hn:s.node < 128):s.take=s.UJ:=by unfold ak.take ak.byte; rw[if_neg h0,if_pos h,if_pos hn]
theorem aEJ (h:s.part=1) (hn:128<=s.node):s.take=s.UK:=by unfold ak.take ak.byte; rw[if_neg h0,if_pos h,if_neg om]
variable (h1:¬s.part=1)
include h1
theorem aEK (h:s.part=2) (hn:s.node < 128):s.take=s.VP:=by unfold ak.take ak.len; rw[if_neg h0,if_neg h1,if_pos h,if_pos hn]
theorem aEL (h:s.part=2) (hn:128<=s.node):s.take=s.VQ:=by unfold ak.take ak.len; rw[if_neg h0,if_neg h1,if_pos h,if_neg om]
variable (h2:¬s.part=2)
include h2
theorem aEO (h:s.part=3) (hn:s.node < 32):s.take=s.Yo:=by unfold ak.take ak.upper; rw[if_neg h0,if_neg h1,if_neg h2,if_pos h,if_pos hn]
theorem aEP (h:s.part=3) (hn:32<=s.node):s.take=s.Yp:=by unfold ak.take ak.upper; rw[if_neg h0,if_neg h1,if_neg h2,if_pos h,if_neg om]
variable (h3:¬s.part=3)
include h3
theorem aEM (hn:s.node < 32):s.take=s.VX:=by unfold ak.take ak.lower; rw[if_neg h0,if_neg h1,if_neg h2,if_neg h3,if_pos hn]
theorem aEN (hn:32<=s.node) (hm:s.wG):s.take=s.Pj:=by unfold ak.take ak.lower; rw[if_neg h0,if_neg h1,if_neg h2,if_neg h3,if_neg om,if_pos hm]
theorem a9P (hn:32<=s.node) (hm:¬s.wG):s.take=s.avB:=by unfold ak.take ak.lower; rw[if_neg h0,if_neg h1,if_neg h2,if_neg h3,if_neg om,if_neg hm]
end
inductive sE:ak->ak->Prop where
 | stop {s t:ak} (h:s.next=(false,t)):sE s t
 | go {s t u:ak} (h:s.next=(true,t)) (h2:sE t u):sE s u
theorem sE.a0M {s t:ak} (h:s.next=(true,t)):sE s=sE t:=by
 funext u
 refine propext ⟨λk=>?_,λk=>.go h k⟩
 cases k with
 | stop h'=>rw[h] at h'; cases h'
 | go h' k=>rw[h] at h'; cases h'; exact k
theorem sE.a0O {s t:ak} (h:s.next=(false,t)):sE s=λu=>u=t:=by
 funext u
 refine propext ⟨λk=>?_,λk=>k▸.stop h⟩
 cases k with
 | stop h'=>rw[h] at h'; cases h'; rfl
 | go h' k=>rw[h] at h'; cases h'
section
def a_T:ak:=⟨0,16777216,0,0,0,λ_=>0,λ_=>31,0,λ_=>31,λ_=>31,λ_=>31,0,0,0,1,0,λ_=>0,0,0,0,0,0,0,1,0,λ_=>0⟩
open Classical in
def aDm (P:ak->Prop):ak:=if h:∃t,P t then Classical.choose h else a_T
def ak.fin (s:ak):ak:=aDm (sE s)
theorem auj {s t:ak} (h:s.next=(true,t)):s.fin=t.fin:=by unfold ak.fin; rw[sE.a0M h]
theorem auk {s t:ak} (h:s.next=(false,t)):s.fin=t:=by
 unfold ak.fin
 rw[sE.a0O h]
 unfold aDm
 have hx:∃u,u=t:=⟨t,rfl⟩
 rw[dif_pos hx]
 exact yf hx
theorem aSl {s t:ak} (h:sE s t):s.fin=t:=by
 induction h with
 | stop h=>exact auk h
 | go h _ ih=>rw[auj h,ih]
def ak.num (s:ak):Nat->Int
 | 0=>s.c
 | 1=>s.w
 | 2=>s.ax
 | 3=>s.used
 | 4=>s.ol
 | 5=>s.bh
 | 6=>s.tl
 | 7=>s.td
 | 8=>s.tb
 | 9=>s.node
 | 10=>s.part
 | 11=>s.made
 | 12=>s.zl
 | 13=>s.zd
 | 14=>s.zb
 | 15=>s.left
 | 16=>s.st
 | _=>0
def ak.row (s:ak):Nat->R
 | 0=>s.cp
 | 1=>s.rb
 | 2=>s.rl
 | 3=>s.rd
 | 4=>s.dL
 | 5=>s.out
 | _=>λ_=>0
def ak.all (s:ak):R:=λi=>if i < 32 then s.num i else s.row ((i - 32) % 6) ((i - 32) / 6)
theorem aPV (s:ak) {i:Nat} (h:i < 32):s.all i=s.num i:=if_pos h
theorem aPW (s:ak) {j:Nat} (h:j < 6) (q:Nat):s.all (32+6*q+j)=s.row j q:=by
 unfold ak.all
 rw[if_neg om,show (32+6*q+j - 32) % 6=j by omega,show (32+6*q+j - 32) / 6=q by omega]
def gN (lo hi:Int) (i:Nat) (r:R):Int:=az lo hi (r i)
def gR (lo hi:Int) (j:Nat) (r:R):R:=λq=>az lo hi (r (32+6*q+j))
theorem oq {lo hi:Int} (h:lo<=hi) (i:Nat) (r:R):lo<=gN lo hi i r/\gN lo hi i r<=hi:=cH h _
theorem KM {lo hi:Int} (h:lo<=hi) (j:Nat) (r:R) (q:Nat):lo<=gR lo hi j r q/\gR lo hi j r q<=hi:=cH h _
theorem lg {lo hi:Int} {i:Nat} {s:ak} (h:i < 32) (h1:lo<=s.num i) (h2:s.num i<=hi):gN lo hi i s.all=s.num i:=by
 unfold gN; rw[aPV s h]; exact a6 h1 h2
theorem Dq {lo hi:Int} {j:Nat} {s:ak} (h:j < 6) (h1:∀q,lo<=s.row j q/\s.row j q<=hi):gR lo hi j s.all=s.row j:=by
 funext q
 unfold gR; rw[aPW s h]; exact a6 (h1 q).1 (h1 q).2
def Dp (s:ak):R:=s.fin.all
def Wx (c ax node part tl td zl zd made left plain st:Int):Prop:=st=4\/
 ((0 < ax->c < 256 ^ (4 - ax).toNat)/\(part=0->node=1)/\(part=1->tl=0/\td=0)/\(3<=part->node<=63/\2<=tl)/\(part=4->td<=4032)/\
  (0 < left->made+left<=plain/\(zl=0/\zd=0\/2<=zl/\1<=zd/\zd<=made)))
def ak.ok (s:ak):Prop:=Wx s.c s.ax s.node s.part s.tl s.td s.zl s.zd s.made s.left s.plain s.st
structure ak.Bd (s:ak):Prop where
 c:0<=s.c/\s.c<=4294967295
 w:16777216<=s.w/\s.w<=4294967295
 ax:0<=s.ax/\s.ax<=4
 used:0<=s.used/\s.used<=s.n
 n:s.n<=8192
 ol:0<=s.ol/\s.ol<=128
 node:1<=s.node/\s.node<=255
 part:0<=s.part/\s.part<=4
 tl:0<=s.tl/\s.tl<=257
 td:0<=s.td/\s.td<=4096
 made:0<=s.made/\s.made<=s.plain
 plain:s.plain<=4095
 zl:0<=s.zl
 zd:0<=s.zd
 left:0<=s.left
 st:1<=s.st/\s.st<=4
 fw:∀q,0<=s.fw q/\s.fw q<=255
def ak.mu (s:ak):Int:=((s.n - s.used)*8589934592+s.w)+(((17179869184 - s.ax*4294967296)+(s.plain - s.made))+(5 - s.st))
theorem atC {c w p:Int} (h0:0<=c) (h:c < w) (hw:16777216<=w) (hw':w<=4294967295):kz c w p=(if c < bU w p then c else c - bU w p)/\0<=kz c w p/\kz c w p < part w p (dO c w p):=by
 have hb:=wu (p:=p) hw hw'
 have e:kz c w p=if c < bU w p then c else c - bU w p:=by
  unfold kz
  split
  .exact a6 om om
  .exact a6 om om
 refine⟨e,?_⟩
 rw[e,Xd]
 split <;>omega
theorem atD {c w:Int} (h0:0<=c) (h:c < w) (hw':w<=4294967295):o6 c w=(if c < w / 2 then c else c - w / 2)/\0<=o6 c w/\o6 c w<=w / 2:=by
 have e:o6 c w=if c < w / 2 then c else c - w / 2:=by
  unfold o6
  split
  .exact a6 om om
  .exact a6 om om
 refine⟨e,?_⟩
 rw[e]
 split <;>omega
theorem atG {c w p:Int} (h0:0<=c) (h:c < w) (hw:16777216<=w) (hw':w<=4294967295):(0 < bq w p (dO c w p)->kz c w p < 256 ^ (4 - bq w p (dO c w p)).toNat)/\(0<=bq w p (dO c w p)/\bq w p (dO c w p)<=1)/\(16777216<=aM w p (dO c w p)/\aM w p (dO c w p)<=4294967295)/\aM w p (dO c w p) - bq w p (dO c w p)*4294967296 < w:=by
 have hb:=wu (p:=p) hw hw'
 have hp:=aDd (p:=p) (dO c w p) hw hw'
 have hc:=atC (p:=p) h0 h hw hw'
 have hq:=Xd c w p
 have hi:=UE (p:=p) (dO c w p) hw hw'
 have hz:=Yx hp.1 hp.2
 rw[hi]
 unfold bq
 refine⟨λhn=>?_,wL _,hz,?_⟩
 .unfold fy at hn ⊢
  split at hn
  .rw[if_pos (by assumption)]
   have:(256:Int) ^ (4 - 1:Int).toNat=16777216:=by decide
   omega
  .omega
 .unfold fy wide
  split at hq <;>split <;>omega
theorem auN {c w:Int} (h0:0<=c) (h:c < w) (hw:16777216<=w) (hw':w<=4294967295):(0 < eL w->o6 c w < 256 ^ (4 - eL w).toNat)/\(0<=eL w/\eL w<=1)/\(16777216<=gD w/\gD w<=4294967295)/\gD w - eL w*4294967296 < w:=by
 have hc:=atD h0 h hw'
 have hi:=Vt hw hw'
 have hz:=Yx (w:=w / 2) om om
 rw[hi]
 unfold eL
 refine⟨λhn=>?_,wL _,hz,?_⟩
 .unfold fy at hn ⊢
  split at hn
  .rw[if_pos (by assumption)]
   have:(256:Int) ^ (4 - 1:Int).toNat=16777216:=by decide
   omega
  .omega
 .unfold fy wide
  split <;>omega
end
end Go.Lz
namespace Go.Lz
open Go.Z (R)
theorem PC {c ax node part tl td zl zd made left plain st:Int} (h:Wx c ax node part tl td zl zd made left plain st) (h4:st≠4):(0 < ax->c < 256 ^ (4 - ax).toNat)/\(part=0->node=1)/\(part=1->tl=0/\td=0)/\(3<=part->node<=63/\2<=tl)/\(part=4->td<=4032)/\(0 < left->made+left<=plain/\(zl=0/\zd=0\/2<=zl/\1<=zd/\zd<=made)):=h.resolve_left h4
theorem aDr (ax:Int) (h:0 < ax) (h':ax<=4):(256:Int) ^ (4 - ax).toNat=if ax=1 then 16777216 else if ax=2 then 65536 else if ax=3 then 256 else 1:=by
 have h:ax=1\/ax=2\/ax=3\/ax=4:=by omega
 rcases h with rfl | rfl | rfl | rfl <;>decide
theorem atQ {s:ak} (b:s.Bd) (k:s.ok) (h4:s.st≠4) (hn:0 < s.ax) (hu:s.used≠s.n):s.i5.ok/\s.i5.mu < s.mu/\0<=s.i5.mu/\(0<=s.i5.c/\s.i5.c<=4294967295):=by
 have k1:=PC k h4
 have hb:=b.fw s.used.toNat
 have e:s.i5.c=s.c*256+s.fw s.used.toNat:=ata b.c.1 hb.1 hb.2
 have hc:=k1.1 hn
 rw[aDr _ hn b.ax.2] at hc
 have bw:=b.w; have bn:=b.ax; have bu:=b.used; have bm:=b.made; have bs:=b.st; have bc:=b.c
 have hlt:s.c < 16777216:=by
  split at hc
  .exact hc
  .split at hc
   .omega
   .split at hc <;>omega
 refine⟨Or.inr ⟨λhn'=>?_,k1.2⟩,?_,?_,?_,?_⟩
 .have hn2:0 < s.ax+-1:=hn'
  have e2:=aDr (s.ax+-1) hn2 om
  show s.i5.c < 256 ^ (4 - (s.ax+-1)).toNat
  rw[e,e2]
  have h3:s.ax=2\/s.ax=3\/s.ax=4:=by omega
  rcases h3 with h3 | h3 | h3 <;>rw[h3] at hc ⊢ <;>simp at hc ⊢ <;>omega
 .show ((s.n - (s.used+1))*8589934592+s.w)+(((17179869184 - (s.ax+-1)*4294967296)+(s.plain - s.made))+(5 - s.st)) < ((s.n - s.used)*8589934592+s.w)+(((17179869184 - s.ax*4294967296)+(s.plain - s.made))+(5 - s.st))
  omega
 .show 0<=((s.n - (s.used+1))*8589934592+s.w)+(((17179869184 - (s.ax+-1)*4294967296)+(s.plain - s.made))+(5 - s.st))
  omega
 .rw[e]; omega
 .rw[e]; omega
theorem ayJ {s:ak} (b:s.Bd):0<=s.mu:=by
 have bw:=b.w; have bn:=b.ax; have bu:=b.used; have bm:=b.made; have bs:=b.st
 show 0<=((s.n - s.used)*8589934592+s.w)+(((17179869184 - s.ax*4294967296)+(s.plain - s.made))+(5 - s.st))
 omega
theorem a8s {s:ak} (b:s.Bd) (k:s.ok) (h4:s.st≠4) (hl:0 < s.left):s.put.ok/\s.put.mu < s.mu/\0<=s.put.mu:=by
 obtain⟨k1,k2,k3,k4,k5,k6⟩:=PC k h4
 have bw:=b.w; have bn:=b.ax; have bu:=b.used; have bm:=b.made; have bs:=b.st
 have k7:=k6 hl
 refine⟨Or.inr ⟨k1,k2,k3,k4,k5,λh=>?_⟩,?_,?_⟩
 .have h:0 < s.left+-1:=h
  refine⟨?_,?_⟩
  .show (s.made+1)+(s.left+-1)<=s.plain
   omega
  .show s.zl=0/\s.zd=0\/2<=s.zl/\1<=s.zd/\s.zd<=s.made+1
   omega
 .show ((s.n - s.used)*8589934592+s.w)+(((17179869184 - s.ax*4294967296)+(s.plain - (s.made+1)))+(5 - s.st)) < ((s.n - s.used)*8589934592+s.w)+(((17179869184 - s.ax*4294967296)+(s.plain - s.made))+(5 - s.st))
  omega
 .show 0<=((s.n - s.used)*8589934592+s.w)+(((17179869184 - s.ax*4294967296)+(s.plain - (s.made+1)))+(5 - s.st))
  omega
theorem akQ {s:ak} (b:s.Bd) (k:s.ok) {x:Int} (hx:x=4\/x=3) (h4:s.st < x) (h:x=3->¬0 < s.left):({s with st:=x}:ak).ok/\({s with st:=x}:ak).mu < s.mu/\0<=({s with st:=x}:ak).mu:=by
 have bw:=b.w; have bn:=b.ax; have bu:=b.used; have bm:=b.made; have bs:=b.st
 refine⟨?_,?_,?_⟩
 .rcases hx with hx | hx
  .exact Or.inl hx
  .obtain⟨k1,k2,k3,k4,k5,k6⟩:=PC k om
   exact Or.inr ⟨k1,k2,k3,k4,k5,λh'=>absurd h' (h hx)⟩
 .show ((s.n - s.used)*8589934592+s.w)+(((17179869184 - s.ax*4294967296)+(s.plain - s.made))+(5 - x)) < ((s.n - s.used)*8589934592+s.w)+(((17179869184 - s.ax*4294967296)+(s.plain - s.made))+(5 - s.st))
  omega
 .show 0<=((s.n - s.used)*8589934592+s.w)+(((17179869184 - s.ax*4294967296)+(s.plain - s.made))+(5 - x))
  omega
theorem yS {s t:ak} (b:s.Bd) (h0:s.ax=0) (hn:0<=t.ax/\t.ax<=1) (hw:16777216<=t.w/\t.w<=4294967295) (h:t.w - t.ax*4294967296 < s.w) (hs:s.st<=t.st/\t.st<=4) (e:t.n=s.n/\t.used=s.used/\t.plain=s.plain/\t.made=s.made):t.mu < s.mu/\0<=t.mu:=by
 have bw:=b.w; have bu:=b.used; have bm:=b.made; have bs:=b.st
 obtain⟨e1,e2,e3,e4⟩:=e
 unfold ak.mu
 rw[e1,e2,e3,e4,h0]
 omega
theorem a9Q {s : ak} (b : s.Bd) (k : s.ok) (h4 : s.st ≠ 4) (h0 : ¬ 0 < s.ax) (hc : s.c < s.w) (hm : s.made ≠ s.plain) : s.take.ok ∧ s.take.mu < s.mu ∧ 0 ≤ s.take.mu := by
  obtain ⟨k1, k2, k3, k4, k5, k6⟩ := PC k h4
  have bw := b.w; have bn := b.ax; have bu := b.used; have bm := b.made; have bs := b.st; have bc := b.c; have bp := b.part; have bo := b.node; have bt := b.tl; have bd := b.td
  have n0 : s.ax = 0 := by omega
  have D : ∀ p : Int, _ := fun p => atG (p := p) bc.1 hc bw.1 bw.2
  have H := auN bc.1 hc bw.1 bw.2
  have B : ∀ p : Int, _ := fun p => aeF s.c s.w p
  have HB := UU s.c s.w
  unfold ak.take
  split
  · refine ⟨Or.inr ⟨(D _).1, fun _ => rfl, fun _ => ⟨rfl, rfl⟩, fun h => ?_, fun h => ?_, fun h => ?_⟩, yS b n0 (D _).2.1 (D _).2.2.1 (D _).2.2.2 ⟨aP _, bs.2⟩ ⟨rfl, rfl, rfl, rfl⟩⟩
    · have h : 3 ≤ (if dO s.c s.w (s.cp s.bh.toNat) = 1 then (2 : Int) else 1) := h
      split at h <;> omega
    · have h : (if dO s.c s.w (s.cp s.bh.toNat) = 1 then (2 : Int) else 1) = 4 := h
      split at h <;> omega
    · exact absurd h (show ¬ (0 : Int) < 0 by decide)
  split
  · rename_i hp
    unfold ak.byte
    split
    · exact ⟨Or.inr ⟨(D _).1, fun h => absurd h (show ¬ (1 : Int) = 0 by decide), fun _ => k3 hp, fun h => absurd h (show ¬ (3 : Int) ≤ 1 by decide), fun h => absurd h (show ¬ (1 : Int) = 4 by decide), fun h => absurd h (show ¬ (0 : Int) < 0 by decide)⟩,
        yS b n0 (D _).2.1 (D _).2.2.1 (D _).2.2.2 ⟨aP _, bs.2⟩ ⟨rfl, rfl, rfl, rfl⟩⟩
    · exact ⟨Or.inr ⟨(D _).1, fun _ => rfl, fun h => absurd h (show ¬ (0 : Int) = 1 by decide), fun h => absurd h (show ¬ (3 : Int) ≤ 0 by decide), fun h => absurd h (show ¬ (0 : Int) = 4 by decide), fun _ => ⟨show s.made + 1 ≤ s.plain by omega, Or.inl ⟨rfl, rfl⟩⟩⟩,
        yS b n0 (D _).2.1 (D _).2.2.1 (D _).2.2.2 ⟨aP _, bs.2⟩ ⟨rfl, rfl, rfl, rfl⟩⟩
  split
  · unfold ak.len
    have hB := B (atR s.rl 256 s.node)
    split
    · exact ⟨Or.inr ⟨(D _).1, fun h => absurd h (show ¬ (2 : Int) = 0 by decide), fun h => absurd h (show ¬ (2 : Int) = 1 by decide), fun h => absurd h (show ¬ (3 : Int) ≤ 2 by decide), fun h => absurd h (show ¬ (2 : Int) = 4 by decide), fun h => absurd h (show ¬ (0 : Int) < 0 by decide)⟩,
        yS b n0 (D _).2.1 (D _).2.2.1 (D _).2.2.2 ⟨aP _, bs.2⟩ ⟨rfl, rfl, rfl, rfl⟩⟩
    · exact ⟨Or.inr ⟨(D _).1, fun h => absurd h (show ¬ (3 : Int) = 0 by decide), fun h => absurd h (show ¬ (3 : Int) = 1 by decide), fun _ => ⟨show (1 : Int) ≤ 63 by decide, show 2 ≤ s.node * 2 + (dO s.c s.w (atR s.rl 256 s.node) + -254) by omega⟩, fun h => absurd h (show ¬ (3 : Int) = 4 by decide), fun h => absurd h (show ¬ (0 : Int) < 0 by decide)⟩,
        yS b n0 (D _).2.1 (D _).2.2.1 (D _).2.2.2 ⟨aP _, bs.2⟩ ⟨rfl, rfl, rfl, rfl⟩⟩
  split
  · rename_i hp
    have k7 := k4 om
    have hB := B (atR s.rd 64 s.node)
    unfold ak.upper
    split
    · exact ⟨Or.inr ⟨(D _).1, fun h => absurd h (show ¬ (3 : Int) = 0 by decide), fun h => absurd h (show ¬ (3 : Int) = 1 by decide), fun _ => ⟨show s.node * 2 + dO s.c s.w (atR s.rd 64 s.node) ≤ 63 by omega, k7.2⟩, fun h => absurd h (show ¬ (3 : Int) = 4 by decide), fun h => absurd h (show ¬ (0 : Int) < 0 by decide)⟩,
        yS b n0 (D _).2.1 (D _).2.2.1 (D _).2.2.2 ⟨aP _, bs.2⟩ ⟨rfl, rfl, rfl, rfl⟩⟩
    · exact ⟨Or.inr ⟨(D _).1, fun h => absurd h (show ¬ (4 : Int) = 0 by decide), fun h => absurd h (show ¬ (4 : Int) = 1 by decide), fun _ => ⟨show (1 : Int) ≤ 63 by decide, k7.2⟩, fun _ => (show dO s.c s.w (atR s.rd 64 s.node) * 64 + (s.node * 128 + -4096) ≤ 4032 by omega), fun h => absurd h (show ¬ (0 : Int) < 0 by decide)⟩,
        yS b n0 (D _).2.1 (D _).2.2.1 (D _).2.2.2 ⟨aP _, bs.2⟩ ⟨rfl, rfl, rfl, rfl⟩⟩
  · have hp : s.part = 4 := by omega
    have k7 := k4 om
    unfold ak.lower
    split
    · exact ⟨Or.inr ⟨H.1, fun h => absurd h (show ¬ (4 : Int) = 0 by decide), fun h => absurd h (show ¬ (4 : Int) = 1 by decide), fun _ => ⟨show s.node * 2 + o7 s.c s.w ≤ 63 by omega, k7.2⟩, fun _ => k5 hp, fun h => absurd h (show ¬ (0 : Int) < 0 by decide)⟩,
        yS b n0 H.2.1 H.2.2.1 H.2.2.2 ⟨aP _, bs.2⟩ ⟨rfl, rfl, rfl, rfl⟩⟩
    split
    · rename_i hy
      unfold ak.wG at hy
      have hf : s.Dn = s.td + (o7 s.c s.w + (s.node * 2 + -63)) := rfl
      exact ⟨Or.inr ⟨H.1, fun _ => rfl, fun h => absurd h (show ¬ (0 : Int) = 1 by decide), fun h => absurd h (show ¬ (3 : Int) ≤ 0 by decide), fun h => absurd h (show ¬ (0 : Int) = 4 by decide), fun _ => ⟨show s.made + s.tl ≤ s.plain by omega, Or.inr ⟨k7.2, show 1 ≤ s.Dn by omega, show s.Dn ≤ s.made by omega⟩⟩⟩,
        yS b n0 H.2.1 H.2.2.1 H.2.2.2 ⟨aP _, bs.2⟩ ⟨rfl, rfl, rfl, rfl⟩⟩
    · exact ⟨Or.inl rfl, yS b n0 H.2.1 H.2.2.1 H.2.2.2 ⟨bs.2, aP _⟩ ⟨rfl, rfl, rfl, rfl⟩⟩
theorem a0v {s t:ak} (b:s.Bd) (k:s.ok) (h:s.next=(true,t)):t.ok/\t.mu < s.mu/\0<=t.mu:=by
 have bs:=b.st
 unfold ak.next at h
 split at h
 .cases h
 split at h
 .cases h
 rename_i h3 h4
 split at h
 .rename_i hn
  split at h
  .cases h
  .rename_i hu
   cases h
   have:=atQ b k h4 hn hu
   exact⟨this.1,this.2.1,this.2.2.1⟩
 rename_i hn
 split at h
 .rename_i hc
  unfold ak.rest at h
  split at h
  .rename_i hl
   split at h
   .cases h; exact a8s b k h4 hl
   .cases h
  .rename_i hl
   split at h
   .cases h
    split
    .exact akQ b k (.inr rfl) om (λ_=>hl)
    .exact akQ b k (.inl rfl) om (λh=>absurd h dc)
   .rename_i hm
    cases h; exact a9Q b k h4 hn hc hm
 .cases h; exact akQ b k (.inl rfl) om (λh=>absurd h dc)
end Go.Lz
namespace Go.Lz
open Go.Z (R)
def pq:PS:=⟨0,4294967295,0,dp 1024,0,dp 1024,dp 1024,dp 1024⟩
structure Bn (r:R) (n j a:Int) (S:PS):Prop where
 j0:0<=j
 a0:0<=a
 an:a<=n
 tok:∃t,eB r n a t j=eB r n 0 (dp 0) 0
 L:(gV (qo r n) (dd r n 0 - j).toNat j.toNat S).L=jY r n
 k:(gV (qo r n) (dd r n 0 - j).toNat j.toNat S).k+4=dk r n
 fit:S.Fit
 k0:0<=S.k
theorem Wz (q:Nat):(31:Int)<=dp 1024 q/\dp 1024 q<=2017:=by unfold dp; decide
theorem aQo (r:R) {n:Int} (h0:0<=n) (h:n<=8192):Bn r n 0 0 pq:=by
 have hc:0<=dd r n 0/\dd r n 0<=8192:=cH dc _
 refine⟨aP _,aP _,h0,⟨dp 0,rfl⟩,rfl,?_,⟨by decide,by decide,Wz,Wz,Wz,Wz,by decide⟩,by decide⟩
 have b:=DS (qo r n) (dd r n 0 - 0).toNat (0:Int).toNat (s:=pq) dc dc
 have e:pq.k=0:=rfl
 unfold dk Ia iQ
 have b2:=b.2
 rw[e] at b2
 have:az 0 188416 (gV (qo r n) (dd r n 0 - 0).toNat (0:Int).toNat pq).k=(gV (qo r n) (dd r n 0 - 0).toNat (0:Int).toNat pq).k:=a6 b2.1 om
 have e2:(⟨0,4294967295,0,dp 1024,0,dp 1024,dp 1024,dp 1024⟩:PS)=pq:=rfl
 rw[e2,this]
 omega
theorem aEV (r:R) {n:Int} (h:n<=8192):(eB r n 0 (dp 0) 0).2=dd r n 0:=by
 have:=LS (r:=r) (n:=n) (a:=0) (aP 0) h (dp 0) 0
 omega
section
variable {r:R} {n j a:Int} {S:PS}
theorem Bn.lt (b:Bn r n j a S) (h8:n<=8192) (h:a < n):j+1<=dd r n 0:=by
 obtain⟨t,ht⟩:=b.tok
 rw[<- aEV r h8,<- ht,ze t j h]
 exact (QP r n (n - (a+fY r n a)).toNat (a+fY r n a) (gE t j (fi r n a) (fH r n a) (fI r n a)) (j+1)).1
theorem Bn.cells (b:Bn r n j a S) (h:a < n):qo r n (3*j.toNat)=fi r n a/\qo r n (3*j.toNat+1)=fH r n a/\qo r n (3*j.toNat+2)=fI r n a:=by
 obtain⟨t,ht⟩:=b.tok
 have:=ak0 r t b.j0 h
 rw[ht] at this
 exact this
theorem Bn.next (b:Bn r n j a S) (h8:n<=8192) (h:a < n):Bn r n (j+1) (a+fY r n a) (cg (fi r n a) (fH r n a) (fI r n a) S):=by
 have hj:=b.lt h8 h
 have hp:=LR r n a
 have hl:=akY r b.a0 h
 have c:=b.cells h
 have e:=sZ b.j0 (show j < dd r n 0 by omega)
 have hL:=b.L
 have hk:=b.k
 rw[e.1,A9,c.1,c.2.1,c.2.2,<- e.2] at hL hk
 have j0:=b.j0
 have a0:=b.a0
 have k0:=b.k0
 refine⟨by omega,by omega,by omega,?_,hL,hk,aEY b.fit,?_⟩
 .obtain⟨t,ht⟩:=b.tok
  exact⟨_,by rw[<- ht,ze t j h]⟩
 .have:=(QQ (fi r n a) (fH r n a) (fI r n a) S).2.1
  omega
theorem Bn.end (b:Bn r n j a S) (h8:n<=8192) (h:a=n):S.L=jY r n/\S.k+4=dk r n:=by
 obtain⟨t,ht⟩:=b.tok
 have e:j=dd r n 0:=by
  rw[<- aEV r h8,<- ht,It t j om]
 have hL:=b.L
 have hk:=b.k
 rw[Qp om] at hL hk
 exact⟨hL,hk⟩
theorem Bn.sO (b:Bn r n j a S):In (jY r n) (dk r n).toNat S.L S.w (4+S.k).toNat:=by
 have g:=DS (qo r n) (dd r n 0 - j).toNat j.toNat (s:=S) b.fit.w0 b.fit.w1
 have k0:=b.k0
 have hk:=b.k
 refine aC9 (qo r n) (dd r n 0 - j).toNat j.toNat S _ b.fit ?_
 rw[b.L]
 have e:(4+S.k).toNat+((gV (qo r n) (dd r n 0 - j).toNat j.toNat S).k - S.k).toNat=(dk r n).toNat:=by
  have:=g.2.1
  omega
 rw[e]
 exact In.end (by have:=g.1.1; omega)
end
structure hY (F:Int) (K:Nat) (off:Int) (s:ak) (L w k:Int):Prop where
 w:s.w=w
 pos:off+s.used+s.ax=4+k
 c:∃M,L=M*256 ^ s.ax.toNat/\s.c=code F K M (off+s.used).toNat
 ax:0<=s.ax
 o:0<=off+s.used
theorem hY.G8 {F:Int} {K:Nat} {off:Int} {s t:ak} {L w k:Int} (d:hY F K off s L w k) (e:t.c=s.c/\t.w=s.w/\t.ax=s.ax/\t.used=s.used):hY F K off t L w k:=by
 obtain⟨e1,e2,e3,e4⟩:=e
 refine⟨by rw[e2]; exact d.w,by rw[e3,e4]; exact d.pos,by rw[e1,e3,e4]; exact d.c,by rw[e3]; exact d.ax,by rw[e4]; exact d.o⟩
section
variable {F:Int} {K:Nat} {off:Int} {s:ak} {L w k:Int}
theorem hY.Wu (d:hY F K off s L w k) (hi:In F K L w (4+k).toNat):0<=s.c:=by
 obtain⟨M,h1,h2⟩:=d.c
 have hn:=d.ax
 have ho:=d.o
 have hp:=d.pos
 have hle:=hi.le
 rw[h2]
 unfold code
 have:M<=F / 256 ^ (K - (off+s.used).toNat):=by
  refine Int.le_ediv_of_mul_le (pow_pos _) ?_
  have e:K - (off+s.used).toNat=s.ax.toNat+(K - (4+k).toNat):=by omega
  rw[e,T9,<- Ak,<- h1]
  exact hi.lo
 omega
theorem hY.more (d:hY F K off s L w k) (hi:In F K L w (4+k).toNat) (hn:0 < s.ax):off+s.used < K:=by
 have hle:=hi.le
 have hp:=d.pos
 have ho:=d.o
 omega
theorem hY.i5 (d:hY F K off s L w k) (hi:In F K L w (4+k).toNat) (hn:0 < s.ax) (hb:s.fw s.used.toNat=be F K (off+s.used).toNat):hY F K off s.i5 L w k:=by
 have h0:=d.Wu hi
 have hm:=d.more hi hn
 obtain⟨M,h1,h2⟩:=d.c
 have ho:=d.o
 have hp:=d.pos
 have bb:=ael F K (off+s.used).toNat
 have e1:s.i5.used=s.used+1:=rfl
 have e2:s.i5.ax=s.ax+-1:=rfl
 have e3:s.i5.c=GD s.c (s.fw s.used.toNat):=rfl
 refine⟨d.w,by rw[e1,e2]; omega,⟨M*256,?_,?_⟩,by rw[e2]; omega,by rw[e1]; omega⟩
 .rw[e2,h1,show s.ax.toNat=(s.ax+-1).toNat+1 by omega,sv,wc (256 ^ _) 256,Ak]
 .rw[e3,hb,ata h0 bb.1 bb.2,h2,e1,show (off+(s.used+1)).toNat=(off+s.used).toNat+1 by omega]
  exact aQ1 om
theorem hY.lt (d:hY F K off s L w k) (hi:In F K L w (4+k).toNat) (hn:¬0 < s.ax):s.c=code F K L (4+k).toNat/\s.c < s.w:=by
 obtain⟨M,h1,h2⟩:=d.c
 have hnn:=d.ax
 have e:s.ax=0:=by omega
 have hp:=d.pos
 rw[e] at h1
 have h1:L=M:=by rw[h1]; show M*1=M; omega
 subst h1
 have e2:(off+s.used).toNat=(4+k).toNat:=by omega
 rw[e2] at h2
 refine⟨h2,?_⟩
 rw[h2,d.w]
 exact hi.code.2
theorem auI (v:Int):gr v=256 ^ (fy v).toNat:=by
 unfold gr fy
 split <;>rfl
theorem hY.bit {p b:Int} (d:hY F K off s L w k) (hw:16777216<=w) (hw':w<=4294967295) (hb:b=0\/b=1) (hk:0<=k) (hi:In F K (jB L w p b) (aM w p b) (4+(k+bq w p b)).toNat) (hn:¬0 < s.ax):dO s.c s.w p=b/\hY F K off (s.dec p) (jB L w p b) (aM w p b) (k+bq w p b):=by
 have bn:=At w p b
 have hi':In F K (jB L w p b) (aM w p b) ((4+k).toNat+(bq w p b).toNat):=by
  rw[show (4+k).toNat+(bq w p b).toNat=(4+(k+bq w p b)).toNat by omega]; exact hi
 obtain⟨i1,i2,i3,i4⟩:=In.bit hw hw' hb hi'
 obtain⟨c1,c2⟩:=d.lt i1 hn
 have hd:dO s.c s.w p=b:=by rw[c1,d.w]; exact i2
 have hnn:=d.ax
 have hp:=d.pos
 have ho:=d.o
 have cc:=i1.code
 refine⟨hd,?_⟩
 have e1:(s.dec p).c=kz s.c s.w p:=rfl
 have e2:(s.dec p).w=aM s.w p (dO s.c s.w p):=rfl
 have e3:(s.dec p).ax=bq s.w p (dO s.c s.w p):=rfl
 have e4:(s.dec p).used=s.used:=rfl
 rw[hd,d.w] at e2 e3
 refine⟨e2,by rw[e3,e4]; omega,⟨L+(if b=0 then 0 else bU w p),?_,?_⟩,by rw[e3]; omega,by rw[e4]; exact ho⟩
 .rw[e3]
  show jB L w p b=_
  unfold jB
  rw[auI]; rfl
 .rw[e1,e4,show (off+s.used).toNat=(4+k).toNat by omega,<- i3,<- c1]
  have:=atC (c:=s.c) (w:=s.w) (p:=p) (by rw[c1]; exact cc.1) c2 (by rw[d.w]; exact hw) (by rw[d.w]; exact hw')
  rw[this.1,d.w]
  unfold dO at hd
  rw[d.w] at hd
  by_cases q:s.c < bU w p
  .rw[if_pos q] at hd
   rw[if_pos q,<- hd,if_pos rfl]; omega
  .rw[if_neg q] at hd
   rw[if_neg q,<- hd,if_neg dc]
theorem hY.aSW {b:Int} (d:hY F K off s L w k) (hw:16777216<=w) (hw':w<=4294967295) (hb:b=0\/b=1) (hk:0<=k) (hi:In F K (wC L w b) (gD w) (4+(k+eL w)).toNat) (hn:¬0 < s.ax):o7 s.c s.w=b/\hY F K off s.half (wC L w b) (gD w) (k+eL w):=by
 have bn:=O0 w
 have hi':In F K (wC L w b) (gD w) ((4+k).toNat+(eL w).toNat):=by
  rw[show (4+k).toNat+(eL w).toNat=(4+(k+eL w)).toNat by omega]; exact hi
 obtain⟨i1,i2,i3,i4⟩:=In.half hw hw' hb hi'
 obtain⟨c1,c2⟩:=d.lt i1 hn
 have hd:o7 s.c s.w=b:=by rw[c1,d.w]; exact i2
 have hnn:=d.ax
 have hp:=d.pos
 have ho:=d.o
 have cc:=i1.code
 refine⟨hd,?_⟩
 have e1:s.half.c=o6 s.c s.w:=rfl
 have e2:s.half.w=gD s.w:=rfl
 have e3:s.half.ax=eL s.w:=rfl
 have e4:s.half.used=s.used:=rfl
 rw[d.w] at e2 e3
 refine⟨e2,by rw[e3,e4]; omega,⟨L+(if b=0 then 0 else w / 2),?_,?_⟩,by rw[e3]; omega,by rw[e4]; exact ho⟩
 .rw[e3]
  unfold wC
  rw[auI]; rfl
 .rw[e1,e4,show (off+s.used).toNat=(4+k).toNat by omega,<- i3,<- c1]
  have:=atD (c:=s.c) (w:=s.w) (by rw[c1]; exact cc.1) c2 (by rw[d.w]; exact hw')
  rw[this.1,d.w]
  unfold o7 at hd
  rw[d.w] at hd
  by_cases q:s.c < w / 2
  .rw[if_pos q] at hd
   rw[if_pos q,<- hd,if_pos rfl]; omega
  .rw[if_neg q] at hd
   rw[if_neg q,<- hd,if_neg dc]
end
end Go.Lz
namespace Go.Lz
open Go.Z (R)
structure TS.Fit (x:TS):Prop where
 w0:16777216<=x.w
 w1:x.w<=4294967295
 r:∀q,31<=x.r q/\x.r q<=2017
 k:0<=x.k
theorem LV {n b:Int} {x:TS} (h:x.Fit):(cU n b x).Fit:=by
 have b1:=Ks x.w (atR x.r n x.a) b
 have b2:=At x.w (atR x.r n x.a) b
 have hk:=h.k
 refine⟨b1.1,b1.2,λq=>LW _ _ _ _ _,?_⟩
 show 0<=x.k+bq x.w (atR x.r n x.a) b
 omega
theorem X7 {n v:Int}:∀(i:Nat) {x:TS},x.Fit->(aZ n v i x).Fit
 | 0,_,h=>h
 | i+1,x,h=>by rw[Bh]; exact X7 i (LV h)
theorem X8 {F n v:Int} {K i:Nat} {x:TS} (h:x.Fit) (hi:In F K (aZ n v i x).L (aZ n v i x).w (4+(aZ n v i x).k).toNat):In F K x.L x.w (4+x.k).toNat:=by
 have b:=Ea n v i (s:=x) h.w0 h.w1 h.r
 have hk:=h.k
 refine ak2 (n:=n) (v:=v) i x _ h.w0 h.w1 h.r ?_
 rw[show (4+x.k).toNat+((aZ n v i x).k - x.k).toNat=(4+(aZ n v i x).k).toNat by have:=b.2.1; omega]
 exact hi
theorem afl {F d:Int} {K i:Nat} {x:HS} (h0:16777216<=x.w) (h1:x.w<=4294967295) (hk:0<=x.k) (hi:In F K (cF d i x).L (cF d i x).w (4+(cF d i x).k).toNat):In F K x.L x.w (4+x.k).toNat:=by
 have b:=Dr d i (s:=x) h0 h1
 refine afj (d:=d) i x _ h0 h1 ?_
 rw[show (4+x.k).toNat+((cF d i x).k - x.k).toNat=(4+(cF d i x).k).toNat by have:=b.2; omega]
 exact hi
theorem ak5 {n v w L k:Int} {r:R} {i:Int} (hw:16777216<=w) (hw':w<=4294967295) (hr:∀q,31<=r q/\r q<=2017) (h0:0<=i) (h7:i<=7):tL L w r n v 1 i=(aZ n v (i+1).toNat ⟨L,w,k,r,1⟩).L/\tW w r n v 1 i=(aZ n v (i+1).toNat ⟨L,w,k,r,1⟩).w/\k+tK w r n v 1 i=(aZ n v (i+1).toNat ⟨L,w,k,r,1⟩).k/\tR r n v 1 i=(aZ n v (i+1).toNat ⟨L,w,k,r,1⟩).r:=by
 have b:=Ea n v (i+1).toNat (s:=⟨L,w,k,r,1⟩) hw hw' hr
 have b0:=Ea n v (i+1).toNat (s:=⟨0,w,0,r,1⟩) hw hw' hr
 have e:=QT n v (i+1).toNat (s:=⟨0,w,0,r,1⟩) (t:=⟨L,w,k,r,1⟩) rfl rfl rfl
 simp only at b b0 e
 refine⟨ak1 n v _ rfl rfl rfl rfl,?_,?_,?_⟩
 .unfold tW
  rw[e.1]
  exact a6 b.1.1 b.1.2
 .unfold tK
  rw[a6 (by have:=b0.2.1; omega) (by have:=b0.2.1; omega)]
  have:=e.2
  omega
 .unfold tR
  rw[(ak3 n v (i+1).toNat (s:=⟨0,0,0,r,1⟩) (t:=⟨L,w,k,r,1⟩) rfl rfl).1]
  funext q
  exact a6 (b.2.2 q).1 (b.2.2 q).2
theorem aSZ {d w L k:Int} {i:Int} (hw:16777216<=w) (hw':w<=4294967295) (h0:0<=i) (h5:i<=5):hL L w d i=(cF d (i+1).toNat ⟨L,w,k⟩).L/\hW w i=(cF d (i+1).toNat ⟨L,w,k⟩).w/\k+hK w i=(cF d (i+1).toNat ⟨L,w,k⟩).k:=by
 have b:=Dr d (i+1).toNat (s:=⟨L,w,k⟩) hw hw'
 have b0:=Dr 0 (i+1).toNat (s:=⟨0,w,0⟩) hw hw'
 have e:=OZ (i+1).toNat (d:=0) (d':=d) (s:=⟨0,w,0⟩) (t:=⟨L,w,k⟩) rfl
 simp only at b b0 e
 refine⟨afi d _ rfl rfl,?_,?_⟩
 .unfold hW
  rw[e.1]
  exact a6 b.1.1 b.1.2
 .unfold hK
  rw[a6 (by have:=b0.2; omega) (by have:=b0.2; omega)]
  have:=e.2
  omega
structure Md (s:ak) (S:PS):Prop where
 cp:s.cp=S.cp
 bh:s.bh=S.bh
 rb:s.rb=S.rb
 rl:s.rl=S.rl
 rd:s.rd=S.rd
def Bz (s:ak):Prop:=(0<=s.tl/\s.tl<=257)/\(0<=s.td/\s.td<=4096)/\(0<=s.tb/\s.tb<=255)/\(0<=s.zl/\s.zl<=257)/\(0<=s.zd/\s.zd<=4096)/\(0<=s.zb/\s.zb<=255)/\s.left<=257
def Cp (r:R) (s:ak):Prop:=(s.zl=0/\s.zd=0/\s.zb=r s.made.toNat/\s.left=1)\/(2<=s.zl/\1<=s.zd/\s.zd<=s.made/\∀i:Nat,(i:Int) < s.left->r (s.made+i).toNat=r (s.made+i - s.zd).toNat)
def Kz (r:R) (a N D:Int):Prop:=2<=N/\N<=257/\1<=D/\D<=a/\D<=4096/\∀i:Nat,(i:Int) < N->sameAt r a D i
def Gu (T:PS) (D:Int) (z:TS):Prop:=cF (D - 1) 6 ⟨z.L,z.w,z.k⟩=⟨T.L,T.w,T.k⟩
def Gl (T:PS) (D:Int) (y:TS) (rd:R):Prop:=Gu T D (aZ 64 ((D - 1) / 64) 6 ⟨y.L,y.w,y.k,rd,1⟩)/\(aZ 64 ((D - 1) / 64) 6 ⟨y.L,y.w,y.k,rd,1⟩).r=T.rd
def gK (N:Nat) (v:Int) (i:Nat):Int:=2 ^ (N - i)+v / 2 ^ i
def qj (d:Int) (i:Nat):Int:=2 ^ (6 - i)+d / 2 ^ i - d / 64*2 ^ (6 - i)
theorem agV {N i:Nat} (h:i+1<=N) (v:Int):2*gK N v (i+1)+v / 2 ^ i % 2=gK N v i:=by
 unfold gK
 have e1:(2:Int) ^ (N - i)=2*2 ^ (N - (i+1)):=by
  rw[show N - i=(N - (i+1))+1 by omega,sv,wc]
 have e2:v / 2 ^ (i+1)=v / 2 ^ i / 2:=by
  rw[sv,<- F9 (JW (Int.pow_pos dc))]
 rw[e1,e2]
 generalize v / 2 ^ i=y
 omega
theorem a0l {i:Nat} (h:i+1<=6) (d:Int):2*qj d (i+1)+d / 2 ^ i % 2=qj d i:=by
 unfold qj
 have e1:(2:Int) ^ (6 - i)=2*2 ^ (6 - (i+1)):=by
  rw[show 6 - i=(6 - (i+1))+1 by omega,sv,wc]
 have e2:d / 2 ^ (i+1)=d / 2 ^ i / 2:=by
  rw[sv,<- F9 (JW (Int.pow_pos dc))]
 rw[e1,e2]
 generalize d / 2 ^ i=y
 generalize (2:Int) ^ (6 - (i+1))=p
 have:d / 64*(2*p)=2*(d / 64*p):=by rw[Int.mul_left_comm]
 rw[this]
 generalize d / 64*p=q
 omega
theorem ayZ {v:Int} (h0:0<=v) (h:v<=255) {i:Nat} (h8:i<=8):(2<=i->gK 8 v i < 128)/\(i=1->128<=gK 8 v i):=by
 have:i=0\/i=1\/i=2\/i=3\/i=4\/i=5\/i=6\/i=7\/i=8:=by omega
 unfold gK
 rcases this with rfl | rfl | rfl | rfl | rfl | rfl | rfl | rfl | rfl <;>simp <;>omega
theorem a0m {v:Int} (h0:0<=v) (h:v<=63) {i:Nat} (h8:i<=6):(2<=i->gK 6 v i < 32)/\(i=1->32<=gK 6 v i):=by
 have:i=0\/i=1\/i=2\/i=3\/i=4\/i=5\/i=6:=by omega
 unfold gK
 rcases this with rfl | rfl | rfl | rfl | rfl | rfl | rfl <;>simp <;>omega
theorem a0j {v:Int} (h0:0<=v) {i:Nat} (h8:i<=6):(2<=i->qj v i < 32)/\(i=1->32<=qj v i):=by
 have:i=0\/i=1\/i=2\/i=3\/i=4\/i=5\/i=6:=by omega
 unfold qj
 rcases this with rfl | rfl | rfl | rfl | rfl | rfl | rfl <;>simp <;>omega
inductive Ph (r : R) (n : Int) (s : ak) : Int → Int → Int → Prop
  | tok {j : Int} {T : PS} (b : Bn r n j (s.made + s.left) T) (l0 : 0 ≤ s.left) (m : Md s T) (p : s.part = 0) (nd : s.node = 1) (c : 0 < s.left → Cp r s) (z : Bz s) : Ph r n s T.L T.w T.k
  | byte {j : Int} {T : PS} {x : TS} {i : Nat} (b : Bn r n j (s.made + 1) T) (l0 : s.left = 0) (p : s.part = 1) (hi : i + 1 ≤ 8) (f : x.Fit)
      (g : (aZ 256 (r s.made.toNat) (i + 1) x).L = T.L ∧ (aZ 256 (r s.made.toNat) (i + 1) x).w = T.w ∧ (aZ 256 (r s.made.toNat) (i + 1) x).k = T.k ∧ (aZ 256 (r s.made.toNat) (i + 1) x).r = T.rb)
      (nd : s.node = x.a) (xa : x.a = gK 8 (r s.made.toNat) (i + 1)) (rb : s.rb = x.r) (m : s.cp = T.cp ∧ s.bh = T.bh ∧ s.rl = T.rl ∧ s.rd = T.rd) (z : Bz s) (t0 : s.tl = 0 ∧ s.td = 0) : Ph r n s x.L x.w x.k
  | len {j N D : Int} {T : PS} {x : TS} {i : Nat} (b : Bn r n j (s.made + N) T) (l0 : s.left = 0) (p : s.part = 2) (c : Kz r s.made N D) (hi : i + 1 ≤ 8) (f : x.Fit)
      (g : Gl T D (aZ 256 (N - 2) (i + 1) x) s.rd) (gr : (aZ 256 (N - 2) (i + 1) x).r = T.rl) (hr : ∀ q, 31 ≤ s.rd q ∧ s.rd q ≤ 2017)
      (nd : s.node = x.a) (xa : x.a = gK 8 (N - 2) (i + 1)) (rl : s.rl = x.r) (m : s.cp = T.cp ∧ s.bh = T.bh ∧ s.rb = T.rb) (tb : s.tb = 0) (z : Bz s) : Ph r n s x.L x.w x.k
  | upper {j N D : Int} {T : PS} {x : TS} {i : Nat} (b : Bn r n j (s.made + N) T) (l0 : s.left = 0) (p : s.part = 3) (c : Kz r s.made N D) (hi : i + 1 ≤ 6) (f : x.Fit)
      (g : Gu T D (aZ 64 ((D - 1) / 64) (i + 1) x)) (gr : (aZ 64 ((D - 1) / 64) (i + 1) x).r = T.rd)
      (nd : s.node = x.a) (xa : x.a = gK 6 ((D - 1) / 64) (i + 1)) (rd : s.rd = x.r) (m : s.cp = T.cp ∧ s.bh = T.bh ∧ s.rb = T.rb ∧ s.rl = T.rl) (tb : s.tb = 0) (tl : s.tl = N) (z : Bz s) : Ph r n s x.L x.w x.k
  | lower {j N D : Int} {T : PS} {y : HS} {i : Nat} (b : Bn r n j (s.made + N) T) (l0 : s.left = 0) (p : s.part = 4) (c : Kz r s.made N D) (hi : i + 1 ≤ 6) (f : 16777216 ≤ y.w ∧ y.w ≤ 4294967295 ∧ 0 ≤ y.k)
      (g : cF (D - 1) (i + 1) y = ⟨T.L, T.w, T.k⟩) (nd : s.node = qj (D - 1) (i + 1)) (m : Md s T) (tb : s.tb = 0) (tl : s.tl = N) (td : s.td = (D - 1) / 64 * 64) (z : Bz s) : Ph r n s y.L y.w y.k
theorem Ph.sO {r:R} {n:Int} {s:ak} {L w k:Int} (h:Ph r n s L w k):In (jY r n) (dk r n).toNat L w (4+k).toNat/\16777216<=w/\w<=4294967295/\0<=k/\s.made<=n:=by
 cases h with
 | tok b l0 m p nd c z=>exact⟨b.sO,b.fit.w0,b.fit.w1,b.k0,by have:=b.an; omega⟩
 | @byte j T x i b l0 p hi f g nd xa rb m z t0=>
  refine⟨X8 f (n:=256) (v:=r s.made.toNat) (i:=i+1) ?_,f.w0,f.w1,f.k,by have:=b.an; omega⟩
  rw[g.1,g.2.1,g.2.2.1]
  exact b.sO
 | @len j N D T x i b l0 p c hi f g gr hr nd xa rl m tb z=>
  have F1:=X7 (n:=256) (v:=N - 2) (i+1) f
  have F2:=X7 (n:=64) (v:=(D - 1) / 64) 6 (x:=⟨(aZ 256 (N - 2) (i+1) x).L,(aZ 256 (N - 2) (i+1) x).w,(aZ 256 (N - 2) (i+1) x).k,s.rd,1⟩) ⟨F1.w0,F1.w1,hr,F1.k⟩
  refine⟨X8 f (n:=256) (v:=N - 2) (i:=i+1) ?_,f.w0,f.w1,f.k,by have:=b.an; have:=c.1; omega⟩
  refine X8 (x:=⟨(aZ 256 (N - 2) (i+1) x).L,(aZ 256 (N - 2) (i+1) x).w,(aZ 256 (N - 2) (i+1) x).k,s.rd,1⟩) ⟨F1.w0,F1.w1,hr,F1.k⟩ (n:=64) (v:=(D - 1) / 64) (i:=6) ?_
  refine afl (x:=⟨_,_,_⟩) F2.w0 F2.w1 F2.k (d:=D - 1) (i:=6) ?_
  have g1:=g.1
  unfold Gu at g1
  rw[g1]
  exact b.sO
 | @upper j N D T x i b l0 p c hi f g gr nd xa rd m tb tl z=>
  have F1:=X7 (n:=64) (v:=(D - 1) / 64) (i+1) f
  refine⟨X8 f (n:=64) (v:=(D - 1) / 64) (i:=i+1) ?_,f.w0,f.w1,f.k,by have:=b.an; have:=c.1; omega⟩
  refine afl (x:=⟨_,_,_⟩) F1.w0 F1.w1 F1.k (d:=D - 1) (i:=6) ?_
  unfold Gu at g
  rw[g]
  exact b.sO
 | @lower j N D T y i b l0 p c hi f g nd m tb tl td z=>
  refine⟨afl f.1 f.2.1 f.2.2 (d:=D - 1) (i:=i+1) ?_,f.1,f.2.1,f.2.2,by have:=b.an; have:=c.1; omega⟩
  rw[g]
  exact b.sO
theorem Ph.i5 {r:R} {n:Int} {s:ak} {L w k:Int} (h:Ph r n s L w k):Ph r n s.i5 L w k:=by
 cases h with
 | tok b l0 m p nd c z=>exact .tok (s:=s.i5) b l0 ⟨m.cp,m.bh,m.rb,m.rl,m.rd⟩ p nd c z
 | byte b l0 p hi f g nd xa rb m z t0=>exact .byte (s:=s.i5) b l0 p hi f g nd xa rb m z t0
 | len b l0 p c hi f g gr hr nd xa rl m tb z=>exact .len (s:=s.i5) b l0 p c hi f g gr hr nd xa rl m tb z
 | upper b l0 p c hi f g gr nd xa rd m tb tl z=>exact .upper (s:=s.i5) b l0 p c hi f g gr nd xa rd m tb tl z
 | lower b l0 p c hi f g nd m tb tl td z=>exact .lower (s:=s.i5) b l0 p c hi f g nd ⟨m.cp,m.bh,m.rb,m.rl,m.rd⟩ tb tl td z
end Go.Lz
namespace Go.Lz
open Go.Z (R)
structure Cm (r:R) (n off base:Int) (s:ak):Prop where
 plain:s.plain=n
 made:s.made=base+s.ol
 GA:0<=base
 ol:0<=s.ol/\s.ol<=128
 dL:∀q:Nat,(q:Int) < s.made->s.dL q=r q
 out:∀q:Nat,(q:Int) < s.ol->s.out q=r (base.toNat+q)
 nn:s.n=((dk r n).toNat:Int) - off
 pe:0<=off
 used:0<=s.used/\s.used<=s.n
 fw:∀q:Nat,(q:Int) < s.n->s.fw q=be (jY r n) (dk r n).toNat (off.toNat+q)
 ax:0<=s.ax/\s.ax<=4
 xk:∀q,0<=s.dL q/\s.dL q<=255
 pk:∀q,0<=s.out q/\s.out q<=255
def Good (r:R) (n off base:Int) (s:ak):Prop:=Cm r n off base s/\∃L w k,Ph r n s L w k/\hY (jY r n) (dk r n).toNat off s L w k
theorem Ph.dh {r:R} {n:Int} {s:ak} {L w k:Int} (h:Ph r n s L w k) (c x y:Int):Ph r n {s with c:=c,w:=x,ax:=y} L w k:=by
 cases h with
 | tok b l0 m p nd c z=>exact .tok b l0 ⟨m.cp,m.bh,m.rb,m.rl,m.rd⟩ p nd c z
 | byte b l0 p hi f g nd xa rb m z t0=>exact .byte b l0 p hi f g nd xa rb m z t0
 | len b l0 p c hi f g gr hr nd xa rl m tb z=>exact .len b l0 p c hi f g gr hr nd xa rl m tb z
 | upper b l0 p c hi f g gr nd xa rd m tb tl z=>exact .upper b l0 p c hi f g gr nd xa rd m tb tl z
 | lower b l0 p c hi f g nd m tb tl td z=>exact .lower b l0 p c hi f g nd ⟨m.cp,m.bh,m.rb,m.rl,m.rd⟩ tb tl td z
theorem zA:(0:Int)<=0/\(0:Int)<=257:=by decide
theorem zB:(0:Int)<=0/\(0:Int)<=4096:=by decide
theorem zC:(0:Int)<=0/\(0:Int)<=255:=by decide
structure ib (s t:ak):Prop where
 plain:t.plain=s.plain
 made:t.made=s.made
 ol:t.ol=s.ol
 dL:t.dL=s.dL
 out:t.out=s.out
 n:t.n=s.n
 used:t.used=s.used
 fw:t.fw=s.fw
 st:t.st=s.st
theorem Cm.G8 {r:R} {n off base:Int} {s t:ak} (c:Cm r n off base s) (e:ib s t) (hn:0<=t.ax/\t.ax<=4):Cm r n off base t:=by
 obtain⟨e1,e2,e3,e4,e5,e6,e7,e8,_⟩:=e
 refine⟨by rw[e1]; exact c.plain,by rw[e2,e3]; exact c.made,c.GA,by rw[e3]; exact c.ol,by rw[e2,e4]; exact c.dL,by rw[e3,e5]; exact c.out,by rw[e6]; exact c.nn,c.pe,by rw[e6,e7]; exact c.used,by rw[e6,e8]; exact c.fw,hn,by rw[e4]; exact c.xk,by rw[e5]; exact c.pk⟩
theorem ayI {s t:ak} (n0:s.ax=0) (e:ib s t) (h:t.w - t.ax*4294967296 < s.w):t.mu < s.mu:=by
 obtain⟨e1,e2,e3,e4,e5,e6,e7,e8,e9⟩:=e
 unfold ak.mu
 rw[e1,e2,e6,e7,e9,n0]
 omega
section
variable {r:R} {n off base:Int} {s t1:ak} {L w k p b:Int}
theorem D7 (g:Cm r n off base s) (d:hY (jY r n) (dk r n).toNat off s L w k) (hw:16777216<=w) (hw':w<=4294967295) (hk:0<=k) (hb:b=0\/b=1) (h1:Ph r n t1 (jB L w p b) (aM w p b) (k+bq w p b)) (e:ib s t1) (hn:¬0 < s.ax):dO s.c s.w p=b/\Good r n off base {t1 with c:=kz s.c s.w p,w:=aM s.w p b,ax:=bq s.w p b}/\({t1 with c:=kz s.c s.w p,w:=aM s.w p b,ax:=bq s.w p b}:ak).mu < s.mu:=by
 have hi:=h1.sO.1
 obtain⟨hd,hdec⟩:=d.bit hw hw' hb hk hi hn
 have hn0:s.ax=0:=by have:=g.ax; omega
 have b2:=At s.w p b
 have e2:ib s {t1 with c:=kz s.c s.w p,w:=aM s.w p b,ax:=bq s.w p b}:=⟨e.plain,e.made,e.ol,e.dL,e.out,e.n,e.used,e.fw,e.st⟩
 refine⟨hd,⟨g.G8 e2 (show 0<=bq s.w p b/\bq s.w p b<=4 by omega),_,_,_,h1.dh _ _ _,hdec.G8 ⟨rfl,?_,?_,e.used⟩⟩,ayI hn0 e2 ?_⟩
 .show aM s.w p b=aM s.w p (dO s.c s.w p)
  rw[hd]
 .show bq s.w p b=bq s.w p (dO s.c s.w p)
  rw[hd]
 .have i0:In (jY r n) (dk r n).toNat L w (4+k).toNat:=by
   have bn:=At w p b
   exact (In.bit (p:=p) hw hw' hb (by rw[show (4+k).toNat+(bq w p b).toNat=(4+(k+bq w p b)).toNat by omega]; exact hi)).1
  have l:=d.lt i0 hn
  have f:=atG (p:=p) (d.Wu i0) l.2 (by rw[d.w]; exact hw) (by rw[d.w]; exact hw')
  rw[hd] at f
  exact f.2.2.2
theorem aEB (g:Cm r n off base s) (d:hY (jY r n) (dk r n).toNat off s L w k) (hw:16777216<=w) (hw':w<=4294967295) (hk:0<=k) (hb:b=0\/b=1) (h1:Ph r n t1 (wC L w b) (gD w) (k+eL w)) (e:ib s t1) (hn:¬0 < s.ax):o7 s.c s.w=b/\Good r n off base {t1 with c:=o6 s.c s.w,w:=gD s.w,ax:=eL s.w}/\({t1 with c:=o6 s.c s.w,w:=gD s.w,ax:=eL s.w}:ak).mu < s.mu:=by
 have hi:=h1.sO.1
 obtain⟨hd,hdec⟩:=d.aSW hw hw' hb hk hi hn
 have hn0:s.ax=0:=by have:=g.ax; omega
 have b2:=O0 s.w
 have e2:ib s {t1 with c:=o6 s.c s.w,w:=gD s.w,ax:=eL s.w}:=⟨e.plain,e.made,e.ol,e.dL,e.out,e.n,e.used,e.fw,e.st⟩
 refine⟨hd,⟨g.G8 e2 (show 0<=eL s.w/\eL s.w<=4 by omega),_,_,_,h1.dh _ _ _,hdec.G8 ⟨rfl,rfl,rfl,e.used⟩⟩,ayI hn0 e2 ?_⟩
 have i0:In (jY r n) (dk r n).toNat L w (4+k).toNat:=by
  have bn:=O0 w
  exact (In.half hw hw' hb (by rw[show (4+k).toNat+(eL w).toNat=(4+(k+eL w)).toNat by omega]; exact hi)).1
 have l:=d.lt i0 hn
 exact (auN (d.Wu i0) l.2 (by rw[d.w]; exact hw) (by rw[d.w]; exact hw')).2.2.2
end
section
variable {r:R} {n off base:Int} {s:ak}
theorem aTy {j:Int} {S:PS} (h8:n<=4095) (hr:∀q,0<=r q/\r q<=255) (g:Cm r n off base s) (b:Bn r n j s.made S) (hl:s.left=0) (m:Md s S) (d:hY (jY r n) (dk r n).toNat off s S.L S.w S.k) (hm:s.made < n) (hn:¬0 < s.ax) (z:Bz s):Good r n off base s.kind/\s.kind.mu < s.mu:=by
 have b':=b.next om hm
 have a0:=b.a0
 have bw:=b.fit
 have k0:=b.k0
 have hcp:s.cp s.bh.toNat=S.cp S.bh.toNat:=by rw[m.cp,m.bh]
 by_cases hc:0 < bN r n s.made
 .have gd:=Uz r a0 hm hc
  have e0:fi r n s.made=bN r n s.made:=if_pos hc
  have e1:fH r n s.made=bD r n s.made:=if_pos hc
  have e2:fY r n s.made=bN r n s.made:=if_pos hc
  rw[e0,e1,e2] at b'
  generalize bN r n s.made=N at*
  generalize bD r n s.made=D at*
  have eT:cg N D (fI r n s.made) S=mD N D S:=if_neg om
  rw[eT] at b'
  have w1:=Ks S.w (S.cp S.bh.toNat) 1
  have n1:=At S.w (S.cp S.bh.toNat) 1
  obtain⟨t1,t2,t3,t4⟩:=ak5 (n:=256) (v:=N - 2) (L:=jB S.L S.w (S.cp S.bh.toNat) 1) (k:=S.k+bq S.w (S.cp S.bh.toNat) 1) (i:=7) w1.1 w1.2 bw.rl dc dc
  have w2:=LQ (aM S.w (S.cp S.bh.toNat) 1) S.rl 256 (N - 2) 1 7
  obtain⟨u1,u2,u3,u4⟩:=ak5 (n:=64) (v:=(D - 1) / 64) (L:=tL (jB S.L S.w (S.cp S.bh.toNat) 1) (aM S.w (S.cp S.bh.toNat) 1) S.rl 256 (N - 2) 1 7) (k:=S.k+bq S.w (S.cp S.bh.toNat) 1+tK (aM S.w (S.cp S.bh.toNat) 1) S.rl 256 (N - 2) 1 7) (i:=5) w2.1 w2.2 bw.rd dc dc
  have w3:=LQ (tW (aM S.w (S.cp S.bh.toNat) 1) S.rl 256 (N - 2) 1 7) S.rd 64 ((D - 1) / 64) 1 5
  obtain⟨v1,v2,v3⟩:=aSZ (d:=D - 1) (L:=tL (tL (jB S.L S.w (S.cp S.bh.toNat) 1) (aM S.w (S.cp S.bh.toNat) 1) S.rl 256 (N - 2) 1 7) (tW (aM S.w (S.cp S.bh.toNat) 1) S.rl 256 (N - 2) 1 7) S.rd 64 ((D - 1) / 64) 1 5) (k:=S.k+bq S.w (S.cp S.bh.toNat) 1+tK (aM S.w (S.cp S.bh.toNat) 1) S.rl 256 (N - 2) 1 7+tK (tW (aM S.w (S.cp S.bh.toNat) 1) S.rl 256 (N - 2) 1 7) S.rd 64 ((D - 1) / 64) 1 5) (i:=5) w3.1 w3.2 dc dc
  have P:Ph r n {s with cp:=Lz.dh s.cp s.bh (adapt (s.cp s.bh.toNat) 1),bh:=1,tl:=0,td:=0,tb:=0,node:=1,part:=2,left:=0} (jB S.L S.w (S.cp S.bh.toNat) 1) (aM S.w (S.cp S.bh.toNat) 1) (S.k+bq S.w (S.cp S.bh.toNat) 1):=by
   refine Ph.len (i:=7) (N:=N) (D:=D) (T:=mD N D S) (x:=⟨jB S.L S.w (S.cp S.bh.toNat) 1,aM S.w (S.cp S.bh.toNat) 1,S.k+bq S.w (S.cp S.bh.toNat) 1,S.rl,1⟩) b' rfl rfl ⟨by omega,gd.2.1,gd.2.2.2.1,gd.2.2.2.2.1,gd.2.2.2.2.2.1,gd.2.2.2.2.2.2⟩ dc ⟨w1.1,w1.2,bw.rl,by show 0<=S.k+_; omega⟩ ?_ ?_ (by show ∀q,31<=s.rd q/\s.rd q<=2017; rw[m.rd]; exact bw.rd) rfl ?_ m.rl ⟨?_,rfl,m.rb⟩ rfl ⟨zA,zB,zC,z.2.2.2.1,z.2.2.2.2.1,z.2.2.2.2.2.1,zA.2⟩
   .rw[show ((7:Int)+1).toNat=7+1 by decide] at t1 t2 t3
    rw[show ((5:Int)+1).toNat=6 by decide] at u1 u2 u3 u4 v1 v2 v3
    unfold Gl Gu
    rw[<- t1,<- t2,<- t3,show ({s with cp:=Lz.dh s.cp s.bh (adapt (s.cp s.bh.toNat) 1),bh:=1,tl:=0,td:=0,tb:=0,node:=1,part:=2,left:=0}:ak).rd=s.rd from rfl,m.rd,<- u1,<- u2,<- u3,<- u4]
    refine⟨?_,rfl⟩
    have:∀h:HS,h=⟨h.L,h.w,h.k⟩:=λ_=>rfl
    rw[this (cF _ _ _),<- v1,<- v2,<- v3]
    unfold mD
    simp only[Int.add_assoc]
   .rw[show (7:Int)+1=8 from rfl] at t4
    exact t4.symm
   .unfold gK
    show (1:Int)=2 ^ (8 - (7+1))+(N - 2) / 2 ^ (7+1)
    simp
    omega
   .show Lz.dh s.cp s.bh (adapt (s.cp s.bh.toNat) 1)=Lz.dh S.cp S.bh (adapt (S.cp S.bh.toNat) 1)
    rw[m.cp,m.bh]
  have:=D7 g d bw.w0 bw.w1 k0 (.inr rfl) P ⟨rfl,rfl,rfl,rfl,rfl,rfl,rfl,rfl,rfl⟩ hn
  rw[<- hcp] at this
  have e:s.kind={s with cp:=Lz.dh s.cp s.bh (adapt (s.cp s.bh.toNat) 1),bh:=1,tl:=0,td:=0,tb:=0,node:=1,part:=2,left:=0,c:=kz s.c s.w (s.cp s.bh.toNat),w:=aM s.w (s.cp s.bh.toNat) 1,ax:=bq s.w (s.cp s.bh.toNat) 1}:=by
   simp only[ak.kind,ak.dec,this.1,if_pos]
  rw[e]
  exact this.2
 .have e0:fi r n s.made=0:=if_neg hc
  have e2:fY r n s.made=1:=if_neg hc
  have e3:fI r n s.made=r s.made.toNat:=if_neg hc
  rw[e0,e2,e3] at b'
  have eT:cg 0 (fH r n s.made) (r s.made.toNat) S=mI (r s.made.toNat) S:=if_pos rfl
  rw[eT] at b'
  have w1:=Ks S.w (S.cp S.bh.toNat) 0
  have n1:=At S.w (S.cp S.bh.toNat) 0
  obtain⟨t1,t2,t3,t4⟩:=ak5 (n:=256) (v:=r s.made.toNat) (L:=jB S.L S.w (S.cp S.bh.toNat) 0) (k:=S.k+bq S.w (S.cp S.bh.toNat) 0) (i:=7) w1.1 w1.2 bw.rb dc dc
  have hv:=hr s.made.toNat
  have P:Ph r n {s with cp:=Lz.dh s.cp s.bh (adapt (s.cp s.bh.toNat) 0),bh:=0,tl:=0,td:=0,tb:=0,node:=1,part:=1,left:=0} (jB S.L S.w (S.cp S.bh.toNat) 0) (aM S.w (S.cp S.bh.toNat) 0) (S.k+bq S.w (S.cp S.bh.toNat) 0):=by
   refine Ph.byte (i:=7) (T:=mI (r s.made.toNat) S) (x:=⟨jB S.L S.w (S.cp S.bh.toNat) 0,aM S.w (S.cp S.bh.toNat) 0,S.k+bq S.w (S.cp S.bh.toNat) 0,S.rb,1⟩) b' rfl rfl dc ⟨w1.1,w1.2,bw.rb,by show 0<=S.k+_; omega⟩ ?_ rfl ?_ m.rb ⟨?_,rfl,m.rl,m.rd⟩ ⟨zA,zB,zC,z.2.2.2.1,z.2.2.2.2.1,z.2.2.2.2.2.1,zA.2⟩ ⟨rfl,rfl⟩
   .rw[show ((7:Int)+1).toNat=7+1 by decide] at t1 t2 t3 t4
    refine⟨t1.symm,t2.symm,?_,t4.symm⟩
    rw[show ({s with cp:=Lz.dh s.cp s.bh (adapt (s.cp s.bh.toNat) 0),bh:=0,tl:=0,td:=0,tb:=0,node:=1,part:=1,left:=0}:ak).made=s.made from rfl,<- t3]
    unfold mI
    simp only[Int.add_assoc]
   .unfold gK
    show (1:Int)=2 ^ (8 - (7+1))+r s.made.toNat / 2 ^ (7+1)
    simp
    omega
   .show Lz.dh s.cp s.bh (adapt (s.cp s.bh.toNat) 0)=Lz.dh S.cp S.bh (adapt (S.cp S.bh.toNat) 0)
    rw[m.cp,m.bh]
  have:=D7 g d bw.w0 bw.w1 k0 (.inl rfl) P ⟨rfl,rfl,rfl,rfl,rfl,rfl,rfl,rfl,rfl⟩ hn
  rw[<- hcp] at this
  have e:s.kind={s with cp:=Lz.dh s.cp s.bh (adapt (s.cp s.bh.toNat) 0),bh:=0,tl:=0,td:=0,tb:=0,node:=1,part:=1,left:=0,c:=kz s.c s.w (s.cp s.bh.toNat),w:=aM s.w (s.cp s.bh.toNat) 0,ax:=bq s.w (s.cp s.bh.toNat) 0}:=by
   simp only[ak.kind,ak.dec,this.1]
   rfl
  rw[e]
  exact this.2
end
end Go.Lz
namespace Go.Lz
open Go.Z (R)
section
variable {r:R} {n off base:Int} {s:ak}
theorem aQF {j:Int} {T:PS} {x:TS} {i:Nat} (hr:∀q,0<=r q/\r q<=255) (g:Cm r n off base s) (d:hY (jY r n) (dk r n).toNat off s x.L x.w x.k) (hn:¬0 < s.ax) (b:Bn r n j (s.made+1) T) (l0:s.left=0) (p:s.part=1) (hi:i+1<=8) (f:x.Fit) (gt:(aZ 256 (r s.made.toNat) (i+1) x).L=T.L/\(aZ 256 (r s.made.toNat) (i+1) x).w=T.w/\(aZ 256 (r s.made.toNat) (i+1) x).k=T.k/\(aZ 256 (r s.made.toNat) (i+1) x).r=T.rb) (nd:s.node=x.a) (xa:x.a=gK 8 (r s.made.toNat) (i+1)) (rb:s.rb=x.r) (m:s.cp=T.cp/\s.bh=T.bh/\s.rl=T.rl/\s.rd=T.rd) (z:Bz s) (t0:s.tl=0/\s.td=0):Good r n off base s.take/\s.take.mu < s.mu:=by
 have hv:=hr s.made.toNat
 have n8:=ayZ hv.1 hv.2 hi
 have h0:¬s.part=0:=by omega
 have nx:=agV hi (r s.made.toNat)
 have b01:=Kr (r s.made.toNat) i
 rw[Bh] at gt
 generalize eb:r s.made.toNat / 2 ^ i % 2=b0 at gt nx b01
 have at_:atR x.r 256 x.a=atR s.rb 256 s.node:=by rw[rb,nd]
 by_cases hi1:i=0
 .subst hi1
  have hz:s.node*2+(b0+-256)=r s.made.toNat:=by
   rw[nd,xa]
   have:gK 8 (r s.made.toNat) 0=256+r s.made.toNat:=by unfold gK; simp
   omega
  have hz2:0<=s.node*2+(b0+-256)/\s.node*2+(b0+-256)<=255:=by rw[hz]; exact hv
  have P:Ph r n {s with rb:=dq s.rb 256 s.node b0,tl:=0,td:=0,tb:=s.node*2+(b0+-256),node:=1,part:=0,zl:=0,zd:=0,zb:=s.node*2+(b0+-256),left:=1} (cU 256 b0 x).L (cU 256 b0 x).w (cU 256 b0 x).k:=by
   unfold aZ at gt
   rw[gt.1,gt.2.1,gt.2.2.1]
   refine Ph.tok b (show (0:Int)<=1 by decide) ⟨m.1,m.2.1,?_,m.2.2.1,m.2.2.2⟩ rfl rfl (λ_=>.inl ⟨rfl,rfl,hz,rfl⟩) ⟨zA,zB,hz2,zA,zB,hz2,(by decide:(1:Int)<=257)⟩
   rw[<- gt.2.2.2]
   show dq s.rb 256 s.node b0=dq x.r 256 x.a b0
   rw[rb,nd]
  have:=D7 (t1:={s with rb:=dq s.rb 256 s.node b0,tl:=0,td:=0,tb:=s.node*2+(b0+-256),node:=1,part:=0,zl:=0,zd:=0,zb:=s.node*2+(b0+-256),left:=1}) (p:=atR x.r 256 x.a) (b:=b0) g d f.w0 f.w1 f.k b01 P ⟨rfl,rfl,rfl,rfl,rfl,rfl,rfl,rfl,rfl⟩ hn
  rw[at_] at this
  have e:s.UK={s with rb:=dq s.rb 256 s.node b0,tl:=0,td:=0,tb:=s.node*2+(b0+-256),node:=1,part:=0,zl:=0,zd:=0,zb:=s.node*2+(b0+-256),left:=1,c:=kz s.c s.w (atR s.rb 256 s.node),w:=aM s.w (atR s.rb 256 s.node) b0,ax:=bq s.w (atR s.rb 256 s.node) b0}:=by
   simp only[ak.UK,ak.dec,this.1]
  rw[aEJ h0 p (by rw[nd,xa]; exact n8.2 rfl),e]
  exact this.2
 .have P:Ph r n {s with rb:=dq s.rb 256 s.node b0,node:=s.node*2+b0,part:=1,left:=0} (cU 256 b0 x).L (cU 256 b0 x).w (cU 256 b0 x).k:=by
   obtain⟨i',rfl⟩:∃i',i=i'+1:=⟨i - 1,by omega⟩
   refine Ph.byte (i:=i') (T:=T) (x:=cU 256 b0 x) b rfl rfl om (LV f) gt ?_ ?_ ?_ m ⟨z.1,z.2.1,z.2.2.1,z.2.2.2.1,z.2.2.2.2.1,z.2.2.2.2.2.1,zA.2⟩ t0
   .show s.node*2+b0=2*x.a+b0
    rw[nd]; omega
   .show 2*x.a+b0=gK 8 (r s.made.toNat) (i'+1)
    rw[xa]; exact nx
   .show dq s.rb 256 s.node b0=dq x.r 256 x.a b0
    rw[rb,nd]
  have:=D7 (t1:={s with rb:=dq s.rb 256 s.node b0,node:=s.node*2+b0,part:=1,left:=0}) (p:=atR x.r 256 x.a) (b:=b0) g d f.w0 f.w1 f.k b01 P ⟨rfl,rfl,rfl,rfl,rfl,rfl,rfl,rfl,rfl⟩ hn
  rw[at_] at this
  have e:s.UJ={s with rb:=dq s.rb 256 s.node b0,node:=s.node*2+b0,part:=1,left:=0,c:=kz s.c s.w (atR s.rb 256 s.node),w:=aM s.w (atR s.rb 256 s.node) b0,ax:=bq s.w (atR s.rb 256 s.node) b0}:=by
   simp only[ak.UJ,ak.dec,this.1]
  rw[aEI h0 p (by rw[nd,xa]; exact n8.1 om),e]
  exact this.2
theorem aTF {j N D:Int} {T:PS} {x:TS} {i:Nat} (g:Cm r n off base s) (d:hY (jY r n) (dk r n).toNat off s x.L x.w x.k) (hn:¬0 < s.ax) (b:Bn r n j (s.made+N) T) (l0:s.left=0) (p:s.part=2) (c:Kz r s.made N D) (hi:i+1<=8) (f:x.Fit) (gt:Gl T D (aZ 256 (N - 2) (i+1) x) s.rd) (gr:(aZ 256 (N - 2) (i+1) x).r=T.rl) (hr:∀q,31<=s.rd q/\s.rd q<=2017) (nd:s.node=x.a) (xa:x.a=gK 8 (N - 2) (i+1)) (rl:s.rl=x.r) (m:s.cp=T.cp/\s.bh=T.bh/\s.rb=T.rb) (tb:s.tb=0) (z:Bz s):Good r n off base s.take/\s.take.mu < s.mu:=by
 have n8:=ayZ (v:=N - 2) (by have:=c.1; omega) (by have:=c.2.1; omega) hi
 have h0:¬s.part=0:=by omega
 have h1:¬s.part=1:=by omega
 have nx:=agV hi (N - 2)
 have b01:=Kr (N - 2) i
 rw[Bh] at gt gr
 generalize eb:(N - 2) / 2 ^ i % 2=b0 at gt gr nx b01
 have at_:atR x.r 256 x.a=atR s.rl 256 s.node:=by rw[rl,nd]
 by_cases hi1:i=0
 .subst hi1
  have hz:s.node*2+(b0+-254)=N:=by
   rw[nd,xa]
   have:gK 8 (N - 2) 0=256+(N - 2):=by unfold gK; simp
   omega
  have hz2:0<=s.node*2+(b0+-254)/\s.node*2+(b0+-254)<=257:=by rw[hz]; exact⟨by have:=c.1; omega,c.2.1⟩
  have P:Ph r n {s with rl:=dq s.rl 256 s.node b0,tl:=s.node*2+(b0+-254),node:=1,part:=3,left:=0} (cU 256 b0 x).L (cU 256 b0 x).w (cU 256 b0 x).k:=by
   unfold aZ at gt gr
   have fs:=LV (n:=256) (b:=b0) f
   refine Ph.upper (i:=5) (T:=T) (D:=D) (N:=N) (x:=⟨(cU 256 b0 x).L,(cU 256 b0 x).w,(cU 256 b0 x).k,s.rd,1⟩) b rfl rfl c dc ⟨fs.w0,fs.w1,hr,fs.k⟩ gt.1 gt.2 rfl ?_ rfl ⟨m.1,m.2.1,m.2.2,?_⟩ tb hz ⟨hz2,z.2.1,z.2.2.1,z.2.2.2.1,z.2.2.2.2.1,z.2.2.2.2.2.1,zA.2⟩
   .unfold gK
    have:=c.2.2
    show (1:Int)=2 ^ (6 - (5+1))+(D - 1) / 64 / 2 ^ (5+1)
    simp
    omega
   .rw[<- gr]
    show dq s.rl 256 s.node b0=dq x.r 256 x.a b0
    rw[rl,nd]
  have:=D7 (t1:={s with rl:=dq s.rl 256 s.node b0,tl:=s.node*2+(b0+-254),node:=1,part:=3,left:=0}) (p:=atR x.r 256 x.a) (b:=b0) g d f.w0 f.w1 f.k b01 P ⟨rfl,rfl,rfl,rfl,rfl,rfl,rfl,rfl,rfl⟩ hn
  rw[at_] at this
  have e:s.VQ={s with rl:=dq s.rl 256 s.node b0,tl:=s.node*2+(b0+-254),node:=1,part:=3,left:=0,c:=kz s.c s.w (atR s.rl 256 s.node),w:=aM s.w (atR s.rl 256 s.node) b0,ax:=bq s.w (atR s.rl 256 s.node) b0}:=by
   simp only[ak.VQ,ak.dec,this.1]
  rw[aEL h0 h1 p (by rw[nd,xa]; exact n8.2 rfl),e]
  exact this.2
 .have P:Ph r n {s with rl:=dq s.rl 256 s.node b0,node:=s.node*2+b0,part:=2,left:=0} (cU 256 b0 x).L (cU 256 b0 x).w (cU 256 b0 x).k:=by
   obtain⟨i',rfl⟩:∃i',i=i'+1:=⟨i - 1,by omega⟩
   refine Ph.len (i:=i') (T:=T) (D:=D) (N:=N) (x:=cU 256 b0 x) b rfl rfl c om (LV f) gt gr hr ?_ ?_ ?_ m tb ⟨z.1,z.2.1,z.2.2.1,z.2.2.2.1,z.2.2.2.2.1,z.2.2.2.2.2.1,zA.2⟩
   .show s.node*2+b0=2*x.a+b0
    rw[nd]; omega
   .show 2*x.a+b0=gK 8 (N - 2) (i'+1)
    rw[xa]; exact nx
   .show dq s.rl 256 s.node b0=dq x.r 256 x.a b0
    rw[rl,nd]
  have:=D7 (t1:={s with rl:=dq s.rl 256 s.node b0,node:=s.node*2+b0,part:=2,left:=0}) (p:=atR x.r 256 x.a) (b:=b0) g d f.w0 f.w1 f.k b01 P ⟨rfl,rfl,rfl,rfl,rfl,rfl,rfl,rfl,rfl⟩ hn
  rw[at_] at this
  have e:s.VP={s with rl:=dq s.rl 256 s.node b0,node:=s.node*2+b0,part:=2,left:=0,c:=kz s.c s.w (atR s.rl 256 s.node),w:=aM s.w (atR s.rl 256 s.node) b0,ax:=bq s.w (atR s.rl 256 s.node) b0}:=by
   simp only[ak.VP,ak.dec,this.1]
  rw[aEK h0 h1 p (by rw[nd,xa]; exact n8.1 om),e]
  exact this.2
theorem a_n {j N D:Int} {T:PS} {x:TS} {i:Nat} (g:Cm r n off base s) (d:hY (jY r n) (dk r n).toNat off s x.L x.w x.k) (hn:¬0 < s.ax) (b:Bn r n j (s.made+N) T) (l0:s.left=0) (p:s.part=3) (c:Kz r s.made N D) (hi:i+1<=6) (f:x.Fit) (gt:Gu T D (aZ 64 ((D - 1) / 64) (i+1) x)) (gr:(aZ 64 ((D - 1) / 64) (i+1) x).r=T.rd) (nd:s.node=x.a) (xa:x.a=gK 6 ((D - 1) / 64) (i+1)) (rd:s.rd=x.r) (m:s.cp=T.cp/\s.bh=T.bh/\s.rb=T.rb/\s.rl=T.rl) (tb:s.tb=0) (tl:s.tl=N) (z:Bz s):Good r n off base s.take/\s.take.mu < s.mu:=by
 have c2:=c.2.2
 have n8:=a0m (v:=(D - 1) / 64) om om hi
 have h0:¬s.part=0:=by omega
 have h1:¬s.part=1:=by omega
 have h2:¬s.part=2:=by omega
 have nx:=agV hi ((D - 1) / 64)
 have b01:=Kr ((D - 1) / 64) i
 rw[Bh] at gt gr
 generalize eb:(D - 1) / 64 / 2 ^ i % 2=b0 at gt gr nx b01
 have at_:atR x.r 64 x.a=atR s.rd 64 s.node:=by rw[rd,nd]
 by_cases hi1:i=0
 .subst hi1
  have hz:b0*64+(s.node*128+-4096)=(D - 1) / 64*64:=by
   rw[nd,xa]
   have:gK 6 ((D - 1) / 64) 0=64+(D - 1) / 64:=by unfold gK; simp
   omega
  have hz2:0<=b0*64+(s.node*128+-4096)/\b0*64+(s.node*128+-4096)<=4096:=by rw[hz]; omega
  have P:Ph r n {s with rd:=dq s.rd 64 s.node b0,td:=b0*64+(s.node*128+-4096),node:=1,part:=4,left:=0} (cU 64 b0 x).L (cU 64 b0 x).w (cU 64 b0 x).k:=by
   unfold aZ at gt gr
   have fs:=LV (n:=64) (b:=b0) f
   refine Ph.lower (i:=5) (T:=T) (D:=D) (N:=N) (y:=⟨(cU 64 b0 x).L,(cU 64 b0 x).w,(cU 64 b0 x).k⟩) b rfl rfl c dc ⟨fs.w0,fs.w1,fs.k⟩ gt ?_ ⟨m.1,m.2.1,m.2.2.1,m.2.2.2,?_⟩ tb tl hz ⟨z.1,hz2,z.2.2.1,z.2.2.2.1,z.2.2.2.2.1,z.2.2.2.2.2.1,zA.2⟩
   .unfold qj
    show (1:Int)=2 ^ (6 - (5+1))+(D - 1) / 2 ^ (5+1) - (D - 1) / 64*2 ^ (6 - (5+1))
    simp
   .rw[<- gr]
    show dq s.rd 64 s.node b0=dq x.r 64 x.a b0
    rw[rd,nd]
  have:=D7 (t1:={s with rd:=dq s.rd 64 s.node b0,td:=b0*64+(s.node*128+-4096),node:=1,part:=4,left:=0}) (p:=atR x.r 64 x.a) (b:=b0) g d f.w0 f.w1 f.k b01 P ⟨rfl,rfl,rfl,rfl,rfl,rfl,rfl,rfl,rfl⟩ hn
  rw[at_] at this
  have e:s.Yp={s with rd:=dq s.rd 64 s.node b0,td:=b0*64+(s.node*128+-4096),node:=1,part:=4,left:=0,c:=kz s.c s.w (atR s.rd 64 s.node),w:=aM s.w (atR s.rd 64 s.node) b0,ax:=bq s.w (atR s.rd 64 s.node) b0}:=by
   simp only[ak.Yp,ak.dec,this.1]
  rw[aEP h0 h1 h2 p (by rw[nd,xa]; exact n8.2 rfl),e]
  exact this.2
 .have P:Ph r n {s with rd:=dq s.rd 64 s.node b0,node:=s.node*2+b0,part:=3,left:=0} (cU 64 b0 x).L (cU 64 b0 x).w (cU 64 b0 x).k:=by
   obtain⟨i',rfl⟩:∃i',i=i'+1:=⟨i - 1,by omega⟩
   refine Ph.upper (i:=i') (T:=T) (D:=D) (N:=N) (x:=cU 64 b0 x) b rfl rfl c om (LV f) gt gr ?_ ?_ ?_ m tb tl ⟨z.1,z.2.1,z.2.2.1,z.2.2.2.1,z.2.2.2.2.1,z.2.2.2.2.2.1,zA.2⟩
   .show s.node*2+b0=2*x.a+b0
    rw[nd]; omega
   .show 2*x.a+b0=gK 6 ((D - 1) / 64) (i'+1)
    rw[xa]; exact nx
   .show dq s.rd 64 s.node b0=dq x.r 64 x.a b0
    rw[rd,nd]
  have:=D7 (t1:={s with rd:=dq s.rd 64 s.node b0,node:=s.node*2+b0,part:=3,left:=0}) (p:=atR x.r 64 x.a) (b:=b0) g d f.w0 f.w1 f.k b01 P ⟨rfl,rfl,rfl,rfl,rfl,rfl,rfl,rfl,rfl⟩ hn
  rw[at_] at this
  have e:s.Yo={s with rd:=dq s.rd 64 s.node b0,node:=s.node*2+b0,part:=3,left:=0,c:=kz s.c s.w (atR s.rd 64 s.node),w:=aM s.w (atR s.rd 64 s.node) b0,ax:=bq s.w (atR s.rd 64 s.node) b0}:=by
   simp only[ak.Yo,ak.dec,this.1]
  rw[aEO h0 h1 h2 p (by rw[nd,xa]; exact n8.1 om),e]
  exact this.2
theorem aUp {j N D:Int} {T:PS} {y:HS} {i:Nat} (g:Cm r n off base s) (d:hY (jY r n) (dk r n).toNat off s y.L y.w y.k) (hn:¬0 < s.ax) (b:Bn r n j (s.made+N) T) (l0:s.left=0) (p:s.part=4) (c:Kz r s.made N D) (hi:i+1<=6) (f:16777216<=y.w/\y.w<=4294967295/\0<=y.k) (gt:cF (D - 1) (i+1) y=⟨T.L,T.w,T.k⟩) (nd:s.node=qj (D - 1) (i+1)) (m:Md s T) (tb:s.tb=0) (tl:s.tl=N) (td:s.td=(D - 1) / 64*64) (z:Bz s):(Good r n off base s.take/\s.take.mu < s.mu)/\s.take.st=s.st:=by
 have c1:=c.1
 have c2:=c.2.2
 have n8:=a0j (v:=D - 1) om hi
 have h0:¬s.part=0:=by omega
 have h1:¬s.part=1:=by omega
 have h2:¬s.part=2:=by omega
 have h3:¬s.part=3:=by omega
 have nx:=a0l hi (D - 1)
 have b01:=Kr (D - 1) i
 have an:=b.an
 have hp:=g.plain
 rw[OY] at gt
 generalize eb:(D - 1) / 2 ^ i % 2=b0 at gt nx b01
 have fb:=auM y.w
 have fk:=O0 y.w
 by_cases hi1:i=0
 .subst hi1
  have hfar:s.td+(b0+(s.node*2+-63))=D:=by
   rw[nd,td]
   have:qj (D - 1) 0=64+(D - 1) - (D - 1) / 64*64:=by unfold qj; simp
   omega
  have P:Ph r n {s with td:=D,node:=1,part:=0,zl:=s.tl,zd:=D,zb:=s.tb,left:=s.tl} (gJ b0 y).L (gJ b0 y).w (gJ b0 y).k:=by
   unfold cF at gt
   have e1:(gJ b0 y).L=T.L:=by rw[gt]
   have e2:(gJ b0 y).w=T.w:=by rw[gt]
   have e3:(gJ b0 y).k=T.k:=by rw[gt]
   rw[e1,e2,e3]
   refine Ph.tok (T:=T) (j:=j) ?_ ?_ ⟨m.cp,m.bh,m.rb,m.rl,m.rd⟩ rfl rfl (λ_=>.inr ⟨?_,?_,?_,?_⟩) ⟨z.1,(by show 0<=D/\D<=4096; omega),z.2.2.1,z.1,(by show 0<=D/\D<=4096; omega),z.2.2.1,z.1.2⟩
   .show Bn r n j (s.made+s.tl) T
    rw[tl]; exact b
   .show 0<=s.tl
    omega
   .show 2<=s.tl
    omega
   .show 1<=D
    omega
   .show D<=s.made
    omega
   .intro i hi
    have hi:(i:Int) < s.tl:=hi
    rw[tl] at hi
    exact c2.2.2.2 i hi
  have:=aEB (t1:={s with td:=D,node:=1,part:=0,zl:=s.tl,zd:=D,zb:=s.tb,left:=s.tl}) (b:=b0) g d f.1 f.2.1 f.2.2 b01 P ⟨rfl,rfl,rfl,rfl,rfl,rfl,rfl,rfl,rfl⟩ hn
  have hF:s.Dn=D:=by unfold ak.Dn; rw[this.1]; exact hfar
  have e:s.Pj={s with td:=D,node:=1,part:=0,zl:=s.tl,zd:=D,zb:=s.tb,left:=s.tl,c:=o6 s.c s.w,w:=gD s.w,ax:=eL s.w}:=by
   simp only[ak.Pj,ak.half,hF]
  have hm:s.wG:=⟨tb,by rw[hF]; omega,by rw[tl,hp]; omega⟩
  rw[aEN h0 h1 h2 h3 (by rw[nd]; exact n8.2 rfl) hm,e]
  exact⟨this.2,rfl⟩
 .have P:Ph r n {s with node:=s.node*2+b0,part:=4,left:=0} (gJ b0 y).L (gJ b0 y).w (gJ b0 y).k:=by
   obtain⟨i',rfl⟩:∃i',i=i'+1:=⟨i - 1,by omega⟩
   refine Ph.lower (i:=i') (T:=T) (D:=D) (N:=N) (y:=gJ b0 y) b rfl rfl c om ⟨fb.1,fb.2,by show 0<=y.k+eL y.w; omega⟩ gt ?_ ⟨m.cp,m.bh,m.rb,m.rl,m.rd⟩ tb tl td ⟨z.1,z.2.1,z.2.2.1,z.2.2.2.1,z.2.2.2.2.1,z.2.2.2.2.2.1,zA.2⟩
   show s.node*2+b0=qj (D - 1) (i'+1)
   rw[nd]; omega
  have:=aEB (t1:={s with node:=s.node*2+b0,part:=4,left:=0}) (b:=b0) g d f.1 f.2.1 f.2.2 b01 P ⟨rfl,rfl,rfl,rfl,rfl,rfl,rfl,rfl,rfl⟩ hn
  have e:s.VX={s with node:=s.node*2+b0,part:=4,left:=0,c:=o6 s.c s.w,w:=gD s.w,ax:=eL s.w}:=by
   simp only[ak.VX,ak.half,this.1]
  rw[aEM h0 h1 h2 h3 (by rw[nd]; exact n8.1 om),e]
  exact⟨this.2,rfl⟩
theorem a8p {L w k:Int} {j:Int} {T:PS} (g:Cm r n off base s) (d:hY (jY r n) (dk r n).toNat off s T.L T.w T.k) (b:Bn r n j (s.made+s.left) T) (m:Md s T) (p:s.part=0) (nd:s.node=1) (c:Cp r s) (hl:0 < s.left) (ho:s.ol < 128) (z:Bz s) (hr:∀q,0<=r q/\r q<=255):Good r n off base s.put/\s.put.mu < s.mu:=by
 have hm:=g.made
 have hb:=g.GA
 have hol:=g.ol
 have hc:s.cell=r s.made.toNat:=by
  unfold ak.cell
  rcases c with ⟨c1,cd,c2,c3⟩ | ⟨c1,c2,c3,c4⟩
  .rw[if_neg om,c2]
  .rw[if_pos om,g.dL _ om]
   have:=c4 0 om
   rw[show s.made+((0:Nat):Int)=s.made by omega] at this
   rw[this]
   congr 1
   omega
 refine⟨⟨⟨g.plain,?_,hb,?_,?_,?_,g.nn,g.pe,g.used,g.fw,g.ax,?_,?_⟩,T.L,T.w,T.k,?_,d.G8 ⟨rfl,rfl,rfl,rfl⟩⟩,?_⟩
 .show s.made+1=base+(s.ol+1)
  omega
 .show 0<=s.ol+1/\s.ol+1<=128
  omega
 .intro q hq
  have hq:(q:Int) < s.made+1:=hq
  show dh s.dL s.made s.cell q=r q
  unfold dh
  by_cases e:q=s.made.toNat
  .rw[if_pos e,hc,e]
  .rw[if_neg e]
   exact g.dL q om
 .intro q hq
  have hq:(q:Int) < s.ol+1:=hq
  show C7 s.out s.ol s.cell q=r (base.toNat+q)
  unfold C7
  by_cases e:(q:Int) < s.ol
  .rw[if_pos e]; exact g.out q e
  .rw[if_neg e,if_pos om,hc]
   congr 1
   omega
 .intro q
  show 0<=dh s.dL s.made s.cell q/\dh s.dL s.made s.cell q<=255
  unfold dh
  split
  .rw[hc]; exact hr _
  .exact g.xk q
 .intro q
  show 0<=C7 s.out s.ol s.cell q/\C7 s.out s.ol s.cell q<=255
  unfold C7
  split
  .exact g.pk q
  .split
   .rw[hc]; exact hr _
   .decide
 .refine Ph.tok (j:=j) ?_ ?_ ⟨m.cp,m.bh,m.rb,m.rl,m.rd⟩ p nd (λh=>?_) ⟨z.1,z.2.1,z.2.2.1,z.2.2.2.1,z.2.2.2.2.1,z.2.2.2.2.2.1,(by have:=z.2.2.2.2.2.2; show s.left+-1<=257; omega)⟩
  .show Bn r n j (s.made+1+(s.left+-1)) T
   rw[show s.made+1+(s.left+-1)=s.made+s.left by omega]
   exact b
  .show 0<=s.left+-1
   omega
  .have h:0 < s.left+-1:=h
   rcases c with ⟨c1,cd,c2,c3⟩ | ⟨c1,c2,c3,c4⟩
   .omega
   .refine .inr ⟨c1,c2,?_,?_⟩
    .show s.zd<=s.made+1
     omega
    .intro i hi
     have hi:(i:Int) < s.left+-1:=hi
     have:=c4 (i+1) om
     show r (s.made+1+i).toNat=r (s.made+1+i - s.zd).toNat
     rw[show s.made+1+(i:Int)=s.made+((i+1:Nat):Int) by omega]
     exact this
 .show ((s.n - s.used)*8589934592+s.w)+(((17179869184 - s.ax*4294967296)+(s.plain - (s.made+1)))+(5 - s.st)) < ((s.n - s.used)*8589934592+s.w)+(((17179869184 - s.ax*4294967296)+(s.plain - s.made))+(5 - s.st))
  omega
theorem aRB (g:Good r n off base s) (hn:0 < s.ax):¬s.used=s.n/\Good r n off base s.i5/\s.i5.mu < s.mu:=by
 obtain⟨g,L,w,k,h,d⟩:=g
 obtain⟨hi,_⟩:=h.sO
 have hm:=d.more hi hn
 have hu:=g.used
 have hnn:=g.nn
 have ho:=g.pe
 have hne:=g.ax
 have hlt:s.used < s.n:=by omega
 have hb:s.fw s.used.toNat=be (jY r n) (dk r n).toNat (off+s.used).toNat:=by
  rw[g.fw _ om]
  congr 1
  omega
 refine⟨by omega,⟨⟨g.plain,g.made,g.GA,g.ol,g.dL,g.out,g.nn,g.pe,?_,g.fw,?_,g.xk,g.pk⟩,L,w,k,h.i5,d.i5 hi hn hb⟩,?_⟩
 .show 0<=s.used+1/\s.used+1<=s.n
  omega
 .show 0<=s.ax+-1/\s.ax+-1<=4
  omega
 .show ((s.n - (s.used+1))*8589934592+s.w)+(((17179869184 - (s.ax+-1)*4294967296)+(s.plain - s.made))+(5 - s.st)) < ((s.n - s.used)*8589934592+s.w)+(((17179869184 - s.ax*4294967296)+(s.plain - s.made))+(5 - s.st))
  omega
theorem aSO (h8:n<=4095) (hr:∀q,0<=r q/\r q<=255) (g:Good r n off base s) (h3:¬s.st=3) (h4:¬s.st=4):(∃t,s.next=(true,t)/\Good r n off base t/\t.mu < s.mu/\t.st=s.st)\/(s.made=n/\off+s.used=(dk r n).toNat/\s.next=(true,{s with st:=3}))\/(s.ol=128/\s.made < n/\s.next=(false,{s with st:=2})):=by
 by_cases hn:0 < s.ax
 .obtain⟨e1,e2,e3⟩:=aRB g hn
  exact .inl ⟨_,ay1 h3 h4 hn e1,e2,e3,rfl⟩
 .have g0:=g
  obtain⟨g,L,w,k,h,d⟩:=g
  obtain⟨hi,hw,hw',hk,hmn⟩:=h.sO
  obtain⟨c1,c2⟩:=d.lt hi hn
  have hne:=g.ax
  have hpl:=g.plain
  have fin:s.left<=0->s.made=n\/s.made < n:=λ_=>by omega
  have tk:s.left<=0->s.made < n->(Good r n off base s.take/\s.take.mu < s.mu)->s.take.st=s.st->(∃t,s.next=(true,t)/\Good r n off base t/\t.mu < s.mu/\t.st=s.st):=λhl hm q e=>⟨s.take,wO h3 h4 om c2 hl om,q.1,q.2,e⟩
  cases h with
  | @tok j T b l0 m p nd c z=>
   by_cases hl:0 < s.left
   .have an:=b.an
    by_cases ho:s.ol < 128
    .have:=a8p (L:=T.L) (w:=T.w) (k:=T.k) g d b m p nd (c hl) hl ho z hr
     exact .inl ⟨_,agY h3 h4 om c2 hl ho,this.1,this.2,rfl⟩
    .refine .inr (.inr ⟨?_,?_,ay2 h3 h4 om c2 hl om⟩)
     .have:=g.ol; omega
     .omega
   .have hl0:s.left=0:=by omega
    rw[hl0,show s.made+0=s.made by omega] at b
    by_cases hm:s.made=n
    .obtain⟨f1,f2⟩:=b.end om hm
     have hp:=d.pos
     have k0:=b.k0
     have hK:(4+T.k).toNat=(dk r n).toNat:=by omega
     refine .inr (.inl ⟨hm,by omega,?_⟩)
     rw[agX h3 h4 om c2 om om]
     have hc0:s.c=0:=by
      rw[c1,f1,hK]
      unfold code
      rw[yw,Gc,JV]
      omega
     rw[if_pos hc0]
    .have:=aTy h8 hr g b hl0 m d om hn z
     refine .inl (tk om om ?_ ?_)
     .rw[akW p]; exact this
     .rw[akW p]; rfl
  | @byte j T x i b l0 p hi' f gt nd xa rb m z t0=>
   have:=aQF hr g d hn b l0 p hi' f gt nd xa rb m z t0
   refine .inl (tk om (by have:=b.an; omega) this ?_)
   unfold ak.take ak.byte
   rw[if_neg om,if_pos p]
   split <;>rfl
  | @len j N D T x i b l0 p c hi' f gt gr hr' nd xa rl m tb z=>
   have:=aTF g d hn b l0 p c hi' f gt gr hr' nd xa rl m tb z
   refine .inl (tk om (by have:=b.an; have:=c.1; omega) this ?_)
   unfold ak.take ak.len
   rw[if_neg om,if_neg om,if_pos p]
   split <;>rfl
  | @upper j N D T x i b l0 p c hi' f gt gr nd xa rd m tb tl z=>
   have:=a_n g d hn b l0 p c hi' f gt gr nd xa rd m tb tl z
   refine .inl (tk om (by have:=b.an; have:=c.1; omega) this ?_)
   unfold ak.take ak.upper
   rw[if_neg om,if_neg om,if_neg om,if_pos p]
   split <;>rfl
  | @lower j N D T y i b l0 p c hi' f gt nd m tb tl td z=>
   have:=aUp g d hn b l0 p c hi' f gt nd m tb tl td z
   exact .inl (tk om (by have:=b.an; have:=c.1; omega) this.1 this.2)
theorem auG (g:Good r n off base s) (h3:s.st<=5):0<=s.mu:=by
 obtain⟨g,L,w,k,h,d⟩:=g
 obtain⟨hi,hw,hw',hk,hmn⟩:=h.sO
 have h1:=g.used
 have h2:=g.ax
 have h4:=g.plain
 have h5:=d.w
 show 0<=((s.n - s.used)*8589934592+s.w)+(((17179869184 - s.ax*4294967296)+(s.plain - s.made))+(5 - s.st))
 omega
theorem auH (h8:n<=4095) (hr:∀q,0<=r q/\r q<=255):∀(m:Nat) (s:ak),s.mu < m->Good r n off base s->(s.st=1\/s.st=2)->∃t,sE s t/\((t.st=3/\t.made=n/\off+t.used=(dk r n).toNat/\Cm r n off base t)\/(t.st=2/\t.ol=128/\t.made < n/\Good r n off base t))
 | 0,s,hm,g,hst=>by have:=auG g om; omega
 | m+1,s,hm,g,hst=>by
  rcases aSO h8 hr g om om with ⟨t,h1,h2,h3,h4⟩ | ⟨h1,h2,h3⟩ | ⟨h1,h2,h3⟩
  .obtain⟨u,h5,h6⟩:=auH h8 hr m t om h2 om
   exact⟨u,.go h1 h5,h6⟩
  .have e:({s with st:=3}:ak).next=(false,{s with st:=3}):=ay0 rfl
   obtain⟨g,_⟩:=g
   exact⟨_,.go h3 (.stop e),.inl ⟨rfl,h1,h2,⟨g.plain,g.made,g.GA,g.ol,g.dL,g.out,g.nn,g.pe,g.used,g.fw,g.ax,g.xk,g.pk⟩⟩⟩
  .obtain⟨g,L,w,k,h,d⟩:=g
   refine⟨_,.stop h3,.inr ⟨rfl,h1,h2,⟨g.plain,g.made,g.GA,g.ol,g.dL,g.out,g.nn,g.pe,g.used,g.fw,g.ax,g.xk,g.pk⟩,L,w,k,?_,d.G8 ⟨rfl,rfl,rfl,rfl⟩⟩⟩
   cases h with
   | tok b l0 m p nd c z=>exact .tok b l0 ⟨m.cp,m.bh,m.rb,m.rl,m.rd⟩ p nd c z
   | byte b l0 p hi f g nd xa rb m z t0=>exact .byte b l0 p hi f g nd xa rb m z t0
   | len b l0 p c hi f g gr hr nd xa rl m tb z=>exact .len b l0 p c hi f g gr hr nd xa rl m tb z
   | upper b l0 p c hi f g gr nd xa rd m tb tl z=>exact .upper b l0 p c hi f g gr nd xa rd m tb tl z
   | lower b l0 p c hi f g nd m tb tl td z=>exact .lower b l0 p c hi f g nd ⟨m.cp,m.bh,m.rb,m.rl,m.rd⟩ tb tl td z
theorem Vp (h8:n<=4095) (hr:∀q,0<=r q/\r q<=255) (g:Good r n off base s) (hst:s.st=1\/s.st=2):(s.fin.st=3/\s.fin.made=n/\off+s.fin.used=(dk r n).toNat/\Cm r n off base s.fin)\/(s.fin.st=2/\s.fin.ol=128/\s.fin.made < n/\Good r n off base s.fin):=by
 have hp:=auG g om
 obtain⟨t,h1,h2⟩:=auH h8 hr (s.mu.toNat+1) s om g hst
 rw[aSl h1]
 exact h2
theorem aSL (g:Good r n off base s) {o:R} {m:Int} {i:R} (hm:m=s.n - s.used) (hi:∀q:Nat,(q:Int) < m->i q=s.fw (s.used.toNat+q)) (hob:∀q,0<=o q/\o q<=255):Good r n (off+s.used) s.made {s with used:=0,ol:=0,out:=o,n:=m,fw:=i}:=by
 obtain⟨g,L,w,k,h,d⟩:=g
 have hu:=g.used
 have ho:=g.pe
 have hn:=g.nn
 have hmn:=g.made
 have hb:=g.GA
 have hol:=g.ol
 obtain⟨M,d1,d2⟩:=d.c
 refine⟨⟨g.plain,(by show s.made=s.made+0; omega),by omega,⟨aP _,(by show (0:Int)<=128; decide)⟩,g.dL,λq hq=>absurd hq (by show ¬(q:Int) < 0; omega),(by show m=_ - _; omega),by omega,⟨aP _,(by show 0<=m; omega)⟩,λq hq=>?_,g.ax,g.xk,hob⟩,L,w,k,?_,⟨d.w,(by show off+s.used+0+s.ax=4+k; have:=d.pos; omega),⟨M,d1,?_⟩,d.ax,(by show 0<=off+s.used+0; omega)⟩⟩
 .have hq:(q:Int) < m:=hq
  show i q=_
  rw[hi q hq,g.fw _ om]
  congr 1
  omega
 .cases h with
  | tok b l0 m p nd c z=>exact .tok b l0 ⟨m.cp,m.bh,m.rb,m.rl,m.rd⟩ p nd c z
  | byte b l0 p hi f g nd xa rb m z t0=>exact .byte b l0 p hi f g nd xa rb m z t0
  | len b l0 p c hi f g gr hr nd xa rl m tb z=>exact .len b l0 p c hi f g gr hr nd xa rl m tb z
  | upper b l0 p c hi f g gr nd xa rd m tb tl z=>exact .upper b l0 p c hi f g gr nd xa rd m tb tl z
  | lower b l0 p c hi f g nd m tb tl td z=>exact .lower b l0 p c hi f g nd ⟨m.cp,m.bh,m.rb,m.rl,m.rd⟩ tb tl td z
 .show s.c=code _ _ M (off+s.used+0).toNat
  rw[d2]
  congr 2
  omega
theorem auF (hn0:0<=n) (h8:n<=8192) {o i wn:R} {m:Int} (hm:m=(dk r n).toNat) (hi:∀q:Nat,(q:Int) < m->i q=be (jY r n) (dk r n).toNat q) (cp rb rl rd:R) (c1:cp=dp 1024) (c2:rb=dp 1024) (c3:rl=dp 1024) (c4:rd=dp 1024) (hw:∀q,0<=wn q/\wn q<=255) (hob:∀q,0<=o q/\o q<=255):Good r n 0 0 ⟨0,4294967295,4,0,0,o,cp,0,rb,rl,rd,0,0,0,1,0,wn,0,n,0,0,0,0,1,m,i⟩:=by
 have b:=aQo r hn0 h8
 have hk:=QH r n
 have hi0:=b.sO
 refine⟨⟨rfl,rfl,aP _,⟨aP _,(by show (0:Int)<=128; decide)⟩,λq hq=>absurd hq (by show ¬(q:Int) < 0; omega),λq hq=>absurd hq (by show ¬(q:Int) < 0; omega),(by show m=_ - 0; omega),aP _,⟨aP _,(by show 0<=m; omega)⟩,λq hq=>?_,(by show 0<=(4:Int)/\(4:Int)<=4; decide),hw,hob⟩,pq.L,pq.w,pq.k,?_,⟨rfl,rfl,⟨0,(by show pq.L=0*_; rw[N0]; rfl),?_⟩,(by show (0:Int)<=4; decide),(by show (0:Int)<=0+0; decide)⟩⟩
 .show i q=_
  rw[hi q hq]
  congr 1
  omega
 .exact .tok (T:=pq) (j:=0) b (aP _) ⟨c1,rfl,c2,c3,c4⟩ rfl rfl (λh=>absurd h (by show ¬(0:Int) < 0; decide)) ⟨zA,zB,zC,zA,zB,zC,zA.2⟩
 .show (0:Int)=code _ _ 0 (0+0:Int).toNat
  unfold code
  have h1:=hi0.lo
  have h2:=hi0.hi
  have e1:pq.L=0:=rfl
  have e2:pq.w=4294967295:=rfl
  have e3:(4+pq.k).toNat=4:=rfl
  rw[e1,e3] at h1
  rw[e1,e2,e3] at h2
  have h3:(0:Int)<=jY r n:=by omega
  have h4:jY r n < 256 ^ ((dk r n).toNat - (0+0:Int).toNat):=by
   have:(256:Int) ^ ((dk r n).toNat - (0+0:Int).toNat)=4294967296*256 ^ ((dk r n).toNat - 4):=by
    rw[show (dk r n).toNat - (0+0:Int).toNat=4+((dk r n).toNat - 4) by omega,T9,show (256:Int) ^ 4=4294967296 by decide]
   have hp:=pow_pos ((dk r n).toNat - 4)
   generalize (256:Int) ^ ((dk r n).toNat - 4)=x at*
   omega
  rw[Int.ediv_eq_zero_of_lt h3 h4]; rfl
end
end Go.Lz
namespace Go.Lz
open Go.Z (R)
theorem hY.small {F:Int} {K:Nat} {off:Int} {s:ak} {L w k:Int} (d:hY F K off s L w k) (hi:In F K L w (4+k).toNat) (hw:w<=4294967295) (hn:s.ax<=4):s.c < 256 ^ (4 - s.ax).toNat:=by
 obtain⟨M,h1,h2⟩:=d.c
 have hnn:=d.ax
 have hp:=d.pos
 have ho:=d.o
 have hle:=hi.le
 have hh:=hi.hi
 rw[h2]
 unfold code
 have e1:K - (off+s.used).toNat=s.ax.toNat+(K - (4+k).toNat):=by omega
 have e2:(256:Int) ^ 4=256 ^ s.ax.toNat*256 ^ (4 - s.ax).toNat:=by rw[<- T9]; congr 1; omega
 have e3:(256:Int) ^ 4=4294967296:=by decide
 have:F < (M+256 ^ (4 - s.ax).toNat)*256 ^ (K - (off+s.used).toNat):=by
  refine adO hh ?_
  rw[e1,T9,<- Ak,Int.add_mul M,<- h1]
  refine ar3 ?_ (JW (pow_pos _))
  rw[wc (256 ^ (4 - s.ax).toNat),<- e2,e3]
  omega
 have:=Int.ediv_lt_of_lt_mul (pow_pos _) this
 omega
theorem agU {N:Nat} {v:Int} (h0:0<=v) {i:Nat} (h1:1<=i) (h:N=8/\v<=255/\i<=8\/N=6/\v<=63/\i<=6):1<=gK N v i/\gK N v i<=255/\(N=6->gK N v i<=63):=by
 unfold gK
 rcases h with ⟨rfl,h2,h3⟩ | ⟨rfl,h2,h3⟩
 .have:i=1\/i=2\/i=3\/i=4\/i=5\/i=6\/i=7\/i=8:=by omega
  rcases this with rfl | rfl | rfl | rfl | rfl | rfl | rfl | rfl <;>simp <;>omega
 .have:i=1\/i=2\/i=3\/i=4\/i=5\/i=6:=by omega
  rcases this with rfl | rfl | rfl | rfl | rfl | rfl <;>simp <;>omega
theorem a0k {v:Int} (h0:0<=v) {i:Nat} (h1:1<=i) (h:i<=6):1<=qj v i/\qj v i<=63:=by
 unfold qj
 have:i=1\/i=2\/i=3\/i=4\/i=5\/i=6:=by omega
 rcases this with rfl | rfl | rfl | rfl | rfl | rfl <;>simp <;>omega
structure Bx (s:ak):Prop where
 c:0<=s.c/\s.c<=4294967295
 w:16777216<=s.w/\s.w<=4294967295
 ax:0<=s.ax/\s.ax<=4
 used:0<=s.used/\s.used<=8192
 ol:0<=s.ol/\s.ol<=128
 out:∀q,0<=s.out q/\s.out q<=255
 cp:∀q,31<=s.cp q/\s.cp q<=2017
 bh:0<=s.bh/\s.bh<=1
 rb:∀q,31<=s.rb q/\s.rb q<=2017
 rl:∀q,31<=s.rl q/\s.rl q<=2017
 rd:∀q,31<=s.rd q/\s.rd q<=2017
 tl:0<=s.tl/\s.tl<=257
 td:0<=s.td/\s.td<=4096
 tb:0<=s.tb/\s.tb<=255
 node:1<=s.node/\s.node<=255
 part:0<=s.part/\s.part<=4
 dL:∀q,0<=s.dL q/\s.dL q<=255
 made:0<=s.made/\s.made<=4095
 zl:0<=s.zl/\s.zl<=257
 zd:0<=s.zd/\s.zd<=4096
 zb:0<=s.zb/\s.zb<=255
 left:0<=s.left/\s.left<=257
section
variable {r:R} {n off base:Int} {s:ak}
theorem auE (h8:n<=4095) (hr:∀q,0<=r q/\r q<=255) (g:Good r n off base s) (hn:s.n<=8192):Bx s/\(∀st,s.st=st->Wx s.c s.ax s.node s.part s.tl s.td s.zl s.zd s.made s.left s.plain st):=by
 obtain⟨g,L,w,k,h,d⟩:=g
 obtain⟨hi,hw,hw',hk,hmn⟩:=h.sO
 have hc:=d.small hi hw' g.ax.2
 have hc0:=d.Wu hi
 have hc4:s.c<=4294967295:=by
  have hne:=g.ax
  have h5:s.ax=0\/s.ax=1\/s.ax=2\/s.ax=3\/s.ax=4:=by omega
  rcases h5 with h | h | h | h | h <;>rw[h] at hc <;>simp at hc <;>omega
 have hwd:=d.w
 have hu:=g.used
 have hm:=g.made
 have hb:=g.GA
 have hol:=g.ol
 have hpl:=g.plain
 have hwB:16777216<=s.w/\s.w<=4294967295:=by omega
 have huB:0<=s.used/\s.used<=8192:=by omega
 have hmB:0<=s.made/\s.made<=4095:=by omega
 cases h with
 | @tok j T b l0 m p nd c z=>
  have an:=b.an
  refine⟨⟨⟨hc0,hc4⟩,hwB,g.ax,huB,hol,g.pk,by rw[m.cp]; exact b.fit.cp,by rw[m.bh]; exact b.fit.bh,by rw[m.rb]; exact b.fit.rb,by rw[m.rl]; exact b.fit.rl,by rw[m.rd]; exact b.fit.rd,z.1,z.2.1,z.2.2.1,by rw[nd]; decide,by rw[p]; decide,g.xk,hmB,z.2.2.2.1,z.2.2.2.2.1,z.2.2.2.2.2.1,⟨l0,z.2.2.2.2.2.2⟩⟩,λst _=>.inr ⟨λ_=>hc,λ_=>nd,λh=>by omega,λh=>by omega,λh=>by omega,λhl=>⟨by omega,?_⟩⟩⟩
  rcases c hl with ⟨c1,c2,_,_⟩ | ⟨c1,c2,c3,_⟩
  .exact .inl ⟨c1,c2⟩
  .exact .inr ⟨c1,c2,c3⟩
 | @byte j T x i b l0 p hi' f gt nd xa rb m z t0=>
  have hv:=hr s.made.toNat
  have nb:=agU (N:=8) (v:=r s.made.toNat) (i:=i+1) hv.1 om (.inl ⟨rfl,hv.2,hi'⟩)
  exact⟨⟨⟨hc0,hc4⟩,hwB,g.ax,huB,hol,g.pk,by rw[m.1]; exact b.fit.cp,by rw[m.2.1]; exact b.fit.bh,by rw[rb]; exact f.r,by rw[m.2.2.1]; exact b.fit.rl,by rw[m.2.2.2]; exact b.fit.rd,z.1,z.2.1,z.2.2.1,by rw[nd,xa]; exact⟨nb.1,nb.2.1⟩,by rw[p]; decide,g.xk,hmB,z.2.2.2.1,z.2.2.2.2.1,z.2.2.2.2.2.1,by rw[l0]; decide⟩,λst _=>.inr ⟨λ_=>hc,λh=>by omega,λ_=>t0,λh=>by omega,λh=>by omega,λh=>by omega⟩⟩
 | @len j N D T x i b l0 p c hi' f gt gr hr' nd xa rl m tb z=>
  have nb:=agU (N:=8) (v:=N - 2) (i:=i+1) (by have:=c.1; omega) om (.inl ⟨rfl,by have:=c.2.1; omega,hi'⟩)
  exact⟨⟨⟨hc0,hc4⟩,hwB,g.ax,huB,hol,g.pk,by rw[m.1]; exact b.fit.cp,by rw[m.2.1]; exact b.fit.bh,by rw[m.2.2]; exact b.fit.rb,by rw[rl]; exact f.r,hr',z.1,z.2.1,z.2.2.1,by rw[nd,xa]; exact⟨nb.1,nb.2.1⟩,by rw[p]; decide,g.xk,hmB,z.2.2.2.1,z.2.2.2.2.1,z.2.2.2.2.2.1,by rw[l0]; decide⟩,λst _=>.inr ⟨λ_=>hc,λh=>by omega,λh=>by omega,λh=>by omega,λh=>by omega,λh=>by omega⟩⟩
 | @upper j N D T x i b l0 p c hi' f gt gr nd xa rd m tb tl z=>
  have c2:=c.2.2
  have nb:=agU (N:=6) (v:=(D - 1) / 64) (i:=i+1) om om (.inr ⟨rfl,by omega,hi'⟩)
  exact⟨⟨⟨hc0,hc4⟩,hwB,g.ax,huB,hol,g.pk,by rw[m.1]; exact b.fit.cp,by rw[m.2.1]; exact b.fit.bh,by rw[m.2.2.1]; exact b.fit.rb,by rw[m.2.2.2]; exact b.fit.rl,by rw[rd]; exact f.r,z.1,z.2.1,z.2.2.1,by rw[nd,xa]; exact⟨nb.1,nb.2.1⟩,by rw[p]; decide,g.xk,hmB,z.2.2.2.1,z.2.2.2.2.1,z.2.2.2.2.2.1,by rw[l0]; decide⟩,λst _=>.inr ⟨λ_=>hc,λh=>by omega,λh=>by omega,λ_=>⟨by rw[nd,xa]; exact nb.2.2 rfl,by rw[tl]; exact c.1⟩,λh=>by omega,λh=>by omega⟩⟩
 | @lower j N D T y i b l0 p c hi' f gt nd m tb tl td z=>
  have c2:=c.2.2
  have nb:=a0k (v:=D - 1) (i:=i+1) om om hi'
  exact⟨⟨⟨hc0,hc4⟩,hwB,g.ax,huB,hol,g.pk,by rw[m.cp]; exact b.fit.cp,by rw[m.bh]; exact b.fit.bh,by rw[m.rb]; exact b.fit.rb,by rw[m.rl]; exact b.fit.rl,by rw[m.rd]; exact b.fit.rd,z.1,z.2.1,z.2.2.1,by rw[nd]; exact⟨nb.1,by omega⟩,by rw[p]; decide,g.xk,hmB,z.2.2.2.1,z.2.2.2.2.1,z.2.2.2.2.2.1,by rw[l0]; decide⟩,λst _=>.inr ⟨λ_=>hc,λh=>by omega,λh=>by omega,λ_=>⟨by rw[nd]; exact nb.2,by rw[tl]; exact c.1⟩,λ_=>by omega,λh=>by omega⟩⟩
theorem aSP (h8:n<=4095) (hr:∀q,0<=r q/\r q<=255) (g:Good r n off base s) (hst:s.st=1\/s.st=2):s.fin.plain=n:=by
 rcases Vp h8 hr g hst with ⟨_,_,_,h⟩ | ⟨_,_,_,h⟩
 .exact h.plain
 .exact h.1.plain
theorem aSN (h8:n<=4095) (hr:∀q,0<=r q/\r q<=255) (g:Good r n off base s) (hst:s.st=1\/s.st=2) (hn:s.n<=8192) (hm:base+128 < n):s.fin.st=2/\s.fin.ol=128/\s.fin.made=base+128/\Bx s.fin/\(∀q:Nat,(q:Int) < 128->s.fin.out q=r (base.toNat+q))/\s.fin.n=s.n/\∀(o i:R) (m:Int),m=s.n - s.fin.used->(∀q:Nat,(q:Int) < m->i q=s.fw (s.fin.used.toNat+q))->(∀q,0<=o q/\o q<=255)->Good r n (off+s.fin.used) (base+128) {s.fin with used:=0,ol:=0,out:=o,n:=m,fw:=i}:=by
 rcases Vp h8 hr g hst with ⟨h1,h2,h3,h4⟩ | ⟨h1,h2,h3,h4⟩
 .have:=h4.made
  have:=h4.ol
  omega
 .have c0:=g.1
  have c:=h4.1
  have e:s.fin.n=s.n:=by rw[c.nn,c0.nn]
  have em:s.fin.made=base+128:=by rw[c.made,h2]
  refine⟨h1,h2,em,(auE h8 hr h4 om).1,λq hq=>c.out q om,e,λo i m hmm hi hob=>?_⟩
  rw[<- em]
  refine aSL h4 (by rw[e]; exact hmm) (λq hq=>?_) hob
  have hu:=c.used
  rw[hi q hq,c0.fw _ om,c.fw _ om]
theorem aSM (h8:n<=4095) (hr:∀q,0<=r q/\r q<=255) (g:Good r n off base s) (hst:s.st=1\/s.st=2) (hm:n<=base+128):s.fin.st=3/\s.fin.ol=n - base/\s.fin.used=s.n/\(∀q:Nat,(q:Int) < n - base->s.fin.out q=r (base.toNat+q))/\0<=s.n/\∀q,0<=s.fin.out q/\s.fin.out q<=255:=by
 rcases Vp h8 hr g hst with ⟨h1,h2,h3,h4⟩ | ⟨h1,h2,h3,h4⟩
 .have e:=h4.made
  have e2:=g.1.nn
  have e3:=g.1.used
  exact⟨h1,by omega,by omega,λq hq=>h4.out q om,by omega,h4.pk⟩
 .have c:=h4.1.made
  omega
end
end Go.Lz
namespace Go.Z
open Go
section
open Classical in
def yes (p:Prop):Int:=if p then 1 else 0
theorem Eg (p:Prop):0<=yes p/\yes p<=1:=by unfold yes; split <;>decide
theorem jI {p:Prop} (h:yes p≠0):p:=by unfold yes at h; split at h; assumption; exact absurd rfl h
theorem Yz {p:Prop} (h:p):yes p=1:=by unfold yes; rw[if_pos h]
theorem xo {p:Prop} (h:¬yes p≠0):¬p:=by unfold yes at h; split at h; exact absurd dc h; assumption
def Ah (a:R) (n:Int) (c:Int):Prop:=∀j:Nat,(j:Int) < n->a j=c
def o8 (a:R) (c:Int):Nat->Nat->Int
 | 0,i=>i
 | k+1,i=>if a i=c then o8 a c k (i+1) else i
theorem auq {a:R} {c:Int}:∀(k i:Nat),(i:Int)<=o8 a c k i
 | 0,i=>aP _
 | k+1,i=>by
  unfold o8
  split
  .have:=auq (a:=a) (c:=c) k (i+1); omega
  .exact aP _
theorem aur {a:R} {c:Int}:∀(k i:Nat),o8 a c k i<=i+k
 | 0,i=>by unfold o8; omega
 | k+1,i=>by
  unfold o8
  split
  .have:=aur (a:=a) (c:=c) k (i+1); omega
  .omega
theorem afb {a:R} {c:Int}:∀(k i j:Nat),i<=j->(j:Int) < o8 a c k i->a j=c
 | 0,i,j,h,h2=>by unfold o8 at h2; omega
 | k+1,i,j,h,h2=>by
  unfold o8 at h2
  split at h2
  .rename_i e
   by_cases q:i=j
   .rw[<- q]; exact e
   .exact afb k (i+1) j om h2
  .omega
theorem aus {a:R} {c:Int}:∀(k i:Nat),o8 a c k i < i+k->a (o8 a c k i).toNat≠c
 | 0,i,h=>by unfold o8 at h; omega
 | k+1,i,h=>by
  unfold o8 at h ⊢
  split
  .rename_i e
   rw[if_pos e] at h
   exact aus k (i+1) om
  .rename_i e
   rw[fg]
   exact e
def ni (p:Nat->Prop):Nat->Nat->Int
 | 0,i=>i
 | k+1,i=>open Classical in if p i then ni p k (i+1) else i
theorem auu {p:Nat->Prop}:∀(k i:Nat),(i:Int)<=ni p k i
 | 0,i=>aP _
 | k+1,i=>by
  unfold ni
  split
  .have:=auu (p:=p) k (i+1); omega
  .exact aP _
theorem auv {p:Nat->Prop}:∀(k i:Nat),ni p k i<=i+k
 | 0,i=>by unfold ni; omega
 | k+1,i=>by
  unfold ni
  split
  .have:=auv (p:=p) k (i+1); omega
  .omega
theorem Vm {p:Nat->Prop}:∀(k i j:Nat),i<=j->(j:Int) < ni p k i->p j
 | 0,i,j,h,h2=>by unfold ni at h2; omega
 | k+1,i,j,h,h2=>by
  unfold ni at h2
  split at h2
  .rename_i e
   by_cases q:i=j
   .rw[<- q]; exact e
   .exact Vm k (i+1) j om h2
  .omega
theorem afc {p:Nat->Prop}:∀(k i:Nat),ni p k i < i+k->¬p (ni p k i).toNat
 | 0,i,h=>by unfold ni at h; omega
 | k+1,i,h=>by
  unfold ni at h ⊢
  split
  .rename_i e
   rw[if_pos e] at h
   exact afc k (i+1) om
  .rename_i e
   rw[fg]
   exact e
theorem aut {p:Nat->Prop} {n:Int} (h:¬∀j:Nat,(j:Int) < n->p j):0<=ni p n.toNat 0/\ni p n.toNat 0 < n:=by
 have h1:=auu (p:=p) n.toNat 0
 have h2:=auv (p:=p) n.toNat 0
 refine⟨by omega,Int.lt_of_not_ge λq=>h λj hj=>?_⟩
 exact Vm n.toNat 0 j (Aq _) om
def fA (a b:R) (j:Nat):Prop:=(((b j).toNat ^^^ ((b j).toNat &&& (a j).toNat):Nat):Int)=0
instance (a b:R) (j:Nat):Decidable (fA a b j):=inferInstanceAs (Decidable (_=(0:Int)))
structure UF where
 f:List R->R
 b:Option (Int×Int)
 ok:∀l i lo hi,b=some (lo,hi)->lo<=f l i/\f l i<=hi
def uN (f:List R->R):UF:=⟨f,none,λ_ _ _ _ h=>by cases h⟩
def uB (lo hi:Int) (f:List R->R) (h:∀l i,lo<=f l i/\f l i<=hi):UF:=⟨f,some (lo,hi),λl i _ _ e=>by cases e; exact h l i⟩
def lf:List R->Nat->R
 | [],_=>λ_=>0
 | a::_,0=>a
 | _::l,k+1=>lf l k
def L1 (g:R->R) (l:List R):R:=g (lf l 0)
def L2 (g:R->R->R) (l:List R):R:=g (lf l 0) (lf l 1)
def L3 (g:R->R->R->R) (l:List R):R:=g (lf l 0) (lf l 1) (lf l 2)
def L4 (g:R->R->R->R->R) (l:List R):R:=g (lf l 0) (lf l 1) (lf l 2) (lf l 3)
def L5 (g:R->R->R->R->R->R) (l:List R):R:=g (lf l 0) (lf l 1) (lf l 2) (lf l 3) (lf l 4)
def L6 (g:R->R->R->R->R->R->R) (l:List R):R:=g (lf l 0) (lf l 1) (lf l 2) (lf l 3) (lf l 4) (lf l 5)
def Yh:List R->R:=L2 λl k=>Lz.be (l 0) (k 0)
def rB:List R->R:=L2 λr n=>λ_=>Lz.dk r (n 0)
def Yi:List R->R:=L2 λr n=>λ_=>Lz.jY r (n 0)
def ut1:Nat->UF
 | 0=>uB 0 1 (L2 λa n=>λ_=>yes (Ah a (n 0) 255)) λ_ _=>Eg _
 | 1=>uN (L2 λa n=>λ_=>o8 a 255 (n 0).toNat 0)
 | 2=>uB 0 1 (L3 λa b n=>λ_=>yes (∀j:Nat,(j:Int) < n 0->fA a b j)) λ_ _=>Eg _
 | 3=>uN (L3 λa b n=>λ_=>ni (fA a b) (n 0).toNat 0)
 | 10=>uB 31 2017 (L1 λp=>λ_=>Lz.hold (p 0)) λ_ _=>Lz.KR _
 | 11=>uB 31 2017 (L2 λp b=>λ_=>Lz.adapt (p 0) (b 0)) λ_ _=>Lz.cH dc _
 | 12=>uN (L3 λr i n=>Lz.qR (i 0+1).toNat r (n 0))
 | 13=>uB 0 255 (Yh) λ_ _=>Lz.ael _ _ _
 | 14=>uB 16777216 4294967295 (L3 λw p b=>λ_=>Lz.aM (w 0) (p 0) (b 0)) λ_ _=>Lz.cH dc _
 | 15=>uN (L4 λl w p b=>λ_=>Lz.jB (l 0) (w 0) (p 0) (b 0))
 | 16=>uN (L1 λw=>λ_=>Lz.wide (w 0))
 | 17=>uB 0 1 (L3 λw p b=>λ_=>Lz.bq (w 0) (p 0) (b 0)) λ_ _=>Lz.wL _
 | 18=>uB 16777216 4294967295 (L1 λw=>λ_=>Lz.gD (w 0)) λ_ _=>Lz.cH dc _
 | 19=>uN (L3 λl w b=>λ_=>Lz.wC (l 0) (w 0) (b 0))
 | 20=>uB 0 1 (L1 λw=>λ_=>Lz.eL (w 0)) λ_ _=>Lz.wL _
 | 21=>uB 0 1 (L1 λw=>λ_=>Lz.fy (w 0)) λ_ _=>Lz.wL _
 | 22=>uB 1 256 (L1 λw=>λ_=>Lz.gr (w 0)) λ_ _=>Lz.aSR _
 | 30=>uB 0 1 (L2 λa i=>λ_=>yes (Lz.yW (a 0) (i 0))) λ_ _=>Eg _
 | 31=>uB 0 2017 (L3 λr n a=>λ_=>Lz.atR r (n 0) (a 0)) λ_ _=>Lz.aP0 _ _ _
 | 32=>uB 31 2017 (L4 λr n a b=>Lz.dq r (n 0) (a 0) (b 0)) λ_ _=>Lz.LW _ _ _ _ _
 | 33=>uN (λl=>λ_=>(Lz.aZ ((lf l 3) 0) ((lf l 4) 0) ((lf l 6) 0+1).toNat ⟨(lf l 0) 0,(lf l 1) 0,0,(lf l 2),(lf l 5) 0⟩).L)
 | 34=>uB 16777216 4294967295 (L6 λw r n v a i=>λ_=>Lz.az 16777216 4294967295 (Lz.aZ (n 0) (v 0) (i 0+1).toNat ⟨0,w 0,0,r,a 0⟩).w) λ_ _=>Lz.cH dc _
 | 35=>uB 0 8 (L6 λw r n v a i=>λ_=>Lz.az 0 8 (Lz.aZ (n 0) (v 0) (i 0+1).toNat ⟨0,w 0,0,r,a 0⟩).k) λ_ _=>Lz.cH dc _
 | 36=>uB 31 2017 (L5 λr n v a i=>λq=>Lz.az 31 2017 ((Lz.aZ (n 0) (v 0) (i 0+1).toNat ⟨0,0,0,r,a 0⟩).r q)) λ_ _=>Lz.cH dc _
 | 37=>uN (L4 λl w d i=>λ_=>(Lz.cF (d 0) (i 0+1).toNat ⟨l 0,w 0,0⟩).L)
 | 38=>uB 16777216 4294967295 (L2 λw i=>λ_=>Lz.az 16777216 4294967295 (Lz.cF 0 (i 0+1).toNat ⟨0,w 0,0⟩).w) λ_ _=>Lz.cH dc _
 | 39=>uB 0 6 (L2 λw i=>λ_=>Lz.az 0 6 (Lz.cF 0 (i 0+1).toNat ⟨0,w 0,0⟩).k) λ_ _=>Lz.cH dc _
 | 50=>uN (λl=>λ_=>Lz.wY (lf l 0) ((lf l 1) 0) ((lf l 2) 0) ((lf l 3) 0) ((lf l 4) 0) (lf l 5) ((lf l 6) 0) (lf l 7) (lf l 8) (lf l 9))
 | 51=>uB 0 188416 (λl=>λ_=>Lz.iQ (lf l 0) ((lf l 1) 0) ((lf l 2) 0) ((lf l 3) 0) (lf l 4) ((lf l 5) 0) (lf l 6) (lf l 7) (lf l 8)) λ_ _=>Lz.cH dc _
 | 52=>uB 16777216 4294967295 (λl=>λ_=>Lz.y7 (lf l 0) ((lf l 1) 0) ((lf l 2) 0) ((lf l 3) 0) (lf l 4) ((lf l 5) 0) (lf l 6) (lf l 7) (lf l 8)) λ_ _=>Lz.cH dc _
 | 53=>uB 0 1 (L2 λtk n=>λ_=>yes (Lz.LU tk (n 0))) λ_ _=>Eg _
 | 54=>uB 0 1 (L4 λtk j n m=>λ_=>yes (Lz.np tk (j 0) (n 0) (m 0))) λ_ _=>Eg _
 | 55=>uN (L2 λtk n=>λ_=>Lz.aDb tk (n 0))
 | 56=>uB 0 188416 (L2 λtk n=>λ_=>Lz.Ia tk (n 0)) λ_ _=>Lz.aDa _ _
 | 60=>uB 0 1 (L4 λr a d n=>λ_=>yes (Lz.jA r (a 0) (d 0) (n 0))) λ_ _=>Eg _
 | 61=>uN (L4 λr a d n=>λ_=>((Lz.ext r (a 0) (d 0) (n 0).toNat 0:Nat):Int))
 | 62=>uB 0 257 (L5 λr a d m n=>λ_=>Lz.az 0 257 ((Lz.ext r (a 0) (d 0) (m 0 - n 0).toNat (n 0).toNat:Nat):Int)) λ_ _=>Lz.cH dc _
 | 63=>uB 0 257 (L6 λr a m d n t=>λ_=>Lz.az 0 257 (Lz.fU r (a 0) (m 0) (d 0) (n 0) (t 0)).1) λ_ _=>Lz.cH dc _
 | 64=>uB 0 4097 (L6 λr a m d n t=>λ_=>Lz.az 0 4097 (Lz.fU r (a 0) (m 0) (d 0) (n 0) (t 0)).2) λ_ _=>Lz.cH dc _
 | 66=>uB 0 257 (L3 λr n a=>λ_=>Lz.bN r (n 0) (a 0)) λ_ _=>Lz.aP2 _ _ _
 | 67=>uB 0 4097 (L3 λr n a=>λ_=>Lz.bD r (n 0) (a 0)) λ_ _=>Lz.aP1 _ _ _
 | 70=>uB 0 8192 (L3 λr n a=>λ_=>Lz.dd r (n 0) (a 0)) λ_ _=>Lz.cH dc _
 | 71=>uN (L5 λr n a t m=>(Lz.eB r (n 0) (a 0) t (m 0)).1)
 | 80=>uB 4 188420 (rB) λ_ _=>Lz.QH _ _
 | 81=>uN (Yi)
 | 90=>uB 0 1 (L3 λc w p=>λ_=>Lz.dO (c 0) (w 0) (p 0)) λ_ _=>Lz.aeF _ _ _
 | 91=>uB 0 4294967295 (L3 λc w p=>λ_=>Lz.kz (c 0) (w 0) (p 0)) λ_ _=>Lz.cH dc _
 | 92=>uB 0 1 (L2 λc w=>λ_=>Lz.o7 (c 0) (w 0)) λ_ _=>Lz.UU _ _
 | 93=>uB 0 4294967295 (L2 λc w=>λ_=>Lz.o6 (c 0) (w 0)) λ_ _=>Lz.cH dc _
 | 100=>uN (λl=>Lz.Dp ⟨(lf l 0) 0,(lf l 1) 0,(lf l 2) 0,(lf l 3) 0,(lf l 4) 0,(lf l 5),(lf l 6),(lf l 7) 0,(lf l 8),(lf l 9),(lf l 10),(lf l 11) 0,(lf l 12) 0,(lf l 13) 0,(lf l 14) 0,(lf l 15) 0,(lf l 16),(lf l 17) 0,(lf l 18) 0,(lf l 19) 0,(lf l 20) 0,(lf l 21) 0,(lf l 22) 0,(lf l 23) 0,(lf l 24) 0,(lf l 25)⟩)
 | 102=>uB 0 1 (λl=>λ_=>yes (Lz.Wx ((lf l 0) 0) ((lf l 1) 0) ((lf l 2) 0) ((lf l 3) 0) ((lf l 4) 0) ((lf l 5) 0) ((lf l 6) 0) ((lf l 7) 0) ((lf l 8) 0) ((lf l 9) 0) ((lf l 10) 0) ((lf l 11) 0))) λ_ _=>Eg _
 | 103=>uB 0 1 (λl=>λ_=>yes (Lz.Good (lf l 0) ((lf l 1) 0) ((lf l 2) 0) ((lf l 3) 0) ⟨(lf l 4) 0,(lf l 5) 0,(lf l 6) 0,(lf l 7) 0,(lf l 8) 0,(lf l 9),(lf l 10),(lf l 11) 0,(lf l 12),(lf l 13),(lf l 14),(lf l 15) 0,(lf l 16) 0,(lf l 17) 0,(lf l 18) 0,(lf l 19) 0,(lf l 20),(lf l 21) 0,(lf l 22) 0,(lf l 23) 0,(lf l 24) 0,(lf l 25) 0,(lf l 26) 0,(lf l 27) 0,(lf l 28) 0,(lf l 29)⟩)) λ_ _=>Eg _
 | 200=>uB 0 4294967295 (L1 λr=>λ_=>Lz.gN 0 4294967295 0 r) λ_ _=>Lz.oq dc _ _
 | 201=>uB 16777216 4294967295 (L1 λr=>λ_=>Lz.gN 16777216 4294967295 1 r) λ_ _=>Lz.oq dc _ _
 | 202=>uB 0 4 (L1 λr=>λ_=>Lz.gN 0 4 2 r) λ_ _=>Lz.oq dc _ _
 | 203=>uB 0 8192 (L1 λr=>λ_=>Lz.gN 0 8192 3 r) λ_ _=>Lz.oq dc _ _
 | 204=>uB 0 128 (L1 λr=>λ_=>Lz.gN 0 128 4 r) λ_ _=>Lz.oq dc _ _
 | 205=>uB 0 1 (L1 λr=>λ_=>Lz.gN 0 1 5 r) λ_ _=>Lz.oq dc _ _
 | 206=>uB 0 257 (L1 λr=>λ_=>Lz.gN 0 257 6 r) λ_ _=>Lz.oq dc _ _
 | 207=>uB 0 4096 (L1 λr=>λ_=>Lz.gN 0 4096 7 r) λ_ _=>Lz.oq dc _ _
 | 208=>uB 0 255 (L1 λr=>λ_=>Lz.gN 0 255 8 r) λ_ _=>Lz.oq dc _ _
 | 209=>uB 1 255 (L1 λr=>λ_=>Lz.gN 1 255 9 r) λ_ _=>Lz.oq dc _ _
 | 210=>uB 0 4 (L1 λr=>λ_=>Lz.gN 0 4 10 r) λ_ _=>Lz.oq dc _ _
 | 211=>uB 0 4095 (L1 λr=>λ_=>Lz.gN 0 4095 11 r) λ_ _=>Lz.oq dc _ _
 | 212=>uB 0 257 (L1 λr=>λ_=>Lz.gN 0 257 12 r) λ_ _=>Lz.oq dc _ _
 | 213=>uB 0 4096 (L1 λr=>λ_=>Lz.gN 0 4096 13 r) λ_ _=>Lz.oq dc _ _
 | 214=>uB 0 255 (L1 λr=>λ_=>Lz.gN 0 255 14 r) λ_ _=>Lz.oq dc _ _
 | 215=>uB 0 257 (L1 λr=>λ_=>Lz.gN 0 257 15 r) λ_ _=>Lz.oq dc _ _
 | 216=>uB 1 4 (L1 λr=>λ_=>Lz.gN 1 4 16 r) λ_ _=>Lz.oq dc _ _
 | 220=>uB 31 2017 (L1 λr=>Lz.gR 31 2017 0 r) λ_ _=>Lz.KM dc _ _ _
 | 221=>uB 31 2017 (L1 λr=>Lz.gR 31 2017 1 r) λ_ _=>Lz.KM dc _ _ _
 | 222=>uB 31 2017 (L1 λr=>Lz.gR 31 2017 2 r) λ_ _=>Lz.KM dc _ _ _
 | 223=>uB 31 2017 (L1 λr=>Lz.gR 31 2017 3 r) λ_ _=>Lz.KM dc _ _ _
 | 224=>uB 0 255 (L1 λr=>Lz.gR 0 255 4 r) λ_ _=>Lz.KM dc _ _ _
 | 225=>uB 0 255 (L1 λr=>Lz.gR 0 255 5 r) λ_ _=>Lz.KM dc _ _ _
 | _=>uN λ_ _=>0
class kv where
 t:Nat->UF
variable [kv]
def ut (k:Nat):UF:=bif Nat.blt k 1000 then ut1 k else kv.t k
instance:bI:=⟨λk=>(ut k).f,λk=>(ut k).b,λk=>(ut k).ok⟩
end
end Go.Z
namespace Go.Z
open Go
section
variable [bI] [Env]
theorem bl (n:Int):N (.i n)=n:=rfl
theorem bB (a b:X):N (.o2 0 a b)=N a+N b:=rfl
theorem iY (a b:X):N (.o2 1 a b)=N a - N b:=rfl
theorem dH (a b:X):N (.o2 2 a b)=N a*N b:=rfl
theorem gQ {a:X} {k:Int} (h:0<=N a):N (.o2 3 a (.i k))=N a / k:=ar4 h
theorem uj {a:X} {k:Int} (h:0<=N a):N (.o2 4 a (.i k))=N a % k:=JY h
theorem uk {a:X} (k:Nat) (h:0<=N a):N (.o2 10 a (.i (k:Int)))=N a / ((2 ^ k:Nat):Int):=by
 show (((N a).toNat>>>((k:Int)).toNat:Nat):Int)=_
 rw[fg,qQ]
 have:N a=((N a).toNat:Int):=by omega
 conv=>rhs; rw[this]
 exact adR _ _
theorem aPA {a:X} (h:0<=N a):N (.o2 5 a (.i 1))=N a % 2:=by
 show (((N a).toNat &&& 1:Nat):Int)=_
 rw[Nat.and_one_is_mod]
 omega
theorem CP {a i:X} (h:0<=N a):N (.o2 5 (.o2 10 a i) (.i 1))=N a / 2 ^ (N i).toNat % 2:=by
 have e:N (.o2 10 a i)=N a / 2 ^ (N i).toNat:=by
  show (((N a).toNat>>>(N i).toNat:Nat):Int)=_
  rw[qQ]
  have:N a=((N a).toNat:Int):=by omega
  conv=>rhs; rw[this]
  rw[adR,Int.natCast_pow]; rfl
 rw[aPA (by rw[e]; exact yj h (JW (Int.pow_pos dc))),e]
theorem jx (a b:X):N (.o2 11 a b)=tf (decide (N a < N b)):=rfl
theorem N4 (a b:X):N (.o2 12 a b)=tf (decide (N a=N b)):=rfl
theorem N5 (a:X):N (.o1 8 a)=tf (decide (N a=0)):=rfl
theorem CQ (c a b:X):N (.o3 1 c a b)=if N c=0 then N b else N a:=rfl
theorem Gh (a i:X):N (.o2 14 a i)=D a (N i).toNat:=rfl
theorem oZ (a i:X) (q:Nat):D (.o2 15 a i) q=D a (q+(N i).toNat):=rfl
theorem cE (a n b:X) (q:Nat):D (.o3 0 a n b) q=if (q:Int) < N n then D a q else D b (q - (N n).toNat):=rfl
theorem CK (c a b:X) (q:Nat):D (.o3 1 c a b) q=if N c=0 then D b q else D a q:=rfl
theorem yq (a:X):N (.o1 3 a)=N a % 256:=rfl
theorem asc {a:X} (h:-9223372036854775808<=N a) (h':N a < 9223372036854775808):N (.o1 4 a)=N a:=als (k:=.i64) ⟨h,show N a<=9223372036854775807 by omega⟩
omit [bI] [Env] in
theorem vc (p:Prop) [Decidable p]:(tf (decide p)=0)=¬p:=by
 by_cases h:p
 .simp[h,tf]
 .simp[h,tf]
theorem aPB (a b x y:X):N (.o3 1 (.o2 12 a b) x y)=if N a=N b then N x else N y:=by
 by_cases h:N a=N b
 .have h1:¬N (.o2 12 a b)=0:=by rw[N4,vc]; exact λk=>k h
  rw[CQ,if_neg h1,if_pos h]
 .have h1:N (.o2 12 a b)=0:=by rw[N4,vc]; exact h
  rw[CQ,if_pos h1,if_neg h]
theorem wg (a b x y:X):N (.o3 1 (.o2 11 a b) x y)=if N a < N b then N x else N y:=by
 by_cases h:N a < N b
 .have h1:¬N (.o2 11 a b)=0:=by rw[jx,vc]; exact λk=>k h
  rw[CQ,if_neg h1,if_pos h]
 .have h1:N (.o2 11 a b)=0:=by rw[jx,vc]; exact h
  rw[CQ,if_pos h1,if_neg h]
theorem aPr (a b x y:X) (q:Nat):D (.o3 1 (.o2 12 a b) x y) q=if N a=N b then D x q else D y q:=by
 by_cases h:N a=N b
 .have h1:¬N (.o2 12 a b)=0:=by rw[N4,vc]; exact λk=>k h
  rw[CK,if_neg h1,if_pos h]
 .have h1:N (.o2 12 a b)=0:=by rw[N4,vc]; exact h
  rw[CK,if_pos h1,if_neg h]
theorem arY (a b x y:X) (q:Nat):D (.o3 1 (.o2 11 a b) x y) q=if N a < N b then D x q else D y q:=by
 by_cases h:N a < N b
 .have h1:¬N (.o2 11 a b)=0:=by rw[jx,vc]; exact λk=>k h
  rw[CK,if_neg h1,if_pos h]
 .have h1:N (.o2 11 a b)=0:=by rw[jx,vc]; exact h
  rw[CK,if_pos h1,if_neg h]
theorem ui (a:X) (k:Int) (x y:X):N (.o3 1 (.o2 12 a (.i k)) x y)=if N a=k then N x else N y:=aPB a (.i k) x y
theorem pX (a:X) (k:Int) (x y:X):N (.o3 1 (.o2 11 a (.i k)) x y)=if N a < k then N x else N y:=wg a (.i k) x y
theorem CS (a:X) (k:Int) (x y:X):N (.o3 1 (.o2 11 (.i k) a) x y)=if k < N a then N x else N y:=wg (.i k) a x y
theorem arX (a:X) (k:Int) (x y:X) (q:Nat):D (.o3 1 (.o2 12 a (.i k)) x y) q=if N a=k then D x q else D y q:=aPr a (.i k) x y q
theorem arZ (a:X) (k:Int) (x y:X) (q:Nat):D (.o3 1 (.o2 11 a (.i k)) x y) q=if N a < k then D x q else D y q:=arY a (.i k) x y q
theorem yo (c x y:X):N (.o3 1 (.o1 8 c) x y)=N (.o3 1 c y x):=by
 by_cases h:N c=0
 .have h1:¬N (.o1 8 c)=0:=by rw[N5,vc]; exact λk=>k h
  rw[CQ,CQ,if_neg h1,if_pos h]
 .have h1:N (.o1 8 c)=0:=by rw[N5,vc]; exact h
  rw[CQ,CQ,if_pos h1,if_neg h]
theorem ar0 (c x y:X) (q:Nat):D (.o3 1 (.o1 8 c) x y) q=D (.o3 1 c y x) q:=by
 by_cases h:N c=0
 .have h1:¬N (.o1 8 c)=0:=by rw[N5,vc]; exact λk=>k h
  rw[CK,CK,if_neg h1,if_pos h]
 .have h1:N (.o1 8 c)=0:=by rw[N5,vc]; exact h
  rw[CK,CK,if_pos h1,if_neg h]
theorem aD {x y:X} (h:N x=N y):D (.o2 0 x (.i 0))=D (.o2 0 y (.i 0)):=funext λ_=>by
 show N x+0=N y+0
 rw[h]
theorem aq {x y n:X} (h:∀q:Nat,(q:Int) < N n->D x q=D y q) (z:X):D (.o3 0 x n z)=D (.o3 0 y n z):=by
 funext q
 rw[cE,cE]
 by_cases e:(q:Int) < N n
 .rw[if_pos e,if_pos e,h q e]
 .rw[if_neg e,if_neg e]
theorem adJ (n:X) (p:Nat):D (.o3 0 (.i 0) n (.i 0)) p=0:=by rw[cE]; exact ite_self _
theorem su {r i x:X} (hi:0<=N i):D (.o3 0 r i (.o3 0 x (.i 1) (.o2 15 r (.o2 0 i (.i 1)))))=λq=>if q=(N i).toNat then N x else D r q:=by
 funext q
 rw[cE,cE,oZ]
 have e1:N (.i 1)=1:=rfl
 have e2:N (.o2 0 i (.i 1))=N i+1:=rfl
 rw[e1,e2]
 by_cases h:q=(N i).toNat
 .rw[if_neg om,if_pos om,if_pos h,show q - (N i).toNat=0 by omega]; rfl
 .rw[if_neg h]
  by_cases h2:(q:Int) < N i
  .rw[if_pos h2]
  .rw[if_neg h2,if_neg om]
   congr 1; omega
theorem dS {p:Prop} (h:p):decide (yes p≠0)=true:=decide_eq_true (by rw[Yz h]; decide)
theorem Oj {l k l' k':Int} (h:l=l') (h':k=k') (q:Nat):Lz.be l k q=Lz.be l' k' q:=by rw[h,h']
end
section
variable [kv] [Env]
theorem yy {w p:X} (h:0<=N w):N (.o2 2 (.o2 10 w (.i 11)) (.f 10 (.c p .n)))=Lz.bU (N w) (N p):=by
 rw[dH]
 have e:N (.o2 10 w (.i 11))=N w / 2048:=uk 11 h
 rw[e]; rfl
abbrev Aw (tk j:X):X:=.o2 14 tk (.o2 2 j (.i 3))
abbrev Dd (tk j:X):X:=.o2 14 tk (.o2 0 (.o2 2 j (.i 3)) (.i 1))
abbrev UL (tk j:X):X:=.o2 14 tk (.o2 0 (.o2 2 j (.i 3)) (.i 2))
theorem aQW {tk j:X} (h:0<=N j):N (Aw tk j)=D tk (3*(N j).toNat)/\N (Dd tk j)=D tk (3*(N j).toNat+1)/\N (UL tk j)=D tk (3*(N j).toNat+2):=by
 refine⟨?_,?_,?_⟩
 .show D tk (N j*3).toNat=_
  congr 1; omega
 .show D tk (N j*3+1).toNat=_
  congr 1; omega
 .show D tk (N j*3+2).toNat=_
  congr 1; omega
theorem aD6 {tk j:X} {n made:Int} (h0:0<=N j) (h:N j < n) (hr:Lz.np (D tk) (N j) n made):Lz.l5 (N (Aw tk j)) (N (Dd tk j)) (N (UL tk j)) made/\Lz.jc (N (Aw tk j))<=8192 - made/\Lz.np (D tk) (N j+1) n (made+Lz.jc (N (Aw tk j))):=by
 obtain⟨e0,e1,e2⟩:=aQW (tk:=tk) h0
 rw[e0,e1,e2]
 exact Lz.a8X h0 h hr
theorem aRJ {a b:X} (h:N a=N b):decide (N (.o2 12 a b)≠0)=true:=decide_eq_true (by rw[show N (.o2 12 a b)=tf (decide (N a=N b)) from rfl,decide_eq_true h]; decide)
theorem sW (a:X):N (.o3 1 (.o2 11 (.i 4096) a) (.i 4096) a)=Lz.jF (N a) 4096:=by
 rw[CS]
 unfold Lz.jF
 by_cases h:4096 < N a
 .rw[if_pos h,if_neg om]; rfl
 .rw[if_neg h]
  by_cases h2:N a < 4096
  .rw[if_pos h2]
  .rw[if_neg h2]; omega
end
end Go.Z
