import Derived.Test.YtgmieahcpkcabaaGreatBq10
import Derived.Test.YtgmieahcpkcabaaGreatBq1
import Derived.Test.YtgmieahcpkcabaaGreatBq5
import Derived.Test.YtgmieahcpkcabaaGreatBq6
import Derived.Test.YtgmieahcpkcabaaGreatBq7
set_option maxRecDepth 100000
set_option linter.unusedSimpArgs false
set_option linter.unusedVariables false
set_option linter.constructorNameAsVariable false
set_option linter.unusedSectionVars false
noncomputable section
namespace Go.Gr
set_option maxHeartbeats 8000000
theorem idX (x1 y1 x2 y2 x3 y3 d:Int):((x1*y2+y1*x2)*(1-d*x1*x2*y1*y2)*y3+(y1*y2+x1*x2)*(1+d*x1*x2*y1*y2)*x3)*((1+d*x2*x3*y2*y3)*(1-d*x2*x3*y2*y3)+d*(x2*y3+y2*x3)*(y2*y3+x2*x3)*x1*y1) - ((x2*y3+y2*x3)*(1-d*x2*x3*y2*y3)*y1+(y2*y3+x2*x3)*(1+d*x2*x3*y2*y3)*x1)*((1+d*x1*x2*y1*y2)*(1-d*x1*x2*y1*y2)+d*(x1*y2+y1*x2)*(y1*y2+x1*x2)*x3*y3)=(y1*x2*y2^4*x3^2*y3*d+y1*x2^2*y2^3*x3*d+y1*x2^2*y2^3*x3^3*d+y1*x2^3*y2^2*y3*d+(-1)*y1*x2^3*y2^2*y3^3*d+(-1)*y1*x2^3*y2^4*x3^2*y3*d^2+(-1)*y1*x2^4*y2*x3*y3^2*d+(-1)*y1*x2^4*y2^3*x3*y3^2*d^2+(-1)*x1*x2*y2^4*x3*y3^2*d+x1*x2^2*y2^3*y3*d+(-1)*x1*x2^2*y2^3*y3^3*d+x1*x2^3*y2^2*x3*d+x1*x2^3*y2^2*x3^3*d+x1*x2^3*y2^4*x3*y3^2*d^2+x1*x2^4*y2*x3^2*y3*d+x1*x2^4*y2^3*x3^2*y3*d^2)*(d*x1^2*y1^2 - y1^2+x1^2+1)+((-1)*y1*y2*x3+y1*y2*x3*y3^2+(-1)*y1*y2*x3^3+(-1)*y1*y2*x3^3*y3^2*d+(-1)*y1*x2*y3+y1*x2*y3^3+(-1)*y1*x2*x3^2*y3+(-1)*y1*x2*x3^2*y3^3*d+y1*x2*y2^2*x3^2*y3*d+y1*x2^2*y2*x3*y3^2*d+y1^3*y2*x3+(-1)*y1^3*y2*x3*y3^2+y1^3*y2*x3^3+y1^3*y2*x3^3*y3^2*d+y1^3*x2*y3+(-1)*y1^3*x2*y3^3+y1^3*x2*x3^2*y3+y1^3*x2*x3^2*y3^3*d+(-1)*y1^3*x2*y2^2*x3^2*y3*d+(-1)*y1^3*x2^2*y2*x3*y3^2*d+(-1)*x1*y2*y3+x1*y2*y3^3+(-1)*x1*y2*x3^2*y3+(-1)*x1*y2*x3^2*y3^3*d+(-1)*x1*x2*x3+x1*x2*x3*y3^2+(-1)*x1*x2*x3^3+(-1)*x1*x2*x3^3*y3^2*d+(-1)*x1*x2*y2^2*x3*y3^2*d+(-1)*x1*x2^2*y2*x3^2*y3*d+x1*y1^2*y2*y3+(-1)*x1*y1^2*y2*y3^3+x1*y1^2*y2*x3^2*y3+x1*y1^2*y2*x3^2*y3^3*d+x1*y1^2*x2*x3+(-1)*x1*y1^2*x2*x3*y3^2+x1*y1^2*x2*x3^3+x1*y1^2*x2*x3^3*y3^2*d+x1*y1^2*x2*y2^2*x3*y3^2*d+(-1)*x1*y1^2*x2*y2^2*x3^3*y3^2*d^2+x1*y1^2*x2^2*y2*x3^2*y3*d+x1*y1^2*x2^2*y2*x3^2*y3^3*d^2+(-1)*x1^2*y1*y2*x3+x1^2*y1*y2*x3*y3^2+(-1)*x1^2*y1*y2*x3^3+(-1)*x1^2*y1*y2*x3^3*y3^2*d+(-1)*x1^2*y1*x2*y3+x1^2*y1*x2*y3^3+(-1)*x1^2*y1*x2*x3^2*y3+(-1)*x1^2*y1*x2*x3^2*y3^3*d+x1^2*y1*x2*y2^2*x3^2*y3*d+x1^2*y1*x2*y2^2*x3^2*y3^3*d^2+x1^2*y1*x2^2*y2*x3*y3^2*d+(-1)*x1^2*y1*x2^2*y2*x3^3*y3^2*d^2+(-1)*x1^3*y2*y3+x1^3*y2*y3^3+(-1)*x1^3*y2*x3^2*y3+(-1)*x1^3*y2*x3^2*y3^3*d+(-1)*x1^3*x2*x3+x1^3*x2*x3*y3^2+(-1)*x1^3*x2*x3^3+(-1)*x1^3*x2*x3^3*y3^2*d+(-1)*x1^3*x2*y2^2*x3*y3^2*d+(-1)*x1^3*x2^2*y2*x3^2*y3*d)*(d*x2^2*y2^2 - y2^2+x2^2+1)+(y1*y2*x3+(-1)*y1*y2^3*x3+y1*x2*y3+(-1)*y1*x2*y2^2*y3+y1*x2^2*y2*x3+y1*x2^3*y3+(-1)*y1^3*y2*x3+y1^3*y2^3*x3+(-1)*y1^3*x2*y3+y1^3*x2*y2^2*y3+(-1)*y1^3*x2^2*y2*x3+(-1)*y1^3*x2^3*y3+x1*y2*y3+(-1)*x1*y2^3*y3+x1*x2*x3+(-1)*x1*x2*y2^2*x3+x1*x2^2*y2*y3+x1*x2^3*x3+(-1)*x1*y1^2*y2*y3+x1*y1^2*y2^3*y3+(-1)*x1*y1^2*x2*x3+x1*y1^2*x2*y2^2*x3+x1*y1^2*x2*y2^2*x3*d+(-1)*x1*y1^2*x2^2*y2*y3+(-1)*x1*y1^2*x2^2*y2*y3*d+(-1)*x1*y1^2*x2^3*x3+x1^2*y1*y2*x3+(-1)*x1^2*y1*y2^3*x3+x1^2*y1*x2*y3+(-1)*x1^2*y1*x2*y2^2*y3+(-1)*x1^2*y1*x2*y2^2*y3*d+x1^2*y1*x2^2*y2*x3+x1^2*y1*x2^2*y2*x3*d+x1^2*y1*x2^3*y3+x1^3*y2*y3+(-1)*x1^3*y2^3*y3+x1^3*x2*x3+(-1)*x1^3*x2*y2^2*x3+x1^3*x2^2*y2*y3+x1^3*x2^3*x3)*(d*x3^2*y3^2 - y3^2+x3^2+1):=by grind
theorem idY (x1 y1 x2 y2 x3 y3 d:Int):((y1*y2+x1*x2)*(1+d*x1*x2*y1*y2)*y3+(x1*y2+y1*x2)*(1-d*x1*x2*y1*y2)*x3)*((1+d*x2*x3*y2*y3)*(1-d*x2*x3*y2*y3)-d*(x2*y3+y2*x3)*(y2*y3+x2*x3)*x1*y1) - ((y2*y3+x2*x3)*(1+d*x2*x3*y2*y3)*y1+(x2*y3+y2*x3)*(1-d*x2*x3*y2*y3)*x1)*((1+d*x1*x2*y1*y2)*(1-d*x1*x2*y1*y2)-d*(x1*y2+y1*x2)*(y1*y2+x1*x2)*x3*y3)=((-1)*y1*x2*y2^4*x3*y3^2*d+y1*x2^2*y2^3*y3*d+(-1)*y1*x2^2*y2^3*y3^3*d+y1*x2^3*y2^2*x3*d+y1*x2^3*y2^2*x3^3*d+y1*x2^3*y2^4*x3*y3^2*d^2+y1*x2^4*y2*x3^2*y3*d+y1*x2^4*y2^3*x3^2*y3*d^2+x1*x2*y2^4*x3^2*y3*d+x1*x2^2*y2^3*x3*d+x1*x2^2*y2^3*x3^3*d+x1*x2^3*y2^2*y3*d+(-1)*x1*x2^3*y2^2*y3^3*d+(-1)*x1*x2^3*y2^4*x3^2*y3*d^2+(-1)*x1*x2^4*y2*x3*y3^2*d+(-1)*x1*x2^4*y2^3*x3*y3^2*d^2)*(d*x1^2*y1^2 - y1^2+x1^2+1)+((-1)*y1*y2*y3+y1*y2*y3^3+(-1)*y1*y2*x3^2*y3+(-1)*y1*y2*x3^2*y3^3*d+(-1)*y1*x2*x3+y1*x2*x3*y3^2+(-1)*y1*x2*x3^3+(-1)*y1*x2*x3^3*y3^2*d+(-1)*y1*x2*y2^2*x3*y3^2*d+(-1)*y1*x2^2*y2*x3^2*y3*d+y1^3*y2*y3+(-1)*y1^3*y2*y3^3+y1^3*y2*x3^2*y3+y1^3*y2*x3^2*y3^3*d+y1^3*x2*x3+(-1)*y1^3*x2*x3*y3^2+y1^3*x2*x3^3+y1^3*x2*x3^3*y3^2*d+y1^3*x2*y2^2*x3*y3^2*d+y1^3*x2^2*y2*x3^2*y3*d+(-1)*x1*y2*x3+x1*y2*x3*y3^2+(-1)*x1*y2*x3^3+(-1)*x1*y2*x3^3*y3^2*d+(-1)*x1*x2*y3+x1*x2*y3^3+(-1)*x1*x2*x3^2*y3+(-1)*x1*x2*x3^2*y3^3*d+x1*x2*y2^2*x3^2*y3*d+x1*x2^2*y2*x3*y3^2*d+x1*y1^2*y2*x3+(-1)*x1*y1^2*y2*x3*y3^2+x1*y1^2*y2*x3^3+x1*y1^2*y2*x3^3*y3^2*d+x1*y1^2*x2*y3+(-1)*x1*y1^2*x2*y3^3+x1*y1^2*x2*x3^2*y3+x1*y1^2*x2*x3^2*y3^3*d+(-1)*x1*y1^2*x2*y2^2*x3^2*y3*d+(-1)*x1*y1^2*x2*y2^2*x3^2*y3^3*d^2+(-1)*x1*y1^2*x2^2*y2*x3*y3^2*d+x1*y1^2*x2^2*y2*x3^3*y3^2*d^2+(-1)*x1^2*y1*y2*y3+x1^2*y1*y2*y3^3+(-1)*x1^2*y1*y2*x3^2*y3+(-1)*x1^2*y1*y2*x3^2*y3^3*d+(-1)*x1^2*y1*x2*x3+x1^2*y1*x2*x3*y3^2+(-1)*x1^2*y1*x2*x3^3+(-1)*x1^2*y1*x2*x3^3*y3^2*d+(-1)*x1^2*y1*x2*y2^2*x3*y3^2*d+x1^2*y1*x2*y2^2*x3^3*y3^2*d^2+(-1)*x1^2*y1*x2^2*y2*x3^2*y3*d+(-1)*x1^2*y1*x2^2*y2*x3^2*y3^3*d^2+(-1)*x1^3*y2*x3+x1^3*y2*x3*y3^2+(-1)*x1^3*y2*x3^3+(-1)*x1^3*y2*x3^3*y3^2*d+(-1)*x1^3*x2*y3+x1^3*x2*y3^3+(-1)*x1^3*x2*x3^2*y3+(-1)*x1^3*x2*x3^2*y3^3*d+x1^3*x2*y2^2*x3^2*y3*d+x1^3*x2^2*y2*x3*y3^2*d)*(d*x2^2*y2^2 - y2^2+x2^2+1)+(y1*y2*y3+(-1)*y1*y2^3*y3+y1*x2*x3+(-1)*y1*x2*y2^2*x3+y1*x2^2*y2*y3+y1*x2^3*x3+(-1)*y1^3*y2*y3+y1^3*y2^3*y3+(-1)*y1^3*x2*x3+y1^3*x2*y2^2*x3+(-1)*y1^3*x2^2*y2*y3+(-1)*y1^3*x2^3*x3+x1*y2*x3+(-1)*x1*y2^3*x3+x1*x2*y3+(-1)*x1*x2*y2^2*y3+x1*x2^2*y2*x3+x1*x2^3*y3+(-1)*x1*y1^2*y2*x3+x1*y1^2*y2^3*x3+(-1)*x1*y1^2*x2*y3+x1*y1^2*x2*y2^2*y3+x1*y1^2*x2*y2^2*y3*d+(-1)*x1*y1^2*x2^2*y2*x3+(-1)*x1*y1^2*x2^2*y2*x3*d+(-1)*x1*y1^2*x2^3*y3+x1^2*y1*y2*y3+(-1)*x1^2*y1*y2^3*y3+x1^2*y1*x2*x3+(-1)*x1^2*y1*x2*y2^2*x3+(-1)*x1^2*y1*x2*y2^2*x3*d+x1^2*y1*x2^2*y2*y3+x1^2*y1*x2^2*y2*y3*d+x1^2*y1*x2^3*x3+x1^3*y2*x3+(-1)*x1^3*y2^3*x3+x1^3*x2*y3+(-1)*x1^3*x2*y2^2*y3+x1^3*x2^2*y2*x3+x1^3*x2^3*y3)*(d*x3^2*y3^2 - y3^2+x3^2+1):=by grind
theorem idC (x1 y1 x2 y2 d:Int):d*(x1*y2+y1*x2)^2*(y1*y2+x1*x2)^2 - (y1*y2+x1*x2)^2*(1+d*x1*x2*y1*y2)^2+(x1*y2+y1*x2)^2*(1-d*x1*x2*y1*y2)^2+(1+d*x1*x2*y1*y2)^2*(1-d*x1*x2*y1*y2)^2=(y2^4+(-4)*x2^2*y2^2+(-2)*x2^2*y2^2*d+2*x2^2*y2^4+x2^4+(-2)*x2^4*y2^2+(-2)*x2^4*y2^4*d+(-1)*x2^4*y2^4*d^2+(-1)*y1^2*x2^2*y2^4*d+y1^2*x2^4*y2^2*d+y1^2*x2^4*y2^4*d^2+x1^2*x2^2*y2^4*d+(-1)*x1^2*x2^4*y2^2*d+(-1)*x1^2*x2^4*y2^4*d^2+x1^2*y1^2*x2^4*y2^4*d^3)*(d*x1^2*y1^2 - y1^2+x1^2+1)+(1+y2^2+(-1)*x2^2+2*x2^2*y2^2+x2^2*y2^2*d+(-1)*y1^2*y2^2+y1^2*x2^2+(-2)*y1^2*x2^2*y2^2+(-2)*y1^2*x2^2*y2^2*d+y1^4*x2^2*y2^2*d+x1^2*y2^2+(-1)*x1^2*x2^2+2*x1^2*x2^2*y2^2+2*x1^2*x2^2*y2^2*d+x1^4*x2^2*y2^2*d)*(d*x2^2*y2^2 - y2^2+x2^2+1):=by grind
structure kY (p d:Int):Prop where
 jW:∀{a b:Int},p∣a*b->p∣a\/p∣b
 two:¬p∣2
 im:∃i:Int,p∣i*i+1
 non:∀{a b:Int},p∣a*a - d*(b*b)->p∣b
 inv:∀{a:Int},¬p∣a->∃b,p∣a*b - 1
 pos:0 < p
def On (p d x y:Int):Prop:=p∣d*x ^ 2*y ^ 2 - y ^ 2+x ^ 2+1
variable {p d:Int}
theorem kY.one (F:kY p d):¬p∣1:=λh=>F.two (Int.dvd_trans h ⟨2,by omega⟩)
theorem Dj {a b:Int} (h:p∣a) (e:a=b):p∣b:=e▸h
theorem qX {a c x:Int} (h:p∣a) (e:x=c*a):p∣x:=e▸yi h
theorem yF {a b c k x:Int} (h:p∣a) (g:p∣b) (e:x=c*a+k*b):p∣x:=e▸yh (yi h) (yi g)
theorem ux {a b c k l m x:Int} (h:p∣a) (g:p∣b) (f:p∣l) (e:x=c*a+k*b+m*l):p∣x:=e▸yh (yh (yi h) (yi g)) (yi f)
theorem aRz {a b c k l m n q x:Int} (h:p∣a) (g:p∣b) (f:p∣l) (t:p∣n) (e:x=c*a+k*b+m*l+q*n):p∣x:=e▸yh (yh (yh (yi h) (yi g)) (yi f)) (yi t)
theorem idN (x1 y1 x2 y2 d i s c:Int) (hs:s*s=1) (hc:c*c=1):(y1+s*i*c*x1)*(y1+s*i*c*x1) - d*((x1*y1*(y2+s*i*x2))*(x1*y1*(y2+s*i*x2)))=(-1)*(d*x1 ^ 2*y1 ^ 2 - y1 ^ 2+x1 ^ 2+1)+(d*x1 ^ 2*y1 ^ 2)*(d*x2 ^ 2*y2 ^ 2 - y2 ^ 2+x2 ^ 2+1)+(-(d*x1*x2*y1*y2+c) - 2*s*i*x1*y1)*(d*x1*x2*y1*y2 - c)+(x1 ^ 2 - d*x1 ^ 2*y1 ^ 2*x2 ^ 2)*(i*i+1):=by grind
theorem kY.full (F:kY p d) {x1 y1 x2 y2:Int} (h1:On p d x1 y1) (h2:On p d x2 y2) {c:Int} (hc:c*c=1):¬p∣d*x1*x2*y1*y2 - c:=λhg=>by
 obtain⟨i,hi⟩:=F.im
 have key:∀s:Int,s*s=1->p∣x1*y1*(y2+s*i*x2):=λs hs=>F.non (aRz h1 h2 hg hi (idN x1 y1 x2 y2 d i s c hs hc))
 have hcn:¬p∣c:=λh=>F.one (hc▸yi h)
 have hne:¬p∣d*x1*x2*y1*y2:=λh=>hcn (by have:=F8 h hg; rwa [show d*x1*x2*y1*y2 - (d*x1*x2*y1*y2 - c)=c by omega] at this)
 have hxy:¬p∣x1*y1:=λh=>hne (qX (c:=d*x2*y2) h (by grind))
 have k1:=(F.jW (key 1 rfl)).resolve_left hxy
 have k2:=(F.jW (key (-1) rfl)).resolve_left hxy
 have k3:p∣2*y2:=by have:=yh k1 k2; exact Dj this (by grind)
 have k4:=(F.jW k3).resolve_left F.two
 exact hne (qX (c:=d*x1*x2*y1) k4 (by grind))
theorem kY.plus (F:kY p d) {x1 y1 x2 y2:Int} (h1:On p d x1 y1) (h2:On p d x2 y2):¬p∣1+d*x1*x2*y1*y2:=λh=>F.full h1 h2 (c:=-1) rfl (Dj h om)
theorem kY.minus (F:kY p d) {x1 y1 x2 y2:Int} (h1:On p d x1 y1) (h2:On p d x2 y2):¬p∣1 - d*x1*x2*y1*y2:=λh=>F.full h1 h2 (c:=1) rfl (qX (c:=-1) h om)
structure Sum (p d x1 y1 x2 y2 x y:Int):Prop where
 x:p∣x*(1+d*x1*x2*y1*y2) - (x1*y2+y1*x2)
 y:p∣y*(1 - d*x1*x2*y1*y2) - (y1*y2+x1*x2)
theorem kY.sum (F:kY p d) {x1 y1 x2 y2:Int} (h1:On p d x1 y1) (h2:On p d x2 y2):∃x y,Sum p d x1 y1 x2 y2 x y:=by
 obtain⟨a,ha⟩:=F.inv (F.plus h1 h2)
 obtain⟨b,hb⟩:=F.inv (F.minus h1 h2)
 exact⟨(x1*y2+y1*x2)*a,(y1*y2+x1*x2)*b,qX (c:=x1*y2+y1*x2) ha (by grind),qX (c:=y1*y2+x1*x2) hb (by grind)⟩
theorem kY.cancel (F:kY p d) {a x y:Int} (ha:¬p∣a) (h:p∣(x - y)*a):p∣x - y:=(F.jW h).resolve_right ha
theorem Sum.on (F:kY p d) {x1 y1 x2 y2 x y:Int} (h1:On p d x1 y1) (h2:On p d x2 y2) (s:Sum p d x1 y1 x2 y2 x y):On p d x y:=by
 have hC:p∣d*(x1*y2+y1*x2)^2*(y1*y2+x1*x2)^2 - (y1*y2+x1*x2)^2*(1+d*x1*x2*y1*y2)^2+(x1*y2+y1*x2)^2*(1-d*x1*x2*y1*y2)^2+(1+d*x1*x2*y1*y2)^2*(1-d*x1*x2*y1*y2)^2:=yF h1 h2 (idC x1 y1 x2 y2 d)
 have sx:=s.x
 have sy:=s.y
 have n1:=F.plus h1 h2
 have n2:=F.minus h1 h2
 generalize x1*y2+y1*x2=A at hC sx
 generalize y1*y2+x1*x2=B at hC sy
 generalize 1+d*x1*x2*y1*y2=D at hC sx n1
 generalize 1-d*x1*x2*y1*y2=E at hC sy n2
 have:p∣((((d*x ^ 2*y ^ 2 - y ^ 2+x ^ 2+1)*D)*D)*E)*E:=ux (m:=1) (c:=(x*D+A)*(d*(y*E) ^ 2+E ^ 2)) (k:=(y*E+B)*(d*A ^ 2 - D ^ 2)) sx sy hC (by grind)
 exact (F.jW ((F.jW ((F.jW ((F.jW this).resolve_right n2)).resolve_right n2)).resolve_right n1)).resolve_right n1
theorem Sum.uniq (F:kY p d) {x1 y1 x2 y2 x y x' y':Int} (h1:On p d x1 y1) (h2:On p d x2 y2) (s:Sum p d x1 y1 x2 y2 x y) (t:Sum p d x1 y1 x2 y2 x' y'):p∣x - x'/\p∣y - y':=by
 have a:=F8 s.x t.x
 have b:=F8 s.y t.y
 exact⟨F.cancel (F.plus h1 h2) (Dj a (by grind)),F.cancel (F.minus h1 h2) (Dj b (by grind))⟩
theorem Sum.comm {x1 y1 x2 y2 x y:Int} (s:Sum p d x1 y1 x2 y2 x y):Sum p d x2 y2 x1 y1 x y:=⟨Dj s.x (by grind),Dj s.y (by grind)⟩
theorem Sum.zero (x y:Int):Sum p d 0 1 x y x y:=⟨⟨0,by grind⟩,⟨0,by grind⟩⟩
theorem Sum.neg {x y:Int} (h:On p d x y):Sum p d (-x) y x y 0 1:=⟨⟨0,by grind⟩,qX (c:=1) h (by grind)⟩
theorem Sum.clear {x1 y1 x2 y2 x3 y3 sx sy x y:Int} (s:Sum p d x1 y1 x2 y2 sx sy) (t:Sum p d sx sy x3 y3 x y):p∣x*((1+d*x1*x2*y1*y2)*(1-d*x1*x2*y1*y2)+d*(x1*y2+y1*x2)*(y1*y2+x1*x2)*x3*y3) - ((x1*y2+y1*x2)*(1-d*x1*x2*y1*y2)*y3+(y1*y2+x1*x2)*(1+d*x1*x2*y1*y2)*x3)/\p∣y*((1+d*x1*x2*y1*y2)*(1-d*x1*x2*y1*y2)-d*(x1*y2+y1*x2)*(y1*y2+x1*x2)*x3*y3) - ((y1*y2+x1*x2)*(1+d*x1*x2*y1*y2)*y3+(x1*y2+y1*x2)*(1-d*x1*x2*y1*y2)*x3):=by
 have hx:=s.x
 have hy:=s.y
 have tx:=t.x
 have ty:=t.y
 generalize x1*y2+y1*x2=A at*
 generalize y1*y2+x1*x2=B at*
 generalize 1+d*x1*x2*y1*y2=D at*
 generalize 1-d*x1*x2*y1*y2=E at*
 exact⟨ux (c:=-(x*d*sy*E*x3*y3)+E*y3) (k:=-(x*d*A*x3*y3)+D*x3) (m:=D*E) hx hy tx (by grind),ux (c:=(y*d*sy*E*x3*y3)+E*x3) (k:=(y*d*A*x3*y3)+D*y3) (m:=D*E) hx hy ty (by grind)⟩
theorem Sum.den (F:kY p d) {x1 y1 x2 y2 x3 y3 sx sy:Int} (h1:On p d x1 y1) (h2:On p d x2 y2) (h3:On p d x3 y3) (s:Sum p d x1 y1 x2 y2 sx sy):¬p∣((1+d*x1*x2*y1*y2)*(1-d*x1*x2*y1*y2)+d*(x1*y2+y1*x2)*(y1*y2+x1*x2)*x3*y3)/\¬p∣((1+d*x1*x2*y1*y2)*(1-d*x1*x2*y1*y2)-d*(x1*y2+y1*x2)*(y1*y2+x1*x2)*x3*y3):=by
 have hs:=s.on F h1 h2
 have a:=F.plus hs h3
 have b:=F.minus hs h3
 have n1:=F.plus h1 h2
 have n2:=F.minus h1 h2
 have hx:=s.x
 have hy:=s.y
 generalize x1*y2+y1*x2=A at*
 generalize y1*y2+x1*x2=B at*
 generalize 1+d*x1*x2*y1*y2=D at*
 generalize 1-d*x1*x2*y1*y2=E at*
 refine⟨λh=>?_,λh=>?_⟩
 .have:p∣((1+d*sx*x3*sy*y3)*D)*E:=ux (c:=d*sy*E*x3*y3) (k:=d*A*x3*y3) (m:=1) hx hy h (by grind)
  exact a ((F.jW ((F.jW this).resolve_right n2)).resolve_right n1)
 .have:p∣((1 - d*sx*x3*sy*y3)*D)*E:=ux (c:=-(d*sy*E*x3*y3)) (k:=-(d*A*x3*y3)) (m:=1) hx hy h (by grind)
  exact b ((F.jW ((F.jW this).resolve_right n2)).resolve_right n1)
theorem atw {E E' N N' L R:Int} (F:kY p d) (hl:p∣L*E - N) (hr:p∣R*E' - N') (h:p∣N*E' - N'*E) (hE:¬p∣E) (hE':¬p∣E'):p∣L - R:=
 F.cancel hE (F.cancel (x:=L*E) (y:=R*E) hE' (ux (c:=E') (k:=-E) (m:=1) hl hr h (by grind))|>λt=>Dj t (by grind))
theorem Sum.assoc (F:kY p d) {x1 y1 x2 y2 x3 y3 sx sy tx ty lx ly rx ry:Int} (h1:On p d x1 y1) (h2:On p d x2 y2) (h3:On p d x3 y3) (s:Sum p d x1 y1 x2 y2 sx sy) (l:Sum p d sx sy x3 y3 lx ly) (t:Sum p d x2 y2 x3 y3 tx ty) (r:Sum p d x1 y1 tx ty rx ry):p∣lx - rx/\p∣ly - ry:=by
 have c1:=Sum.clear s l
 have c2:=Sum.clear t r.comm
 have d1:=Sum.den F h1 h2 h3 s
 have d2:=Sum.den F h2 h3 h1 t
 exact⟨atw F c1.1 c2.1 (ux h1 h2 h3 (idX x1 y1 x2 y2 x3 y3 d)) d1.1 d2.1,atw F c1.2 c2.2 (ux h1 h2 h3 (idY x1 y1 x2 y2 x3 y3 d)) d1.2 d2.2⟩
end Go.Gr
namespace Go.Gr
variable {p d:Int}
structure El (p d:Int) where
 x:Int
 y:Int
 x0:0<=x
 xp:x < p
 y0:0<=y
 yp:y < p
 on:On p d x y
theorem Wq {a b:Int} (ha:0<=a) (ha':a < p) (hb:0<=b) (hb':b < p) (h:p∣a - b):a=b:=by
 have:=Int.emod_emod_of_dvd a (T5 p)
 have h1:=T6 ha ha'
 have h2:=T6 hb hb'
 have h3:=Int.emod_eq_emod_iff_emod_sub_eq_zero.mpr (Int.emod_eq_zero_of_dvd h)
 omega
theorem El.same {P Q:El p d} (hx:p∣P.x - Q.x) (hy:p∣P.y - Q.y):P=Q:=by
 have h1:=Wq P.x0 P.xp Q.x0 Q.xp hx
 have h2:=Wq P.y0 P.yp Q.y0 Q.yp hy
 cases P; cases Q; simp only at h1 h2; subst h1 h2; rfl
theorem lT (a p:Int):p∣a - a % p:=Int.dvd_self_sub_emod
theorem On.congr {x y x' y':Int} (h:On p d x y) (hx:p∣x - x') (hy:p∣y - y'):On p d x' y':=
 ux (c:=1) (k:=-((x+x')*(d*y ^ 2+1))) (m:=-((y+y')*(d*x' ^ 2 - 1))) h hx hy (by grind)
theorem Sum.congr {x1 y1 x2 y2 x y x' y':Int} (h:Sum p d x1 y1 x2 y2 x y) (hx:p∣x - x') (hy:p∣y - y'):Sum p d x1 y1 x2 y2 x' y':=
 ⟨yF (c:=1) (k:=-(1+d*x1*x2*y1*y2)) h.x hx (by grind),yF (c:=1) (k:=-(1 - d*x1*x2*y1*y2)) h.y hy (by grind)⟩
theorem Sum.atq {x1 y1 x2 y2 x y a b:Int} (h:Sum p d x1 y1 x2 y2 x y) (hx:p∣x1 - a) (hy:p∣y1 - b):Sum p d a b x2 y2 x y:=
 ⟨ux (c:=1) (k:=-(x*d*x2*y1*y2 - y2)) (m:=-(x*d*a*x2*y2 - x2)) h.x hx hy (by grind),ux (c:=1) (k:=-(-(y*d*x2*y1*y2) - x2)) (m:=-(-(y*d*a*x2*y2) - y2)) h.y hx hy (by grind)⟩
def El.mk' (F:kY p d) (x y:Int) (h:On p d x y):El p d:=
 ⟨x % p,y % p,NY _ (by have:=F.pos; omega),NX _ F.pos,NY _ (by have:=F.pos; omega),NX _ F.pos,h.congr (lT x p) (lT y p)⟩
section
variable (F:kY p d)
theorem El.has (F:kY p d) (P Q:El p d):∃R:El p d,Sum p d P.x P.y Q.x Q.y R.x R.y:=by
 obtain⟨x,y,h⟩:=F.sum P.on Q.on
 exact⟨El.mk' F x y (h.on F P.on Q.on),h.congr (lT x p) (lT y p)⟩
noncomputable def add (P Q:El p d):El p d:=(El.has F P Q).choose
theorem Gx (P Q:El p d):Sum p d P.x P.y Q.x Q.y (add F P Q).x (add F P Q).y:=(El.has F P Q).choose_spec
theorem aeb {P Q R:El p d} (h:Sum p d P.x P.y Q.x Q.y R.x R.y):add F P Q=R:=by
 have:=(Gx F P Q).uniq F P.on Q.on h
 exact El.same this.1 this.2
theorem add_comm (P Q:El p d):add F P Q=add F Q P:=aeb F (Gx F Q P).comm
theorem add_assoc (P Q R:El p d):add F (add F P Q) R=add F P (add F Q R):=by
 have:=Sum.assoc F P.on Q.on R.on (Gx F P Q) (Gx F (add F P Q) R) (Gx F Q R) (Gx F P (add F Q R))
 exact El.same this.1 this.2
def zero:El p d:=El.mk' F 0 1 ⟨0,by grind⟩
def neg (P:El p d):El p d:=El.mk' F (-P.x) P.y (Dj P.on (by grind))
theorem zero_add (P:El p d):add F (zero F) P=P:=aeb F ((Sum.zero P.x P.y).atq (lT 0 p) (lT 1 p))
theorem add_zero (P:El p d):add F P (zero F)=P:=by rw[add_comm,zero_add]
theorem neg_add (P:El p d):add F (neg F P) P=zero F:=aeb F (((Sum.neg P.on).atq (lT _ p) (lT _ p)).congr (lT 0 p) (lT 1 p))
theorem add_neg (P:El p d):add F P (neg F P)=zero F:=by rw[add_comm,neg_add]
theorem asJ (P Q R S:El p d):add F (add F P Q) (add F R S)=add F (add F P R) (add F Q S):=by
 rw[add_assoc,<- add_assoc F Q R S,add_comm F Q R,add_assoc F R Q S,<- add_assoc]
theorem a0r {P Q:El p d} (h:add F P Q=zero F):Q=neg F P:=by
 rw[<- zero_add F Q,<- neg_add F P,add_assoc,h,add_zero]
noncomputable def mul:Nat->El p d->El p d
 | 0,_=>zero F
 | n+1,P=>add F (mul n P) P
theorem mul_zero (P:El p d):mul F 0 P=zero F:=rfl
theorem mul_succ (n:Nat) (P:El p d):mul F (n+1) P=add F (mul F n P) P:=rfl
theorem Wo (m n:Nat) (P:El p d):mul F (m+n) P=add F (mul F m P) (mul F n P):=by
 induction n with
 | zero=>rw[mul_zero,add_zero]; rfl
 | succ n ih=>rw[mul_succ,<- add_assoc,<- ih]; rfl
theorem a0a (n:Nat) (P Q:El p d):mul F n (add F P Q)=add F (mul F n P) (mul F n Q):=by
 induction n with
 | zero=>rw[mul_zero,mul_zero,mul_zero,add_zero]
 | succ n ih=>rw[mul_succ,mul_succ,mul_succ,ih,asJ]
theorem ayN (n:Nat):mul F n (zero F)=zero F:=by
 induction n with
 | zero=>rfl
 | succ n ih=>rw[mul_succ,ih,add_zero]
theorem ayM (m n:Nat) (P:El p d):mul F (m*n) P=mul F m (mul F n P):=by
 induction m with
 | zero=>rw[sC]; rfl
 | succ m ih=>rw[Nat.succ_mul,Wo,ih]; rfl
theorem mul_neg (n:Nat) (P:El p d):mul F n (neg F P)=neg F (mul F n P):=
 a0r F (by rw[<- a0a,add_neg,ayN])
theorem mul_mod {l:Nat} {P:El p d} (h:mul F l P=zero F) (n:Nat):mul F (n % l) P=mul F n P:=by
 have:n=n / l*l+n % l:=by rw[n9]; exact (J5 n l).symm
 conv=>rhs; rw[this,Wo,ayM,h,ayN,zero_add]
theorem mul_two (n:Nat) (P:El p d):mul F (2*n) P=add F (mul F n P) (mul F n P):=by rw[ad9,Wo]
theorem a9n {l a h r s:Nat} {B:El p d} (hl:mul F l B=zero F) (hs:s % l=(r+h*a) % l):add F (mul F h (neg F (mul F a B))) (mul F s B)=mul F r B:=by
 rw[<- mul_mod F hl s,hs,mul_mod F hl,Wo,mul_neg,<- ayM,add_comm,add_assoc,add_neg,add_zero]
end
end Go.Gr
namespace Go.Gr
open Go.Sym
attribute [local irreducible] pP dN
def Cm (n:Nat) (a:Int):Prop:=n < pP/\((pP:Nat):Int)∣(n:Int) - a
theorem Cm.mod {n:Nat} {a:Int} (h:((pP:Nat):Int)∣(n:Int) - a):Cm (n % pP) a:=
 ⟨gT _ ow,by
  have h2:=lT (n:Int) ((pP:Nat):Int)
  rw[Ga]
  have:=F8 h h2
  rwa [show (n:Int) - a - ((n:Int) - (n:Int) % ((pP:Nat):Int))=(n:Int) % (pP:Int) - a by omega] at this⟩
theorem Cm.self {n:Nat} (h:n < pP):Cm n n:=⟨h,⟨0,by omega⟩⟩
theorem Cm.mul {m n:Nat} {a b:Int} (h:Cm m a) (g:Cm n b):Cm (m*n % pP) (a*b):=
 .mod (yF (c:=(n:Int)) (k:=a) h.2 g.2 (by rw[gm]; grind))
theorem Cm.add {m n:Nat} {a b:Int} (h:Cm m a) (g:Cm n b):Cm ((m+n) % pP) (a+b):=
 .mod (yF (c:=1) (k:=1) h.2 g.2 (by rw[uc]; grind))
theorem Cm.sub {m n:Nat} {a b:Int} (h:Cm m a) (g:Cm n b):Cm (u5 m n) (a - b):=
 .mod (ux (c:=1) (k:=-1) (m:=1) h.2 g.2 (T5 ((pP:Nat):Int)) (by have:=g.1; rw[show ((m+pP - n:Nat):Int)=(m:Int)+((pP:Nat):Int) - n by omega]; grind))
theorem Cm.congr {m:Nat} {a b:Int} (h:Cm m a) (e:((pP:Nat):Int)∣a - b):Cm m b:=⟨h.1,by have:=yh h.2 e; rwa [show (m:Int) - a+(a - b)=m - b by omega] at this⟩
theorem Cm.eq {m:Nat} {a:Int} (h:Cm m a) (h0:0<=a) (h1:a < ((pP:Nat):Int)):(m:Int)=a:=Wq om (by have:=h.1; omega) h0 h1 h.2
theorem Cm.inj {m n:Nat} {a:Int} (h:Cm m a) (g:Cm n a):m=n:=by
 have:=Wq (p:=((pP:Nat):Int)) (a:=m) (b:=n) om (by have:=h.1; omega) om (by have:=g.1; omega) (by have:=F8 h.2 g.2; rwa [show (m:Int) - a - (n - a)=m - n by omega] at this)
 omega
theorem Cm.num (a:Int):∃n,Cm n a:=by
 have hp:=ow
 have h0:=NY a (b:=((pP:Nat):Int)) om
 refine⟨(a % ((pP:Nat):Int)).toNat,?_,?_⟩
 .have:=NX a (b:=((pP:Nat):Int)) om; omega
 .rw[show (((a % ((pP:Nat):Int)).toNat:Nat):Int)=a % ((pP:Nat):Int) by omega]
  have:=Int.dvd_neg.mpr (lT a ((pP:Nat):Int))
  rwa [show -(a - a % ((pP:Nat):Int))=a % ((pP:Nat):Int) - a by omega] at this
theorem Cm.Pz {n:Nat} {a:Int} (h:Cm n a):((pP:Nat):Int)∣a↔n=0:=by
 constructor
 .intro ha
  have:=yh h.2 ha
  rw[show (n:Int) - a+a=n by omega] at this
  have h1:pP∣n:=Int.natCast_dvd_natCast.mp this
  exact Nat.eq_zero_of_dvd_of_lt h1 h.1
 .intro hn
  have:=h.2
  rw[hn] at this
  have:=Int.dvd_neg.mpr this
  rwa [show -(((0:Nat):Int) - a)=a by omega] at this
theorem Cm.dvd {m n:Nat} {a b:Int} (h:Cm m a) (g:Cm n b) (e:m=n):((pP:Nat):Int)∣a - b:=by
 have:=F8 g.2 h.2
 rw[e] at this
 rwa [show (n:Int) - b - (n - a)=a - b by omega] at this
theorem aRg:pm pP 256 dN hP=pP - 1:=by decide+kernel
theorem aSV:hP < 2 ^ 256:=by decide+kernel
theorem a8u {n E v:Nat} (hE:E < 2 ^ 256) (h:pm pP 256 n E=v):pw n E=v:=Xu hE h
theorem aRf:pw dN hP=pP - 1:=@a8u dN hP (pP - 1) aSV aRg
theorem aeG:dN < pP:=by decide+kernel
theorem xg:2 < pP:=by decide+kernel
theorem auT:iN < pP:=by rw[Vv]; exact Xt _ _
theorem a0z {m n:Nat} (hm:m < pP) (hn:n < pP) (h0:n≠0) (e:m*m % pP=dN*(n*n % pP) % pP):False:=by
 have e2:=congrArg (λx=>pw x hP) e
 have e3:pw (m*m % pP) hP=pw m (pP - 1):=(akO m hP).trans (congrArg (pw m) h_h)
 have e4:pw (n*n % pP) hP=1:=((akO n hP).trans (congrArg (pw n) h_h)).trans (ae5 (ad5 h0) hn)
 have e5:pw (dN*(n*n % pP) % pP) hP=pP - 1:=by
  refine (aDL dN (n*n % pP) hP).trans ?_
  rw[aRf,e4,um]
  exact dE (by have:=xg; omega)
 have e6:pw m (pP - 1)=pP - 1:=e3.symm.trans (e2.trans e5)
 have t:=xg
 by_cases hm0:m=0
 .have:pw m (pP - 1)=0:=by rw[hm0]; exact aFq om
  omega
 .have:=ae5 (ad5 hm0) hm
  omega
theorem jo:kY ((pP:Nat):Int) ((dN:Nat):Int) where
 jW {a b} h:=by
  have h1:pP∣(a*b).natAbs:=Int.ofNat_dvd_left.mp h
  rw[Int.natAbs_mul] at h1
  rcases aDy.aeT h1 with h | h
  .exact .inl (Int.ofNat_dvd_left.mpr h)
  .exact .inr (Int.ofNat_dvd_left.mpr h)
 two h:=by
  have h1:pP∣2:=Int.natCast_dvd_natCast.mp h
  have:=Um om h1
  have:=xg
  omega
 im:=by
  refine⟨(iN:Int),?_⟩
  have h1:Cm (iN*iN % pP) ((iN:Int)*iN):=(Cm.self auT).mul (Cm.self auT)
  rw[auU] at h1
  have h2:=h1.2
  have h3:=F8 (T5 ((pP:Nat):Int)) h2
  have:=xg
  rwa [show ((pP:Nat):Int) - (((pP - 1:Nat):Int) - (iN:Int)*iN)=iN*iN+1 by omega] at h3
 non {a b} h:=by
  obtain⟨m,hm⟩:=Cm.num a
  obtain⟨n,hn⟩:=Cm.num b
  by_cases h0:n=0
  .exact hn.Pz.mpr h0
  exfalso
  have e:m*m % pP=dN*(n*n % pP) % pP:=(hm.mul hm).inj (((Cm.self aeG).mul (hn.mul hn)).congr (by have:=Int.dvd_neg.mpr h; rwa [show -(a*a - ((dN:Nat):Int)*(b*b))=((dN:Nat):Int)*(b*b) - a*a by omega] at this))
  exact a0z hm.1 hn.1 h0 e
 inv {a} h:=by
  obtain⟨m,hm⟩:=Cm.num a
  have h0:m≠0:=λe=>h (hm.Pz.mpr e)
  refine⟨(jU m:Int),?_⟩
  have h1:=hm.mul (Cm.self (au8 m))
  rw[inv_mul om hm.1] at h1
  have:=Int.dvd_neg.mpr h1.2
  rwa [show -(((1:Nat):Int) - a*(jU m:Int))=a*(jU m:Int) - 1 by omega] at this
 pos:=by have:=xg; omega
abbrev E:=El ((pP:Nat):Int) ((dN:Nat):Int)
noncomputable abbrev pl (P Q:E):E:=Go.Gr.add jo P Q
noncomputable abbrev ml (n:Nat) (P:E):E:=Go.Gr.mul jo n P
noncomputable abbrev ng (P:E):E:=Go.Gr.neg jo P
noncomputable abbrev zr:E:=Go.Gr.zero jo
def Rp (q:NP) (P:E):Prop:=∃Z:Int,¬((pP:Nat):Int)∣Z/\Cm q.x (P.x*Z)/\Cm q.y (P.y*Z)/\Cm q.z Z/\Cm q.t (P.x*P.y*Z)
theorem Py {a b:Int} (ha:¬((pP:Nat):Int)∣a) (hb:¬((pP:Nat):Int)∣b):¬((pP:Nat):Int)∣a*b:=λh=>(jo.jW h).elim ha hb
theorem Rp.add {q r:NP} {P Q:E} (h:Rp q P) (g:Rp r Q):Rp (ic q r) (pl P Q):=by
 obtain⟨Z,hZ,hx,hy,hz,ht⟩:=h
 obtain⟨W,hW,gx,gy,gz,gt⟩:=g
 have s:=Gx jo P Q
 have n1:=jo.plus P.on Q.on
 have n2:=jo.minus P.on Q.on
 unfold ic UR Rp
 simp only[mG,Lc]
 have ha:=(hy.sub hx).mul (gy.sub gx)
 have hb:=(hy.add hx).mul (gy.add gx)
 have hm:=(ht.mul gt).mul (Cm.self aeG)
 have hc:=hm.add hm
 have hn:=hz.mul gz
 have hd:=hn.add hn
 have he:=hb.sub ha
 have hf:=hd.sub hc
 have hg:=hd.add hc
 have hh:=hb.add ha
 have sx:=s.x
 have sy:=s.y
 generalize (Go.Gr.add jo P Q).x=X at*
 generalize (Go.Gr.add jo P Q).y=Y at*
 refine⟨(2*Z*W)*(2*Z*W)*((1 - ((dN:Nat):Int)*P.x*Q.x*P.y*Q.y)*(1+((dN:Nat):Int)*P.x*Q.x*P.y*Q.y)),?_,?_,?_,?_,?_⟩
 .have hw:=Py (Py jo.two hZ) hW
  exact Py (Py hw hw) (Py n2 n1)
 .exact (he.mul hf).congr (qX (c:=-((2*Z*W)*(2*Z*W)*(1 - ((dN:Nat):Int)*P.x*Q.x*P.y*Q.y))) sx (by grind))
 .exact (hg.mul hh).congr (qX (c:=-((2*Z*W)*(2*Z*W)*(1+((dN:Nat):Int)*P.x*Q.x*P.y*Q.y))) sy (by grind))
 .exact (hf.mul hg).congr ⟨0,by grind⟩
 .exact (he.mul hh).congr (yF (c:=-((2*Z*W)*(2*Z*W)*(Y*(1 - ((dN:Nat):Int)*P.x*Q.x*P.y*Q.y)))) (k:=-((2*Z*W)*(2*Z*W)*(P.x*Q.y+P.y*Q.x))) sx sy (by grind))
theorem Rp.Gy {x y:Nat} {P:E} (hx:Cm x P.x) (hy:Cm y P.y):Rp (C5 x y) P:=by
 unfold C5
 rw[Lc]
 exact⟨1,jo.one,by rwa [JX],by rwa [JX],.self (show 1 < pP by have:=xg; omega),by rw[JX]; exact hx.mul hy⟩
theorem Rp.zero:Rp Eh zr:=.Gy ((Cm.self (by have:=xg; omega)).congr (lT 0 ((pP:Nat):Int))) ((Cm.self (by have:=xg; omega)).congr (lT 1 ((pP:Nat):Int)))
theorem Rp.neg {q:NP} {P:E} (h:Rp q P):Rp (wN q) (ng P):=by
 obtain⟨Z,hZ,hx,hy,hz,ht⟩:=h
 unfold wN Rp
 rw[Lc]
 have h0:Cm 0 0:=.self (by have:=xg; omega)
 have ex:((pP:Nat):Int)∣-P.x - (ng P).x:=lT (-P.x) ((pP:Nat):Int)
 have ey:((pP:Nat):Int)∣P.y - (ng P).y:=lT P.y ((pP:Nat):Int)
 generalize (ng P).x=X at*
 generalize (ng P).y=Y at*
 exact⟨Z,hZ,(h0.sub hx).congr (qX (c:=Z) ex (by grind)),hy.congr (qX (c:=Z) ey (by grind)),hz,(h0.sub ht).congr (yF (c:=Z*P.y) (k:=Z*X) ex ey (by grind))⟩
theorem afk (n k:Nat) (hk:k < 256):n / 2 ^ (256 - (k+1))=2*(n / 2 ^ (256 - k))+n / 2 ^ (255 - k) % 2:=by
 rw[show 256 - (k+1)=255 - k by omega,show 256 - k=255 - k+1 by omega,yv,<- J6]
 omega
theorem Rp.mul {q:NP} {P:E} (h:Rp q P) (n:Nat) (hn:n < 2 ^ 256):∀k,k<=256->Rp (mulC n q k) (ml (n / 2 ^ (256 - k)) P)
 | 0,_=>by rw[yt hn]; exact Rp.zero
 | k+1,hk=>by
  have ih:=Rp.mul h n hn k om
  unfold mulC
  rw[afk n k om,mC]
  split
  .rename_i h1
   rw[h1,show ml (2*(n / 2 ^ (256 - k))+1) P=pl (pl (ml (n / 2 ^ (256 - k)) P) (ml (n / 2 ^ (256 - k)) P)) P from congrArg (λQ=>pl Q P) (mul_two jo _ P)]
   exact (ih.add ih).add h
  .rename_i h1
   rw[show n / 2 ^ (255 - k) % 2=0 by omega,Nat.add_zero,show ml (2*(n / 2 ^ (256 - k))) P=pl (ml (n / 2 ^ (256 - k)) P) (ml (n / 2 ^ (256 - k)) P) from mul_two jo _ P]
   exact ih.add ih
theorem Rp.mul' {q:NP} {P:E} (h:Rp q P) {n:Nat} (hn:n < 2 ^ 256):Rp (mulC n q 256) (ml n P):=by
 have:=h.mul n hn 256 om
 rwa [show n / 2 ^ (256 - 256)=n by rw[yw,wj,Gj]] at this
def pZ:Nat:=15112221349535400772501151409588531511454012693041857206046113283949847762202
def sH:Nat:=46316835694926478169428394003475163141307993866256225615783033603165251855960
theorem aP3:dN*(pZ*pZ)*(sH*sH) % pP=(sH*sH+(pP - 1)*(pZ*pZ+1)) % pP:=by decide+kernel
theorem asR:pZ < pP:=by decide+kernel
theorem asS:sH < pP:=by decide+kernel
attribute [local irreducible] pZ sH
def bE:E:=⟨pZ,sH,by omega,by have:=asR; omega,by omega,by have:=asS; omega,by
 have h:=aP3
 have h1:=lT ((dN*(pZ*pZ)*(sH*sH):Nat):Int) ((pP:Nat):Int)
 have h2:=lT ((sH*sH+(pP - 1)*(pZ*pZ+1):Nat):Int) ((pP:Nat):Int)
 rw[<- Ga] at h1 h2
 rw[h] at h1
 have h3:=F8 h1 h2
 have e:((pP - 1:Nat):Int)=((pP:Nat):Int) - 1:=by have:=xg; omega
 simp only[uc,gm,e,Int.natCast_one] at h3
 exact yF (c:=1) (k:=((pZ:Int)*pZ+1)) h3 (T5 ((pP:Nat):Int)) (by grind)⟩
theorem aP6:iK=C5 pZ sH:=by unfold iK pZ sH; rfl
theorem Rp.base:Rp iK bE:=by rw[aP6]; exact .Gy (.self asR) (.self asS)
theorem a7R (P:E):pl P zr=P:=add_zero jo P
attribute [local irreducible] ic iK Eh fz mulC
theorem a_e (a b:Nat) (q:NP):fz a b q 0=Eh:=by unfold fz; rfl
theorem Yb (a b:Nat) (q:NP) (k:Nat):fz a b q (k+1)=if rz a b k=0 then ic (fz a b q k) (fz a b q k) else ic (ic (fz a b q k) (fz a b q k)) (yz q (rz a b k)):=by
 conv=>lhs; unfold fz
 exact mC _ _ _ _
theorem aQq (q:NP):yz q 1=q:=by unfold yz; rw[mC,mC,if_neg om,if_pos rfl]
theorem aQr (q:NP):yz q 2=iK:=by unfold yz; rw[mC,mC,mC,if_neg om,if_neg om,if_pos rfl]
theorem aQs (q:NP):yz q 3=ic q iK:=by unfold yz; rw[mC,mC,mC,if_neg om,if_neg om,if_neg om]
theorem a_a {a b k:Nat} {q:NP} (h:rz a b k=0):fz a b q (k+1)=ic (fz a b q k) (fz a b q k):=by rw[Yb,if_pos h]
theorem a_b {a b k:Nat} {q:NP} (h:rz a b k=1):fz a b q (k+1)=ic (ic (fz a b q k) (fz a b q k)) q:=by rw[Yb,if_neg om,h,aQq]
theorem a_c {a b k:Nat} {q:NP} (h:rz a b k=2):fz a b q (k+1)=ic (ic (fz a b q k) (fz a b q k)) iK:=by rw[Yb,if_neg om,h,aQr]
theorem a_d {a b k:Nat} {q:NP} (h:rz a b k=3):fz a b q (k+1)=ic (ic (fz a b q k) (fz a b q k)) (ic q iK):=by rw[Yb,if_neg om,h,aQs]
theorem Wj (n:Nat) (P:E):ml (n+1) P=pl (ml n P) P:=rfl
theorem ayz (P:E):ml 0 P=zr:=rfl
theorem akg (P Q R:E):pl (pl P Q) R=pl P (pl Q R):=add_assoc jo P Q R
theorem a7Q (P Q:E):pl P Q=pl Q P:=add_comm jo P Q
theorem aDp (P Q R S:E):pl (pl P Q) (pl R S)=pl (pl P R) (pl Q S):=asJ jo P Q R S
theorem ayA (n:Nat) (P:E):ml (2*n) P=pl (ml n P) (ml n P):=mul_two jo n P
theorem a85 {q r:NP} {P:E} {M N m n:Nat} (h:Rp q P) (i2:Rp r (pl (ml M P) (ml N bE))) (s:NP) (hs:(m=0/\n=0/\s=r)\/(m=1/\n=0/\s=ic r q)\/(m=0/\n=1/\s=ic r iK)\/(m=1/\n=1/\s=ic r (ic q iK))):Rp s (pl (ml (M+m) P) (ml (N+n) bE)):=by
 rcases hs with ⟨rfl,rfl,rfl⟩ | ⟨rfl,rfl,rfl⟩ | ⟨rfl,rfl,rfl⟩ | ⟨rfl,rfl,rfl⟩
 .rw[Nat.add_zero,Nat.add_zero]; exact i2
 .rw[Nat.add_zero,Wj,akg,a7Q P,<- akg]; exact i2.add h
 .rw[Nat.add_zero,Wj,<- akg]; exact i2.add Rp.base
 .rw[Wj,Wj,aDp]; exact i2.add (h.add Rp.base)
theorem Rp.two {q:NP} {P:E} (h:Rp q P) (a b:Nat) (ha:a < 2 ^ 256) (hb:b < 2 ^ 256):∀k,k<=256->Rp (fz a b q k) (pl (ml (a / 2 ^ (256 - k)) P) (ml (b / 2 ^ (256 - k)) bE)):=by
 intro k
 induction k with
 | zero=>
  intro _
  rw[yt ha,yt hb,ayz,ayz,a7R,a_e]
  exact Rp.zero
 | succ k ih=>
  intro hk
  have ih:=ih om
  have i2:=ih.add ih
  rw[aDp,<- ayA,<- ayA] at i2
  rw[afk a k om,afk b k om]
  have ka:=gT (a / 2 ^ (255 - k)) (show 0 < 2 by omega)
  have kb:=gT (b / 2 ^ (255 - k)) (show 0 < 2 by omega)
  have kd:rz a b k=a / 2 ^ (255 - k) % 2+2*(b / 2 ^ (255 - k) % 2):=by unfold rz; rfl
  refine a85 h i2 _ ?_
  generalize a / 2 ^ (255 - k) % 2=m at*
  generalize b / 2 ^ (255 - k) % 2=n at*
  obtain hm | hm:m=0\/m=1:=by omega
  .obtain hn | hn:n=0\/n=1:=by omega
   .exact .inl ⟨hm,hn,a_a om⟩
   .exact .inr (.inr (.inl ⟨hm,hn,a_c om⟩))
  .obtain hn | hn:n=0\/n=1:=by omega
   .exact .inr (.inl ⟨hm,hn,a_b om⟩)
   .exact .inr (.inr (.inr ⟨hm,hn,a_d om⟩))
theorem Rp.a99 {q:NP} {P:E} (h:Rp q P) {a b:Nat} (ha:a < 2 ^ 256) (hb:b < 2 ^ 256):Rp (fz a b q 256) (pl (ml a P) (ml b bE)):=by
 have:=h.two a b ha hb 256 om
 rwa [show a / 2 ^ (256 - 256)=a by rw[yw,wj,Gj],show b / 2 ^ (256 - 256)=b by rw[yw,wj,Gj]] at this
def iM (P:E):Nat:=P.y.toNat+P.x.toNat % 2*2 ^ 255
theorem Rp.iM {q:NP} {P:E} (h:Rp q P):i9 q=iM P:=by
 obtain⟨Z,hZ,hx,hy,hz,ht⟩:=h
 have hz0:q.z≠0:=λe=>hZ (hz.Pz.mpr e)
 unfold i9 Go.Gr.iM
 rw[mG,mG,<- LA _ OF]
 have hi:Cm (jU q.z) (jU q.z):=.self (au8 _)
 have h1:=hz.mul hi
 rw[inv_mul om hz.1] at h1
 have h2:=h1.2
 have ex:Cm (q.x*jU q.z % pP) P.x:=(hx.mul hi).congr (qX (c:=-P.x) h2 (by grind))
 have ey:Cm (q.y*jU q.z % pP) P.y:=(hy.mul hi).congr (qX (c:=-P.y) h2 (by grind))
 have h3:=ex.eq P.x0 P.xp
 have h4:=ey.eq P.y0 P.yp
 show q.y*jU q.z % pP+q.x*jU q.z % pP % 2*2 ^ 255=_
 rw[show q.x*jU q.z % pP=P.x.toNat by omega,show q.y*jU q.z % pP=P.y.toNat by omega]
theorem akc:pP < 2 ^ 255:=by decide+kernel
theorem a_F (P:E):((P.x.toNat:Nat):Int)=P.x:=by have:=P.x0; omega
theorem a_G (P:E):((P.y.toNat:Nat):Int)=P.y:=by have:=P.y0; omega
theorem alx (P:E):Cm P.x.toNat P.x:=by have h:=Cm.self (n:=P.x.toNat) (by have:=P.xp; have:=P.x0; omega); rwa [a_F] at h
theorem Yy (P:E):Cm P.y.toNat P.y:=by have h:=Cm.self (n:=P.y.toNat) (by have:=P.yp; have:=P.y0; omega); rwa [a_G] at h
theorem aRF (P:E):iM P % 2 ^ 255=P.y.toNat:=by
 have h:=(Yy P).1
 have:=akc
 unfold iM
 rw[aPC,dE om]
theorem aRE (P:E):iM P / 2 ^ 255=P.x.toNat % 2:=by
 have h:=(Yy P).1
 have:=akc
 unfold iM
 rw[Uj _ _ (Ap _),yt om,Nat.zero_add]
theorem aEb (P:E):(nq P.y.toNat).2=true/\(nq P.y.toNat).1 % 2=0/\((nq P.y.toNat).1=P.x.toNat\/(nq P.y.toNat).1=(0+pP - P.x.toNat) % pP):=by
 have hx:=alx P
 have hy:=Yy P
 have hs:=hy.mul hy
 have h1:Cm 1 1:=.self (by have:=xg; omega)
 have hv:=((Cm.self aeG).mul hs).add h1
 have hu:=hs.sub h1
 unfold nq
 simp only[mG]
 rw[<- aDP]
 have on:=P.on
 unfold On at on
 have hv0:(dN*(P.y.toNat*P.y.toNat % pP) % pP+1) % pP≠0:=λe=>by
  have h:=hv.Pz.mpr e
  obtain⟨i,hi⟩:=jo.im
  have h2:((pP:Nat):Int)∣i*i - ((dN:Nat):Int)*(P.y*P.y):=yF (c:=1) (k:=-1) hi h (by grind)
  have h3:=jo.non h2
  exact jo.one (yF (c:=1) (k:=-(((dN:Nat):Int)*P.y)) h h3 (by grind))
 have eu:u5 (P.y.toNat*P.y.toNat % pP) 1=P.x.toNat*P.x.toNat % pP*((dN*(P.y.toNat*P.y.toNat % pP) % pP+1) % pP) % pP:=
  hu.inj (((hx.mul hx).mul hv).congr (qX (c:=1) on (by grind)))
 have hv':(dN*(P.y.toNat*P.y.toNat % pP) % pP+1) % pP < pP:=hv.1
 rw[eu]
 have r:=a8C (u:=P.x.toNat) (ad5 hv0) hx.1 hv'
 exact⟨r.1,a8B _ _,r.2⟩
theorem a80 (P:E):(P.x.toNat % 2=0->(nq P.y.toNat).1=P.x.toNat)/\(P.x.toNat % 2=1->(nq P.y.toNat).1=pP - P.x.toNat/\0 < P.x.toNat):=by
 obtain⟨_,h2,h3⟩:=aEb P
 have hx:=(alx P).1
 have po:=aC8
 generalize P.x.toNat=x at*
 generalize (nq P.y.toNat).1=r at*
 refine⟨λe=>?_,λe=>?_⟩
 .rcases h3 with h | h
  .exact h
  .by_cases h0:x=0
   .rw[h0,show 0+pP - 0=pP by omega,Nat.mod_self] at h; omega
   .rw[dE om] at h; omega
 .have h0:x≠0:=by omega
  rcases h3 with h | h
  .omega
  .rw[dE om] at h; omega
theorem asV {a b:Nat} (h:¬a=b):Nat.beq a b=false:=by
 cases q:Nat.beq a b with
 | false=>rfl
 | true=>exact absurd (iJ q) h
theorem aRr (P:E):p9 (iM P)=true/\Rp (wx (iM P)) P:=by
 have hx:=alx P
 have hy:=Yy P
 have r:=aEb P
 have r2:=a80 P
 have hm:P.y.toNat % pP=P.y.toNat:=dE hy.1
 unfold p9 wx
 simp only[mG]
 rw[aRF,aRE,hm,wi,mC]
 have hlt:=hx.1
 refine⟨?_,.Gy ?_ hy⟩
 .rw[r.1,Bool.and_true,ar,Ul]
  refine⟨hy.1,?_⟩
  rw[Ai,Bool.and_eq_false_iff]
  by_cases h:P.x.toNat % 2=1
  .have:=r2.2 h
   right
   rw[this.1]
   exact asV om
  .left
   exact asV h
 .by_cases h:P.x.toNat % 2=1
  .rw[if_pos h]
   have:=r2.2 h
   rw[this.1]
   unfold u5
   rw[show 0+pP - (pP - P.x.toNat)=P.x.toNat by omega,dE hlt]
   exact hx
  .rw[if_neg h,r2.1 om]
   exact hx
def oL:Nat:=2 ^ 252+27742317777372353535851937790883648493
theorem a0I:oL < 2 ^ 256:=by decide+kernel
theorem azC:(mulC oL iK 256).x=0/\(mulC oL iK 256).y=(mulC oL iK 256).z:=by decide+kernel
theorem order:ml oL bE=zr:=by
 obtain⟨Z,hZ,hx,hy,hz,ht⟩:=Rp.base.mul' a0I
 have h1:=hx.Pz.mpr azC.1
 have h2:=hy.dvd hz azC.2
 refine El.same ?_ ?_
 .have h3:=(jo.jW h1).resolve_right hZ
  have h4:((pP:Nat):Int)∣0 - zr.x:=lT 0 ((pP:Nat):Int)
  have:=yh h3 h4
  rwa [show (ml oL bE).x+(0 - zr.x)=(ml oL bE).x - zr.x by omega] at this
 .have h3:=jo.cancel (x:=(ml oL bE).y) (y:=1) hZ (qX (c:=1) h2 (by grind))
  have h4:((pP:Nat):Int)∣1 - zr.y:=lT 1 ((pP:Nat):Int)
  have:=yh h3 h4
  rwa [show (ml oL bE).y - 1+(1 - zr.y)=(ml oL bE).y - zr.y by omega] at this
theorem signed {a r h s:Nat} (ha:a < 2 ^ 256) (hr:r < 2 ^ 256) (hh:h < 2 ^ 256) (hs:s < 2 ^ 256) (e:s % oL=(r+h*a) % oL):p9 (i9 (mulC a iK 256))=true/\i9 (fz h s (wN (wx (i9 (mulC a iK 256)))) 256)=i9 (mulC r iK 256):=by
 have hA:=Rp.base.mul' ha
 have hR:=Rp.base.mul' hr
 rw[hA.iM,hR.iM]
 have hd:=aRr (ml a bE)
 refine⟨hd.1,?_⟩
 have h2:=hd.2.neg.a99 hh hs
 rw[h2.iM]
 have:=a9n jo order e
 exact congrArg iM this
end Go.Gr
namespace Go.Cy
open Go Go.Z Go.Sym
section
def nB (r:R) (k:Nat):Nat:=aJ (bv r) k
theorem yA (n q:Nat):0<=bV n q/\bV n q<=255:=by
 have:=(fV n q).isLt
 unfold bV
 omega
def cB (b:Bool):R:=λ_=>tf b
def Oh:R->R:=Classical.choose (⟨λa=>cl (DC (aJ (bv a) 32) lQ),rfl⟩:∃f:R->R,f=λa=>cl (DC (aJ (bv a) 32) lQ))
theorem aeg (a:R):Oh a=cl (DC (aJ (bv a) 32) lQ):=congrFun (yf (⟨λa=>cl (DC (aJ (bv a) 32) lQ),rfl⟩:∃f:R->R,f=λa=>cl (DC (aJ (bv a) 32) lQ))) a
def oc:R->R:=Classical.choose (⟨λa=>bV (i9 (mulC (aJ (bv a) 32) iK 256)),rfl⟩:∃f:R->R,f=λa=>bV (i9 (mulC (aJ (bv a) 32) iK 256)))
theorem UB (a:R):oc a=bV (i9 (mulC (aJ (bv a) 32) iK 256)):=congrFun (yf (⟨λa=>bV (i9 (mulC (aJ (bv a) 32) iK 256)),rfl⟩:∃f:R->R,f=λa=>bV (i9 (mulC (aJ (bv a) 32) iK 256)))) a
def OC:R->R:=Classical.choose (⟨λk=>cl (iy (bv k)),rfl⟩:∃f:R->R,f=λk=>cl (iy (bv k)))
theorem atE (k:R):OC k=cl (iy (bv k)):=congrFun (yf (⟨λk=>cl (iy (bv k)),rfl⟩:∃f:R->R,f=λk=>cl (iy (bv k)))) k
def KC:R->R:=Classical.choose (⟨λk=>cB (p9 (aJ (bv k) 32)),rfl⟩:∃f:R->R,f=λk=>cB (p9 (aJ (bv k) 32)))
theorem aeH (k:R):KC k=cB (p9 (aJ (bv k) 32)):=congrFun (yf (⟨λk=>cB (p9 (aJ (bv k) 32)),rfl⟩:∃f:R->R,f=λk=>cB (p9 (aJ (bv k) 32)))) k
def Pv:R->R:=Classical.choose (⟨λk=>cl (mL (iy (bv k))),rfl⟩:∃f:R->R,f=λk=>cl (mL (iy (bv k))))
theorem ay3 (k:R):Pv k=cl (mL (iy (bv k))):=congrFun (yf (⟨λk=>cl (mL (iy (bv k))),rfl⟩:∃f:R->R,f=λk=>cl (mL (iy (bv k))))) k
def QX:R->R->R->R:=Classical.choose (⟨λh k s=>cl (Ed (aJ (bv h) 32) (aJ (bv s) 32) (mL (iy (bv k)))),rfl⟩:∃f:R->R->R->R,f=λh k s=>cl (Ed (aJ (bv h) 32) (aJ (bv s) 32) (mL (iy (bv k)))))
theorem ak7 (h k s:R):QX h k s=cl (Ed (aJ (bv h) 32) (aJ (bv s) 32) (mL (iy (bv k)))):=congrFun (congrFun (congrFun (yf (⟨λh k s=>cl (Ed (aJ (bv h) 32) (aJ (bv s) 32) (mL (iy (bv k)))),rfl⟩:∃f:R->R->R->R,f=λh k s=>cl (Ed (aJ (bv h) 32) (aJ (bv s) 32) (mL (iy (bv k)))))) h) k) s
def LX:R->R->R->R:=Classical.choose (⟨λh k s=>bV (i9 (fz (aJ (bv h) 32) (aJ (bv s) 32) (wN (wx (aJ (bv k) 32))) 256)),rfl⟩:∃f:R->R->R->R,f=λh k s=>bV (i9 (fz (aJ (bv h) 32) (aJ (bv s) 32) (wN (wx (aJ (bv k) 32))) 256)))
theorem ak6 (h k s:R):LX h k s=bV (i9 (fz (aJ (bv h) 32) (aJ (bv s) 32) (wN (wx (aJ (bv k) 32))) 256)):=congrFun (congrFun (congrFun (yf (⟨λh k s=>bV (i9 (fz (aJ (bv h) 32) (aJ (bv s) 32) (wN (wx (aJ (bv k) 32))) 256)),rfl⟩:∃f:R->R->R->R,f=λh k s=>bV (i9 (fz (aJ (bv h) 32) (aJ (bv s) 32) (wN (wx (aJ (bv k) 32))) 256)))) h) k) s
def Qu:R->R:=Classical.choose (⟨λd=>bV (aJ (bv d) 64 % dJ),rfl⟩:∃f:R->R,f=λd=>bV (aJ (bv d) 64 % dJ))
theorem aDR (d:R):Qu d=bV (aJ (bv d) 64 % dJ):=congrFun (yf (⟨λd=>bV (aJ (bv d) 64 % dJ),rfl⟩:∃f:R->R,f=λd=>bV (aJ (bv d) 64 % dJ))) d
def wJ:R->R->R->R:=Classical.choose (⟨λa b c=>bV ((aJ (bv a) 32*aJ (bv b) 32+aJ (bv c) 32) % dJ),rfl⟩:∃f:R->R->R->R,f=λa b c=>bV ((aJ (bv a) 32*aJ (bv b) 32+aJ (bv c) 32) % dJ))
theorem agG (a b c:R):wJ a b c=bV ((aJ (bv a) 32*aJ (bv b) 32+aJ (bv c) 32) % dJ):=congrFun (congrFun (congrFun (yf (⟨λa b c=>bV ((aJ (bv a) 32*aJ (bv b) 32+aJ (bv c) 32) % dJ),rfl⟩:∃f:R->R->R->R,f=λa b c=>bV ((aJ (bv a) 32*aJ (bv b) 32+aJ (bv c) 32) % dJ))) a) b) c
def GK:R->R:=Classical.choose (⟨λs=>cB (decide (aJ (bv s) 32 < dJ)),rfl⟩:∃f:R->R,f=λs=>cB (decide (aJ (bv s) 32 < dJ)))
theorem aeA (s:R):GK s=cB (decide (aJ (bv s) 32 < dJ)):=congrFun (yf (⟨λs=>cB (decide (aJ (bv s) 32 < dJ)),rfl⟩:∃f:R->R,f=λs=>cB (decide (aJ (bv s) 32 < dJ)))) s
theorem aP5 (a:R) (q:Nat):0<=Oh a q/\Oh a q<=a7:=by rw[aeg]; exact iL _ _
theorem asT (a:R) (q:Nat):0<=oc a q/\oc a q<=255:=by rw[UB]; exact yA _ _
theorem aRj (k:R) (q:Nat):0<=OC k q/\OC k q<=a7:=by rw[atE]; exact iL _ _
theorem aRi (k:R) (q:Nat):0<=KC k q/\KC k q<=1:=by rw[aeH]; exact ru _
theorem a0w (k:R) (q:Nat):0<=Pv k q/\Pv k q<=a7:=by rw[ay3]; exact iL _ _
theorem a98 (h k s:R) (q:Nat):0<=QX h k s q/\QX h k s q<=a7:=by rw[ak7]; exact iL _ _
theorem a97 (h k s:R) (q:Nat):0<=LX h k s q/\LX h k s q<=255:=by rw[ak6]; exact yA _ _
theorem a8F (d:R) (q:Nat):0<=Qu d q/\Qu d q<=255:=by rw[aDR]; exact yA _ _
theorem ayy (a b c:R) (q:Nat):0<=wJ a b c q/\wJ a b c q<=255:=by rw[agG]; exact yA _ _
theorem aQZ (s:R) (q:Nat):0<=GK s q/\GK s q<=1:=by rw[aeA]; exact ru _
theorem aQA (n:Nat):bv (bV n)=fV n:=by
 funext i
 unfold bv bV
 rw[arR,BitVec.ofNat_toNat,BitVec.setWidth_eq]
theorem ayQ {n k:Nat} (h:n < 2 ^ (8*k)):nB (bV n) k=n:=by
 unfold nB
 rw[aQA,a0h]
 exact dE h
theorem agN (r:R) (k:Nat):nB r k < 2 ^ (8*k):=HU _ _
theorem aRD (q:NP):i9 q < 2 ^ 256:=by
 unfold i9
 simp only[mG]
 have h1:q.y*l8 q.z eI % pP < pP:=gT _ ow
 have h2:q.x*l8 q.z eI % pP % 2 < 2:=gT _ dc
 have h3:=Go.Gr.akc
 generalize q.y*l8 q.z eI % pP=y at*
 generalize q.x*l8 q.z eI % pP % 2=x at*
 have:x*2 ^ 255<=1*2 ^ 255:=Gp _ om
 have e:(2:Nat) ^ 256=2 ^ 255+2 ^ 255:=by decide
 omega
theorem a0H:Go.Gr.oL=dJ:=by decide+kernel
theorem aEp (a h n:R):KC (oc a)=cB true/\GK (wJ h a n)=cB true/\LX h (oc a) (wJ h a n)=oc n:=by
 have e1:nB (oc a) 32=i9 (mulC (nB a 32) iK 256):=by rw[UB]; exact ayQ (aRD _)
 have l1:=PG
 have l2:=azB
 have l3:(nB h 32*nB a 32+nB n 32) % dJ < dJ:=gT _ l1
 have l4:(2:Nat) ^ 253 < 2 ^ (8*32):=by decide
 have e2:nB (wJ h a n) 32=(nB h 32*nB a 32+nB n 32) % dJ:=by
  rw[agG]
  show nB (bV ((nB h 32*nB a 32+nB n 32) % dJ)) 32=_
  exact ayQ om
 have g:=Go.Gr.signed (a:=nB a 32) (r:=nB n 32) (h:=nB h 32) (s:=(nB h 32*nB a 32+nB n 32) % dJ) (agN a 32) (agN n 32) (agN h 32) om (by rw[a0H,wi,Nat.add_comm])
 refine⟨?_,?_,?_⟩
 .rw[aeH]
  show cB (p9 (nB (oc a) 32))=_
  rw[e1,g.1]
 .rw[aeA]
  show cB (decide (nB (wJ h a n) 32 < dJ))=_
  rw[e2,decide_eq_true l3]
 .rw[ak6,UB n]
  show bV (i9 (fz (nB h 32) (nB (wJ h a n) 32) (wN (wx (nB (oc a) 32))) 256))=bV (i9 (mulC (nB n 32) iK 256))
  rw[e1,e2,g.2]
end
end Go.Cy
namespace Go.Cu
open Go Go.Z
section
def cn (d a:Int):Int:=if d<=a - a % 8 then a - a % 8 else d
def eA (F:R) (B:Int) (D:R) (p:Int):R:=λq=>if p<=0 then F q else if (q:Int) < B then F q else if (q:Int) < B+p then D (q - B.toNat) else if (q:Int) < B+1024 then 255 else F q
def mN (D:R) (a:Int):R:=λi=>if (i:Int) < a % 8 then D ((a - a % 8).toNat+i) else if 8<=a then D ((a - a % 8 - 8).toNat+i) else 0
def bare (F:R) (B:Int):Prop:=∀q:Nat,(q:Int) < 1024->F (q+B.toNat)=255
open Classical in
def ez (F:R) (B d p:Int):Int:=if 0 < p/\d=0/\¬bare F B then 1 else 0
def lU (F:R) (B d p:Int) (e:R):R:=Lz.dh e (B / 1024) (e (B / 1024).toNat+ez F B d p)
def iR (F:R) (B d a p:Int):Int:=a / 8 - d / 8+(if d < p/\a - a % 8 < p then 1 else 0)+ez F B d p
theorem aRX (F:R) (B d p:Int):0<=ez F B d p/\ez F B d p<=1:=by unfold ez; split <;>omega
variable {F D:R} {B d a:Int}
theorem y8 {d a:Int} (h:d<=a):d<=cn d a/\a - a % 8<=cn d a/\cn d a<=a/\(cn d a=d\/cn d a=a - a % 8):=by unfold cn; split <;>omega
theorem Xq {d a:Int} (h:a % 8+1 < 8):cn d (a+1)=cn d a:=by
 have e:(a+1) - (a+1) % 8=a - a % 8:=by omega
 unfold cn
 rw[e]
theorem Xp {d a:Int} (hd:d<=a) (h:¬a % 8+1 < 8):cn d (a+1)=a+1:=by
 have e:(a+1) % 8=0:=by omega
 unfold cn
 rw[e,if_pos om]
 omega
theorem aFj (ha:0<=a) {q:Nat} (hq:q < 8):mN D (a+1) q=if q=(a % 8).toNat then D a.toNat else mN D a q:=by
 unfold mN
 by_cases h:a % 8+1 < 8
 .have e:(a+1) % 8=a % 8+1:=by omega
  rw[e]
  by_cases c:q=(a % 8).toNat
  .rw[if_pos c,if_pos om]
   congr 1
   omega
  .rw[if_neg c]
   by_cases c1:(q:Int) < a % 8
   .rw[if_pos c1,if_pos om]
    congr 1
    omega
   .rw[if_neg c1,if_neg om]
    by_cases c2:8<=a
    .rw[if_pos c2,if_pos om]
     congr 1
     omega
    .rw[if_neg c2,if_neg om]
 .have e:(a+1) % 8=0:=by omega
  have e7:a % 8=7:=by omega
  rw[e,if_neg om,if_pos om]
  by_cases c:q=(a % 8).toNat
  .rw[if_pos c]
   congr 1
   omega
  .rw[if_neg c,if_pos om]
   congr 1
   omega
theorem Yw (ha:0<=a) {q:Nat} (hq:(q:Int) < a % 8):mN D a q=D ((a - a % 8).toNat+q):=by
 unfold mN
 rw[if_pos hq]
theorem a7J (hd0:0<=d) (hda:d<=a) (ha:a < 1024) (hB:0<=B) (h7:¬a % 8+1 < 8) (hb:0 < cn d a\/bare F B) (q:Nat):eA F B D (a+1) q=if (q:Int) < B+(a - 7) then eA F B D (cn d a) q else if (q:Int) < B+(a+1) then D (q - B.toNat) else eA F B D (cn d a) q:=by
 have p:=y8 hda
 generalize cn d a=p at*
 obtain⟨p1,p2,p3,p4⟩:=p
 unfold eA
 rw[if_neg (show ¬a+1<=0 by omega)]
 by_cases c0:(q:Int) < B
 .rw[if_pos c0,if_pos (show (q:Int) < B+(a - 7) by omega)]
  by_cases cp:p<=0
  .rw[if_pos cp]
  .rw[if_neg cp,if_pos c0]
 rw[if_neg c0]
 by_cases c1:(q:Int) < B+(a - 7)
 .rw[if_pos c1,if_pos (show (q:Int) < B+(a+1) by omega),if_neg (show ¬p<=0 by omega),if_neg c0,if_pos om]
 rw[if_neg c1]
 by_cases c2:(q:Int) < B+(a+1)
 .rw[if_pos c2,if_pos c2]
 rw[if_neg c2,if_neg c2]
 by_cases cp:p<=0
 .rw[if_pos cp]
  by_cases c3:(q:Int) < B+1024
  .rw[if_pos c3]
   have hb:bare F B:=hb.resolve_left om
   have:=hb (q - B.toNat) om
   rw[show q - B.toNat+B.toNat=q by omega] at this
   exact this.symm
  .rw[if_neg c3]
 .rw[if_neg cp,if_neg c0,if_neg (show ¬(q:Int) < B+p by omega)]
theorem at4 (hda:d<=a) (h0:0<=d) (hb:0 < cn d a\/bare F B):ez F B d (a+1)=ez F B d (cn d a):=by
 unfold ez
 have p:=y8 hda
 rcases hb with h | h
 .by_cases c:d=0/\¬bare F B
  .rw[if_pos ⟨by omega,c⟩,if_pos ⟨h,c⟩]
  .rw[if_neg (λx=>c x.2),if_neg (λx=>c x.2)]
 .rw[if_neg (λx=>x.2.2 h),if_neg (λx=>x.2.2 h)]
theorem a9y (h:a % 8+1 < 8):iR F B d (a+1) (cn d (a+1))=iR F B d a (cn d a):=by
 unfold iR
 rw[Xq h]
 have e1:(a+1) / 8=a / 8:=by omega
 have e2:(a+1) - (a+1) % 8=a - a % 8:=by omega
 rw[e1,e2]
theorem a9x (h0:0<=d) (hda:d<=a) (h:¬a % 8+1 < 8) (hb:0 < cn d a\/bare F B):iR F B d (a+1) (cn d (a+1))=iR F B d a (cn d a)+1:=by
 unfold iR
 rw[Xp hda h,at4 hda h0 hb]
 have p:=y8 hda
 have e1:(a+1) / 8=a / 8+1:=by omega
 have e2:(a+1) - (a+1) % 8=a+1:=by omega
 rw[e1,e2,if_neg om,if_neg om]
 omega
theorem XT (h0:0<=d) (hda:d<=a) (ha:a<=1024) (p:Int):0<=iR F B d a p/\iR F B d a p<=2048:=by
 unfold iR
 have:=aRX F B d p
 split <;>omega
theorem Ls (hF:∀q,0<=F q/\F q<=255) (hD:∀q,0<=D q/\D q<=255) (B p:Int) (q:Nat):0<=eA F B D p q/\eA F B D p q<=255:=by
 unfold eA
 split
 .exact hF q
 split
 .exact hF q
 split
 .exact hD _
 split
 .decide
 .exact hF q
theorem alp (hD:∀q,0<=D q/\D q<=255) (a:Int) (q:Nat):0<=mN D a q/\mN D a q<=255:=by
 unfold mN
 split
 .exact hD _
 split
 .exact hD _
 .decide
theorem a7D (hd0:0<=d) (hda:d<=a) (ha:a < 1024) (hB:0<=B) (h7:¬a % 8+1 < 8) (hb:0 < cn d a\/bare F B) {j:Nat} (hj:j < 8):eA F B D (cn d a) (j+(B+(a - 7)).toNat)=D (j+(a - 7).toNat)\/eA F B D (cn d a) (j+(B+(a - 7)).toNat)=255:=by
 have p:=y8 hda
 generalize cn d a=p at*
 obtain⟨p1,p2,p3,p4⟩:=p
 unfold eA
 by_cases cp:p<=0
 .right
  rw[if_pos cp]
  have hb:bare F B:=hb.resolve_left om
  have:=hb (j+(a - 7).toNat) om
  rw[<- this]
  congr 1
  omega
 rw[if_neg cp,if_neg om]
 by_cases c:((j+(B+(a - 7)).toNat:Nat):Int) < B+p
 .left
  rw[if_pos c]
  congr 1
  omega
 .right
  rw[if_neg c,if_pos om]
theorem Xo {d a:Int} (hd:d<=a) (h:a % 8=0):cn d a=a:=by unfold cn; split <;>omega
theorem a7I (hd0:0<=d) (hda:d<=a) (ha:a<=1024) (hB:0<=B) (h0:a % 8≠0) (hb:0 < cn d a\/bare F B) (q:Nat):eA F B D a q=if (q:Int) < B+(a - a % 8) then eA F B D (cn d a) q else if (q:Int) < B+(a - a % 8)+8 then (if (q:Int) < B+a then D (q - B.toNat) else 255) else eA F B D (cn d a) q:=by
 have p:=y8 hda
 generalize cn d a=p at*
 obtain⟨p1,p2,p3,p4⟩:=p
 unfold eA
 rw[if_neg (show ¬a<=0 by omega)]
 by_cases c0:(q:Int) < B
 .rw[if_pos c0,if_pos (show (q:Int) < B+(a - a % 8) by omega)]
  by_cases cp:p<=0
  .rw[if_pos cp]
  .rw[if_neg cp,if_pos c0]
 rw[if_neg c0]
 by_cases c1:(q:Int) < B+(a - a % 8)
 .rw[if_pos c1,if_pos (show (q:Int) < B+a by omega),if_neg (show ¬p<=0 by omega),if_neg c0,if_pos om]
 rw[if_neg c1]
 by_cases c2:(q:Int) < B+(a - a % 8)+8
 .rw[if_pos c2]
  by_cases c3:(q:Int) < B+a
  .rw[if_pos c3,if_pos c3]
  .rw[if_neg c3,if_neg c3,if_pos om]
 rw[if_neg c2,if_neg (show ¬(q:Int) < B+a by omega)]
 by_cases cp:p<=0
 .rw[if_pos cp]
  by_cases c3:(q:Int) < B+1024
  .rw[if_pos c3]
   have hb:bare F B:=hb.resolve_left om
   have:=hb (q - B.toNat) om
   rw[show q - B.toNat+B.toNat=q by omega] at this
   exact this.symm
  .rw[if_neg c3]
 .rw[if_neg cp,if_neg c0,if_neg (show ¬(q:Int) < B+p by omega)]
theorem at2 (hda:d<=a) (h0:0<=d) (ha:0 < a) (hb:0 < cn d a\/bare F B):ez F B d a=ez F B d (cn d a):=by
 unfold ez
 rcases hb with h | h
 .by_cases c:d=0/\¬bare F B
  .rw[if_pos ⟨ha,c⟩,if_pos ⟨h,c⟩]
  .rw[if_neg (λx=>c x.2),if_neg (λx=>c x.2)]
 .rw[if_neg (λx=>x.2.2 h),if_neg (λx=>x.2.2 h)]
theorem a9w (h0:0<=d) (hda:d < a) (h:a % 8≠0) (hb:0 < cn d a\/bare F B):iR F B d a a=iR F B d a (cn d a)+1:=by
 unfold iR
 have p:=y8 (d:=d) (a:=a) om
 rw[at2 om h0 om hb,if_pos om,if_neg om]
 omega
theorem a7E (hd0:0<=d) (hda:d<=a) (ha:a<=1024) (hB:0<=B) (h0:a % 8≠0) (hb:0 < cn d a\/bare F B) {j:Nat} (hj:j < 8):eA F B D (cn d a) (j+(B+(a - a % 8)).toNat)=255\/(j:Int) < a % 8/\eA F B D (cn d a) (j+(B+(a - a % 8)).toNat)=D (j+(a - a % 8).toNat):=by
 have p:=y8 hda
 generalize cn d a=p at*
 obtain⟨p1,p2,p3,p4⟩:=p
 unfold eA
 by_cases cp:p<=0
 .left
  rw[if_pos cp]
  have hb:bare F B:=hb.resolve_left om
  have:=hb (j+(a - a % 8).toNat) om
  rw[<- this]
  congr 1
  omega
 rw[if_neg cp,if_neg om]
 by_cases c:((j+(B+(a - a % 8)).toNat:Nat):Int) < B+p
 .right
  rw[if_pos c]
  refine⟨by omega,?_⟩
  congr 1
  omega
 .left
  rw[if_neg c,if_pos om]
end
end Go.Cu
namespace Go.Hz
open Go Go.Z
open Go.Sym (Bm DL K1 AY ayn C6 za Is XY xf IA cl iL et val pP jT uA mF eW lk wD wT yX lr nc lQ nr gB mulR rA aJ qS)
section
@[reducible] def U0:bI:=⟨λ_ _ _=>0,λ_=>none,λ_ _ _ _ _ h=>by cases h⟩
@[reducible] def env (l:List R):Env:=⟨lf l⟩
def ev (x:X) (l:List R):R:=@D U0 (env l) x
def it (ts:List X):Nat->List R->List R
 | 0,l=>l
 | k+1,l=>it ts k (ts.map λx=>ev x l)
theorem afu {ts:List X} {l:List R} {a b:Int} (h:a=b+1) (hb:0<=b):it ts b.toNat (ts.map λx=>ev x l)=it ts a.toNat l:=by
 rw[show a.toNat=b.toNat+1 by omega]; rfl
theorem aft {ts:List X} {l:List R} {a:Int} (h:a<=0):it ts a.toNat l=l:=by
 rw[show a.toNat=0 by omega]; rfl
def gH (r:R):R:=λq=>Lz.az 0 18446744073709551615 (r q)
def dI (r:R):R:=λq=>Lz.az 0 255 (r q)
theorem agC (x:Int):0<=x % 18446744073709551616/\x % 18446744073709551616<=18446744073709551615:=by omega
theorem qT (r:R) (q:Nat):0<=gH r q/\gH r q<=18446744073709551615:=Lz.cH dc _
theorem yC (r:R) (q:Nat):0<=dI r q/\dI r q<=255:=Lz.cH dc _
theorem sK {r:R} (h:∀q,0<=r q/\r q<=18446744073709551615):gH r=r:=funext λq=>Lz.a6 (h q).1 (h q).2
theorem lR {r:R} (h:∀q,0<=r q/\r q<=255):dI r=r:=funext λq=>Lz.a6 (h q).1 (h q).2
def Yv:X:=(.o3 0 (.v 1) (.o2 3 (.v 2) (.i 8)) (.o3 0 (.o2 6 (.o1 0 (.o2 2 (.o2 14 (.v 1) (.o2 3 (.v 2) (.i 8))) (.i 256))) (.o2 14 (.v 0) (.v 2))) (.i 1) (.o2 15 (.v 1) (.o2 0 (.o2 3 (.v 2) (.i 8)) (.i 1)))))
def XM:X:=(.o3 0 (.v 0) (.v 1) (.o3 0 (.o1 0 (.o2 0 (.o1 0 (.o2 0 (.o1 0 (.o2 0 (.o2 7 (.o2 7 (.o2 6 (.o1 0 (.o2 2 (.o2 14 (.v 0) (.o2 0 (.v 1) (.i (-2)))) (.i 35184372088832))) (.o2 10 (.o2 14 (.v 0) (.o2 0 (.v 1) (.i (-2)))) (.i 19))) (.o2 6 (.o1 0 (.o2 2 (.o2 14 (.v 0) (.o2 0 (.v 1) (.i (-2)))) (.i 8))) (.o2 10 (.o2 14 (.v 0) (.o2 0 (.v 1) (.i (-2)))) (.i 61)))) (.o2 10 (.o2 14 (.v 0) (.o2 0 (.v 1) (.i (-2)))) (.i 6))) (.o2 14 (.v 0) (.o2 0 (.v 1) (.i (-7)))))) (.o2 7 (.o2 7 (.o2 6 (.o1 0 (.o2 2 (.o2 14 (.v 0) (.o2 0 (.v 1) (.i (-15)))) (.i 9223372036854775808))) (.o2 10 (.o2 14 (.v 0) (.o2 0 (.v 1) (.i (-15)))) (.i 1))) (.o2 6 (.o1 0 (.o2 2 (.o2 14 (.v 0) (.o2 0 (.v 1) (.i (-15)))) (.i 72057594037927936))) (.o2 10 (.o2 14 (.v 0) (.o2 0 (.v 1) (.i (-15)))) (.i 8)))) (.o2 10 (.o2 14 (.v 0) (.o2 0 (.v 1) (.i (-15)))) (.i 7))))) (.o2 14 (.v 0) (.o2 0 (.v 1) (.i (-16)))))) (.i 1) (.o2 15 (.v 0) (.o2 0 (.v 1) (.i 1)))))
def Xx:X:=(.o3 0 (.o1 0 (.o2 0 (.o1 0 (.o2 0 (.o1 0 (.o2 0 (.o1 0 (.o2 0 (.o1 0 (.o2 0 (.o2 14 (.v 2) (.i 7)) (.o2 7 (.o2 7 (.o2 6 (.o1 0 (.o2 2 (.o2 14 (.v 2) (.i 4)) (.i 1125899906842624))) (.o2 10 (.o2 14 (.v 2) (.i 4)) (.i 14))) (.o2 6 (.o1 0 (.o2 2 (.o2 14 (.v 2) (.i 4)) (.i 70368744177664))) (.o2 10 (.o2 14 (.v 2) (.i 4)) (.i 18)))) (.o2 6 (.o1 0 (.o2 2 (.o2 14 (.v 2) (.i 4)) (.i 8388608))) (.o2 10 (.o2 14 (.v 2) (.i 4)) (.i 41)))))) (.o2 7 (.o2 5 (.o2 14 (.v 2) (.i 4)) (.o2 14 (.v 2) (.i 5))) (.o2 5 (.o2 0 (.o2 2 (.o2 14 (.v 2) (.i 4)) (.i (-1))) (.i 18446744073709551615)) (.o2 14 (.v 2) (.i 6)))))) (.o2 14 (.v 0) (.v 3)))) (.o2 14 (.v 1) (.v 3)))) (.o1 0 (.o2 0 (.o2 7 (.o2 7 (.o2 6 (.o1 0 (.o2 2 (.o2 14 (.v 2) (.i 0)) (.i 68719476736))) (.o2 10 (.o2 14 (.v 2) (.i 0)) (.i 28))) (.o2 6 (.o1 0 (.o2 2 (.o2 14 (.v 2) (.i 0)) (.i 1073741824))) (.o2 10 (.o2 14 (.v 2) (.i 0)) (.i 34)))) (.o2 6 (.o1 0 (.o2 2 (.o2 14 (.v 2) (.i 0)) (.i 33554432))) (.o2 10 (.o2 14 (.v 2) (.i 0)) (.i 39)))) (.o2 7 (.o2 7 (.o2 5 (.o2 14 (.v 2) (.i 0)) (.o2 14 (.v 2) (.i 1))) (.o2 5 (.o2 14 (.v 2) (.i 0)) (.o2 14 (.v 2) (.i 2)))) (.o2 5 (.o2 14 (.v 2) (.i 1)) (.o2 14 (.v 2) (.i 2)))))))) (.i 1) (.o3 0 (.o2 15 (.v 2) (.i 0)) (.i 3) (.o3 0 (.o1 0 (.o2 0 (.o2 14 (.v 2) (.i 3)) (.o1 0 (.o2 0 (.o1 0 (.o2 0 (.o1 0 (.o2 0 (.o1 0 (.o2 0 (.o2 14 (.v 2) (.i 7)) (.o2 7 (.o2 7 (.o2 6 (.o1 0 (.o2 2 (.o2 14 (.v 2) (.i 4)) (.i 1125899906842624))) (.o2 10 (.o2 14 (.v 2) (.i 4)) (.i 14))) (.o2 6 (.o1 0 (.o2 2 (.o2 14 (.v 2) (.i 4)) (.i 70368744177664))) (.o2 10 (.o2 14 (.v 2) (.i 4)) (.i 18)))) (.o2 6 (.o1 0 (.o2 2 (.o2 14 (.v 2) (.i 4)) (.i 8388608))) (.o2 10 (.o2 14 (.v 2) (.i 4)) (.i 41)))))) (.o2 7 (.o2 5 (.o2 14 (.v 2) (.i 4)) (.o2 14 (.v 2) (.i 5))) (.o2 5 (.o2 0 (.o2 2 (.o2 14 (.v 2) (.i 4)) (.i (-1))) (.i 18446744073709551615)) (.o2 14 (.v 2) (.i 6)))))) (.o2 14 (.v 0) (.v 3)))) (.o2 14 (.v 1) (.v 3)))))) (.i 1) (.o3 0 (.o2 15 (.v 2) (.i 4)) (.i 3) (.i 0)))))
def kkL:List Int:=[4794697086780616226,8158064640168781261,13096744586834688815,16840607885511220156,4131703408338449720,6480981068601479193,10538285296894168987,12329834152419229976,15566598209576043074,1334009975649890238,2608012711638119052,6128411473006802146,8268148722764581231,9286055187155687089,11230858885718282805,13951009754708518548,16472876342353939154,17275323862435702243,1135362057144423861,2597628984639134821,3308224258029322869,5365058923640841347,6679025012923562964,8573033837759648693,10970295158949994411,12119686244451234320,12683024718118986047,13788192230050041572,14330467153632333762,15395433587784984357,489312712824947311,1452737877330783856,2861767655752347644,3322285676063803686,5560940570517711597,5996557281743188959,7280758554555802590,8532644243296465576,9350256976987008742,10552545826968843579,11727347734174303076,12113106623233404929,14000437183269869457,14369950271660146224,15101387698204529176,15463397548674623760,17586052441742319658,1182934255886127544,1847814050463011016,2177327727835720531,2830643537854262169,3796741975233480872,4115178125766777443,5681478168544905931,6601373596472566643,7507060721942968483,8399075790359081724,8693463985226723168,9568029438360202098,10144078919501101548,10430055236837252648,11840083180663258601,13761210420658862357,14299343276471374635,14566680578165727644,15097957966210449927,16922976911328602910,17689382322260857208,500013540394364858,748580250866718886,1242879168328830382,1977374033974150939,2944078676154940804,3659926193048069267,4368137639120453308,4836135668995329356,5532061633213252278,6448918945643986474,6902733635092675308,7801388544844847127]
def beL:List Int:=[7640891576956012808,13503953896175478587,4354685564936845355,11912009170470909681,5840696475078001361,11170449401992604703,2270897969802886507,6620516959819538809]
def VJ:R:=gH λq=>kkL.getD q 0
def Da:R:=gH λq=>beL.getD q 0
def ak8:List R->R:=L3 λw m i=>gH (lf (it [.v 0,Yv,.o2 0 (.v 2) (.i 1)] (128 - i 0).toNat [w,m,i]) 1)
def ak9:List R->R:=L2 λw t=>gH (lf (it [XM,.o2 0 (.v 1) (.i 1)] (80 - t 0).toNat [w,t]) 0)
def ala:List R->R:=L4 λk w x t=>gH (lf (it [.v 0,.v 1,Xx,.o2 0 (.v 3) (.i 1)] (80 - t 0).toNat [k,w,x,t]) 2)
def a_A (w:R):R:=ak8 [w,λ_=>0,λ_=>0]
def Xw (s m:R):R:=ala [VJ,ak9 [O3 0 m (λ_=>16) (λ_=>0),λ_=>16],s,λ_=>0]
def Bf (s m:R):R:=gH λq=>(Xw s m q+s q) % 18446744073709551616
theorem a9C (s m:R) (q:Nat):0<=Bf s m q/\Bf s m q<=18446744073709551615:=by
 unfold Bf
 exact qT _ _
structure n7 where
 s:R
 n:Int
 w:R
def Ly (c:Int) (h:n7):n7:=⟨if (h.n+1) % 128=0 then Bf h.s (a_A (Lz.dh h.w (h.n % 128) c)) else h.s,h.n+1,Lz.dh h.w (h.n % 128) c⟩
def nm (b:R):Nat->Nat->n7->n7
 | 0,_,h=>h
 | k+1,i,h=>nm b k (i+1) (Ly (b i) h)
def fh (s:R) (n:Int) (w b:R) (k:Int):n7:=nm b k.toNat 0 ⟨s,n,w⟩
def fM (r:R) (n:Int):n7:=fh Da 0 (λ_=>0) r n
theorem DU {b c:R}:∀(k i j:Nat) (h:n7),(∀q,q < k->b (i+q)=c (j+q))->nm b k i h=nm c k j h
 | 0,_,_,_,_=>rfl
 | k+1,i,j,h,e=>by
  unfold nm
  rw[show b i=c j from e 0 om]
  exact DU k (i+1) (j+1) _ λq hq=>by rw[show i+1+q=i+(q+1) by omega,show j+1+q=j+(q+1) by omega]; exact e (q+1) om
theorem akk (b:R):∀(k m i:Nat) (h:n7),nm b (k+m) i h=nm b m (i+k) (nm b k i h)
 | 0,m,i,h=>by rw[Nat.zero_add]; rfl
 | k+1,m,i,h=>by
  rw[show k+1+m=(k+m)+1 by omega]
  show nm b (k+m) (i+1) _=nm b m (i+(k+1)) (nm b k (i+1) _)
  rw[akk b k m,show i+1+k=i+(k+1) by omega]
theorem akm (b:R):∀(k i:Nat) (h:n7),(nm b k i h).n=h.n+k
 | 0,_,h=>by show h.n=h.n+0; omega
 | k+1,i,h=>by
  show (nm b k (i+1) _).n=_
  rw[akm b k]
  show h.n+1+(k:Int)=h.n+((k+1:Nat):Int)
  omega
theorem auR {r b:R} {n k:Int} (hn:0<=n) (hk:0<=k):fh (fM r n).s n (fM r n).w b k=fM (λq=>if (q:Int) < n then r q else b (q - n.toNat)) (n+k):=by
 have key:∀h:n7,h.n=n->(⟨h.s,n,h.w⟩:n7)=h:=λh e=>by cases h; exact congrArg (λz=>n7.mk _ z _) e.symm
 have e:(⟨(fM r n).s,n,(fM r n).w⟩:n7)=fM r n:=by
  have:(fM r n).n=n:=by
   unfold fM fh
   rw[akm]
   show (0:Int)+(n.toNat:Int)=n
   omega
  exact key _ this
 unfold fh
 rw[e]
 unfold fM fh
 rw[show (n+k).toNat=n.toNat+k.toNat by omega,akk]
 rw[DU (b:=λq=>if (q:Int) < n then r q else b (q - n.toNat)) (c:=r) n.toNat 0 0 _ (λq hq=>if_pos om)]
 refine (DU _ _ _ _ λq hq=>?_).symm
 show (if ((0+n.toNat+q:Nat):Int) < n then _ else _)=_
 rw[if_neg om]
 congr 1
 omega
theorem a8j (s:R) (n:Int) (w b:R) {k:Int} (hk:0<=k):(fh s n w b k).n=n+k:=by
 unfold fh
 rw[akm]
 show n+(k.toNat:Int)=n+k
 omega
theorem a8l {s w b c:R} {n k:Int} (h:∀q:Nat,(q:Int) < k->b q=c q):fh s n w b k=fh s n w c k:=by
 unfold fh
 exact DU _ _ _ _ λq hq=>by rw[Nat.zero_add]; exact h q om
theorem a8k {s w b c:R} {n k m:Int} (hk:0<=k) (hm:0<=m):fh (fh s n w b k).s (n+k) (fh s n w b k).w c m=fh s n w (λq=>if (q:Int) < k then b q else c (q - k.toNat)) (k+m):=by
 have key:∀h:n7,h.n=n+k->(⟨h.s,n+k,h.w⟩:n7)=h:=λh e=>by cases h; exact congrArg (λz=>n7.mk _ z _) e.symm
 have e:=key (fh s n w b k) (a8j s n w b hk)
 conv=>lhs; unfold fh
 rw[show nm b k.toNat 0 ⟨s,n,w⟩=fh s n w b k from rfl,e]
 unfold fh
 rw[show (k+m).toNat=k.toNat+m.toNat by omega,akk]
 rw[DU (b:=λq=>if (q:Int) < k then b q else c (q - k.toNat)) (c:=b) k.toNat 0 0 _ (λq hq=>if_pos om)]
 refine (DU _ _ _ _ λq hq=>?_).symm
 show (if ((0+k.toNat+q:Nat):Int) < k then _ else _)=_
 rw[if_neg om]
 congr 1
 omega
theorem akl {b:R} (hb:∀q,0<=b q/\b q<=255):∀(k i:Nat) (h:n7),(∀q,0<=h.s q/\h.s q<=18446744073709551615)->(∀q,0<=h.w q/\h.w q<=255)->(∀q,0<=(nm b k i h).s q/\(nm b k i h).s q<=18446744073709551615)/\∀q,0<=(nm b k i h).w q/\(nm b k i h).w q<=255
 | 0,_,_,h1,h2=>⟨h1,h2⟩
 | k+1,i,h,h1,h2=>by
  refine akl hb k (i+1) _ (λq=>?_) (λq=>?_)
  .show 0<=(if (h.n+1) % 128=0 then _ else h.s) q/\(if (h.n+1) % 128=0 then _ else h.s) q<=_
   by_cases e:(h.n+1) % 128=0
   .rw[if_pos e]; exact qT _ _
   .rw[if_neg e]; exact h1 q
  .show 0<=Lz.dh h.w (h.n % 128) (b i) q/\Lz.dh h.w (h.n % 128) (b i) q<=255
   unfold Lz.dh
   split
   .exact hb i
   .exact h2 q
theorem aDC {s w b:R} {n k:Int} (hb:∀q,0<=b q/\b q<=255) (hs:∀q,0<=s q/\s q<=18446744073709551615) (hw:∀q,0<=w q/\w q<=255):gH (fh s n w b k).s=(fh s n w b k).s/\dI (fh s n w b k).w=(fh s n w b k).w:=
 ⟨sK (akl hb _ _ _ hs hw).1,lR (akl hb _ _ _ hs hw).2⟩
theorem afm {r b:R} {n:Int} (h:∀q:Nat,(q:Int) < n->r q=b q):fM r n=fM b n:=by
 unfold fM fh
 exact DU _ _ _ _ λq hq=>by rw[Nat.zero_add]; exact h q om
def e8 (x:Int):R:=λq=>x / 2 ^ (56 - 8*q) % 256
theorem atL (x:Int) (q:Nat):0<=e8 x q/\e8 x q<=255:=by unfold e8; omega
def bV (s:R):R:=λq=>s (q / 8) / 2 ^ (56 - 8*(q % 8)) % 256
theorem yA (s:R) (q:Nat):0<=bV s q/\bV s q<=255:=by unfold bV; omega
def Iu:List R->R:=L5 λs n w b k=>gH (fh s (n 0) w b (k 0)).s
theorem a_l (l:List R) (i:Nat):(0:Int)<=Iu l i/\Iu l i<=18446744073709551615:=qT _ _
def Yd:List R->R:=L5 λs n w b k=>dI (fh s (n 0) w b (k 0)).w
def alc:List R->R:=L1 λx=>e8 (x 0)
def GN (x:Int):Int:=if (((x.toNat &&& (1:Int).toNat:Nat):Int))=1 then ((((((x.toNat>>>(1:Int).toNat:Nat):Int)).toNat ^^^ (3988292384:Int).toNat:Nat):Int)) else ((x.toNat>>>(1:Int).toNat:Nat):Int)
def p7:Nat->Int->Int
 | 0,x=>x
 | k+1,x=>p7 k (GN x)
def lb (x:Int):Int:=Lz.az 0 4294967295 x
theorem Oz (x:Int):0<=lb x/\lb x<=4294967295:=Lz.cH dc _
theorem a9J (x:Int):0<=4294967295 - lb x/\4294967295 - lb x<=4294967295:=by have:=Oz x; omega
def yD:R:=λq=>lb (p7 8 q)
def KA (x c:Int):Int:=lb ((((((x.toNat>>>(8:Int).toNat:Nat):Int)).toNat ^^^ (yD ((((x % 256).toNat ^^^ c.toNat:Nat):Int)).toNat).toNat:Nat):Int))
def ld (b:R):Nat->Nat->Int->Int
 | 0,_,x=>x
 | k+1,i,x=>ld b k (i+1) (KA x (b i))
theorem atv (b c:R) (m:Nat) (h:∀q,c q=b (q+m)):∀(k i:Nat) (x:Int),ld c k i x=ld b k (i+m) x
 | 0,_,_=>rfl
 | k+1,i,x=>by
  show ld c k (i+1) (KA x (c i))=ld b k (i+m+1) (KA x (b (i+m)))
  rw[atv b c m h k (i+1),h i,show i+1+m=i+m+1 by omega]
theorem atu {b c:R}:∀(k i:Nat) (x:Int),(∀q,q < k->b (i+q)=c (i+q))->ld b k i x=ld c k i x
 | 0,_,_,_=>rfl
 | k+1,i,x,e=>by
  unfold ld
  rw[show b i=c i from e 0 om]
  exact atu k (i+1) _ λq hq=>by rw[show i+1+q=i+(q+1) by omega]; exact e (q+1) om
def Iy (r:R):Int:=Lz.az 0 18446744073709551615 (r 0+r 1*256+r 2*65536+r 3*16777216+r 4*4294967296+r 5*1099511627776+r 6*281474976710656+r 7*72057594037927936)
theorem a_r (r:R):0<=Iy r/\Iy r<=18446744073709551615:=Lz.cH dc _
def Kp (r:R):Int:=Lz.az 0 18446744073709551615 (((((((r 0*256+r 1)*256+r 2)*256+r 3)*256+r 4)*256+r 5)*256+r 6)*256+r 7)
theorem aQg (r:R):0<=Kp r/\Kp r<=18446744073709551615:=Lz.cH dc _
def G7 (x:Int):R:=λq=>x / 2 ^ (8*q) % 256
theorem aTD (x:Int) (q:Nat):0<=G7 x q/\G7 x q<=255:=by unfold G7; omega
theorem a_s {x:Int} (h0:0<=x) (h1:x<=18446744073709551615):Iy (G7 x)=x:=by
 unfold Iy G7
 rw[Lz.a6] <;>omega
def aQv (r s n o:R):R:=λq=>if (q:Int) < n 0 then r (q+(s 0).toNat) else o q
def kR (c:Int):R:=λ_=>c
def xe (s n w:R):R:=
 let b1:=O2 15 (O3 0 (kR 128) (kR 1) (kR 0)) (kR 0)
 let s1:=Iu [s,n,w,b1,kR 1]
 let w1:=Yd [s,n,w,b1,kR 1]
 let n1:=O2 0 n (kR 1)
 let k2:=O2 4 (O2 1 (kR 240) (O2 4 n1 (kR 128))) (kR 128)
 let s2:=Iu [s1,n1,w1,kR 0,k2]
 let w2:=Yd [s1,n1,w1,kR 0,k2]
 let n2:=O2 0 n1 k2
 let b3:=O2 15 (alc [O2 10 n (kR 61)]) (kR 0)
 let s3:=Iu [s2,n2,w2,b3,kR 8]
 let w3:=Yd [s2,n2,w2,b3,kR 8]
 let n3:=O2 0 n2 (kR 8)
 Iu [s3,n3,w3,O2 15 (alc [O2 2 n (kR 8)]) (kR 0),kR 8]
theorem a9M (s n w:R) (q:Nat):0<=xe s n w q/\xe s n w q<=18446744073709551615:=by
 unfold xe
 exact a_l _ _
def alb:List R->R:=L2 λs m=>Bf s m
def Iv:List R->R:=L2 λr n=>gH (fM r (n 0)).s
def Iw:List R->R:=L2 λr n=>dI (fM r (n 0)).w
def tc:List R->R:=L2 λr n=>bV (xe (Iv [r,n]) n (Iw [r,n]))
def Ye:List R->R:=L1 λx=>G7 (x 0)
def oz:List R->R:=L2 λb n=>λ_=>4294967295 - lb (ld b (n 0).toNat 0 4294967295)
def ald:List R->R:=L4 λF B D p=>dI (Cu.eA F (B 0) D (p 0))
def ale:List R->R:=L5 λe F B d p=>λq=>Lz.az 0 1001 (Cu.lU F (B 0) (d 0) (p 0) e q)
def Bj:List R->R:=L1 λa=>Cy.oc a
theorem aE9 (l:List R) (i:Nat):(0:Int)<=Bj l i/\Bj l i<=255:=Cy.asT _ _
def alf:List R->R:=L1 λd=>Cy.Qu d
def Yf:List R->R:=L3 λh k s=>Cy.LX h k s
def QZ:List R->R:=L3 λa b c=>Cy.wJ a b c
theorem a_m (l:List R) (i:Nat):(0:Int)<=QZ l i/\QZ l i<=255:=Cy.ayy _ _ _ _
def Yg:List R->R:=L1 λs=>Cy.GK s
def lq (k s b n:R):R:=(O3 0 k (kR 1) (O3 0 (kR 0) (kR 1) (O3 0 (O1 3 n) (kR 1) (O3 0 (O2 10 n (kR 8)) (kR 1) (O3 0 (O1 3 s) (kR 1) (O3 0 (O1 3 (O2 10 s (kR 8))) (kR 1) (O3 0 (O1 3 (O2 10 s (kR 16))) (kR 1) (O3 0 (O2 10 s (kR 24)) (kR 1) (O3 0 b n (O3 0 (O1 3 (oz [(O3 0 k (kR 1) (O3 0 (kR 0) (kR 1) (O3 0 (O1 3 n) (kR 1) (O3 0 (O2 10 n (kR 8)) (kR 1) (O3 0 (O1 3 s) (kR 1) (O3 0 (O1 3 (O2 10 s (kR 8))) (kR 1) (O3 0 (O1 3 (O2 10 s (kR 16))) (kR 1) (O3 0 (O2 10 s (kR 24)) (kR 1) (O3 0 b n (kR 0)))))))))),(O2 0 n (kR 8))])) (kR 1) (O3 0 (O1 3 (O2 10 (oz [(O3 0 k (kR 1) (O3 0 (kR 0) (kR 1) (O3 0 (O1 3 n) (kR 1) (O3 0 (O2 10 n (kR 8)) (kR 1) (O3 0 (O1 3 s) (kR 1) (O3 0 (O1 3 (O2 10 s (kR 8))) (kR 1) (O3 0 (O1 3 (O2 10 s (kR 16))) (kR 1) (O3 0 (O2 10 s (kR 24)) (kR 1) (O3 0 b n (kR 0)))))))))),(O2 0 n (kR 8))]) (kR 8))) (kR 1) (O3 0 (O1 3 (O2 10 (oz [(O3 0 k (kR 1) (O3 0 (kR 0) (kR 1) (O3 0 (O1 3 n) (kR 1) (O3 0 (O2 10 n (kR 8)) (kR 1) (O3 0 (O1 3 s) (kR 1) (O3 0 (O1 3 (O2 10 s (kR 8))) (kR 1) (O3 0 (O1 3 (O2 10 s (kR 16))) (kR 1) (O3 0 (O2 10 s (kR 24)) (kR 1) (O3 0 b n (kR 0)))))))))),(O2 0 n (kR 8))]) (kR 16))) (kR 1) (O3 0 (O2 10 (oz [(O3 0 k (kR 1) (O3 0 (kR 0) (kR 1) (O3 0 (O1 3 n) (kR 1) (O3 0 (O2 10 n (kR 8)) (kR 1) (O3 0 (O1 3 s) (kR 1) (O3 0 (O1 3 (O2 10 s (kR 8))) (kR 1) (O3 0 (O1 3 (O2 10 s (kR 16))) (kR 1) (O3 0 (O2 10 s (kR 24)) (kR 1) (O3 0 b n (kR 0)))))))))),(O2 0 n (kR 8))]) (kR 24)) (kR 1) (O3 0 (O1 3 (O2 0 (O2 2 (oz [(O3 0 k (kR 1) (O3 0 (kR 0) (kR 1) (O3 0 (O1 3 n) (kR 1) (O3 0 (O2 10 n (kR 8)) (kR 1) (O3 0 (O1 3 s) (kR 1) (O3 0 (O1 3 (O2 10 s (kR 8))) (kR 1) (O3 0 (O1 3 (O2 10 s (kR 16))) (kR 1) (O3 0 (O2 10 s (kR 24)) (kR 1) (O3 0 b n (kR 0)))))))))),(O2 0 n (kR 8))]) (kR (-1))) (kR 4294967295))) (kR 1) (O3 0 (O1 3 (O2 10 (O2 0 (O2 2 (oz [(O3 0 k (kR 1) (O3 0 (kR 0) (kR 1) (O3 0 (O1 3 n) (kR 1) (O3 0 (O2 10 n (kR 8)) (kR 1) (O3 0 (O1 3 s) (kR 1) (O3 0 (O1 3 (O2 10 s (kR 8))) (kR 1) (O3 0 (O1 3 (O2 10 s (kR 16))) (kR 1) (O3 0 (O2 10 s (kR 24)) (kR 1) (O3 0 b n (kR 0)))))))))),(O2 0 n (kR 8))]) (kR (-1))) (kR 4294967295)) (kR 8))) (kR 1) (O3 0 (O1 3 (O2 10 (O2 0 (O2 2 (oz [(O3 0 k (kR 1) (O3 0 (kR 0) (kR 1) (O3 0 (O1 3 n) (kR 1) (O3 0 (O2 10 n (kR 8)) (kR 1) (O3 0 (O1 3 s) (kR 1) (O3 0 (O1 3 (O2 10 s (kR 8))) (kR 1) (O3 0 (O1 3 (O2 10 s (kR 16))) (kR 1) (O3 0 (O2 10 s (kR 24)) (kR 1) (O3 0 b n (kR 0)))))))))),(O2 0 n (kR 8))]) (kR (-1))) (kR 4294967295)) (kR 16))) (kR 1) (O3 0 (O2 10 (O2 0 (O2 2 (oz [(O3 0 k (kR 1) (O3 0 (kR 0) (kR 1) (O3 0 (O1 3 n) (kR 1) (O3 0 (O2 10 n (kR 8)) (kR 1) (O3 0 (O1 3 s) (kR 1) (O3 0 (O1 3 (O2 10 s (kR 8))) (kR 1) (O3 0 (O1 3 (O2 10 s (kR 16))) (kR 1) (O3 0 (O2 10 s (kR 24)) (kR 1) (O3 0 b n (kR 0)))))))))),(O2 0 n (kR 8))]) (kR (-1))) (kR 4294967295)) (kR 24)) (kR 1) (kR 0))))))))))))))))))
def LD (k s:R):R:=(O3 0 k (kR 1) (O3 0 (kR 0) (kR 3) (O3 0 (O1 3 s) (kR 1) (O3 0 (O1 3 (O2 10 s (kR 8))) (kR 1) (O3 0 (O1 3 (O2 10 s (kR 16))) (kR 1) (O3 0 (O2 10 s (kR 24)) (kR 1) (O3 0 (O1 3 (oz [(O3 0 k (kR 1) (O3 0 (kR 0) (kR 3) (O3 0 (O1 3 s) (kR 1) (O3 0 (O1 3 (O2 10 s (kR 8))) (kR 1) (O3 0 (O1 3 (O2 10 s (kR 16))) (kR 1) (O3 0 (O2 10 s (kR 24)) (kR 1) (kR 0))))))),(kR 8)])) (kR 1) (O3 0 (O1 3 (O2 10 (oz [(O3 0 k (kR 1) (O3 0 (kR 0) (kR 3) (O3 0 (O1 3 s) (kR 1) (O3 0 (O1 3 (O2 10 s (kR 8))) (kR 1) (O3 0 (O1 3 (O2 10 s (kR 16))) (kR 1) (O3 0 (O2 10 s (kR 24)) (kR 1) (kR 0))))))),(kR 8)]) (kR 8))) (kR 1) (O3 0 (O1 3 (O2 10 (oz [(O3 0 k (kR 1) (O3 0 (kR 0) (kR 3) (O3 0 (O1 3 s) (kR 1) (O3 0 (O1 3 (O2 10 s (kR 8))) (kR 1) (O3 0 (O1 3 (O2 10 s (kR 16))) (kR 1) (O3 0 (O2 10 s (kR 24)) (kR 1) (kR 0))))))),(kR 8)]) (kR 16))) (kR 1) (O3 0 (O2 10 (oz [(O3 0 k (kR 1) (O3 0 (kR 0) (kR 3) (O3 0 (O1 3 s) (kR 1) (O3 0 (O1 3 (O2 10 s (kR 8))) (kR 1) (O3 0 (O1 3 (O2 10 s (kR 16))) (kR 1) (O3 0 (O2 10 s (kR 24)) (kR 1) (kR 0))))))),(kR 8)]) (kR 24)) (kR 1) (O3 0 (O1 3 (O2 0 (O2 2 (oz [(O3 0 k (kR 1) (O3 0 (kR 0) (kR 3) (O3 0 (O1 3 s) (kR 1) (O3 0 (O1 3 (O2 10 s (kR 8))) (kR 1) (O3 0 (O1 3 (O2 10 s (kR 16))) (kR 1) (O3 0 (O2 10 s (kR 24)) (kR 1) (kR 0))))))),(kR 8)]) (kR (-1))) (kR 4294967295))) (kR 1) (O3 0 (O1 3 (O2 10 (O2 0 (O2 2 (oz [(O3 0 k (kR 1) (O3 0 (kR 0) (kR 3) (O3 0 (O1 3 s) (kR 1) (O3 0 (O1 3 (O2 10 s (kR 8))) (kR 1) (O3 0 (O1 3 (O2 10 s (kR 16))) (kR 1) (O3 0 (O2 10 s (kR 24)) (kR 1) (kR 0))))))),(kR 8)]) (kR (-1))) (kR 4294967295)) (kR 8))) (kR 1) (O3 0 (O1 3 (O2 10 (O2 0 (O2 2 (oz [(O3 0 k (kR 1) (O3 0 (kR 0) (kR 3) (O3 0 (O1 3 s) (kR 1) (O3 0 (O1 3 (O2 10 s (kR 8))) (kR 1) (O3 0 (O1 3 (O2 10 s (kR 16))) (kR 1) (O3 0 (O2 10 s (kR 24)) (kR 1) (kR 0))))))),(kR 8)]) (kR (-1))) (kR 4294967295)) (kR 16))) (kR 1) (O3 0 (O2 10 (O2 0 (O2 2 (oz [(O3 0 k (kR 1) (O3 0 (kR 0) (kR 3) (O3 0 (O1 3 s) (kR 1) (O3 0 (O1 3 (O2 10 s (kR 8))) (kR 1) (O3 0 (O1 3 (O2 10 s (kR 16))) (kR 1) (O3 0 (O2 10 s (kR 24)) (kR 1) (kR 0))))))),(kR 8)]) (kR (-1))) (kR 4294967295)) (kR 24)) (kR 1) (kR 0)))))))))))))))
def aTa (k v f n d g:R):R:=(O3 0 (kR 66) (kR 1) (O3 0 (kR 74) (kR 1) (O3 0 (kR 75) (kR 1) (O3 0 (kR 49) (kR 1) (O3 0 k (kR 1) (O3 0 (kR 1) (kR 1) (O3 0 (kR 0) (kR 2) (O3 0 (Ye [v]) (kR 8) (O3 0 (Ye [f]) (kR 8) (O3 0 (Ye [n]) (kR 8) (O3 0 (tc [(O3 0 (tc [(O3 0 (O1 3 (rB [d,n])) (kR 1) (O3 0 (O1 3 (O2 10 (rB [d,n]) (kR 8))) (kR 1) (O3 0 (O1 3 n) (kR 1) (O3 0 (O2 10 n (kR 8)) (kR 1) (O3 0 (Yh [(Yi [d,n]),(rB [d,n])]) (rB [d,n]) (kR 0)))))),(O2 0 (rB [d,n]) (kR 4))]) (kR 64) (kR 0)),(kR 64)]) (kR 64) (O3 0 (tc [(O3 0 d n (kR 0)),(O2 0 (kR 0) n)]) (kR 64) (O3 0 g (kR 64) (O3 0 (tc [(O3 0 (O1 3 (rB [d,n])) (kR 1) (O3 0 (O1 3 (O2 10 (rB [d,n]) (kR 8))) (kR 1) (O3 0 (O1 3 n) (kR 1) (O3 0 (O2 10 n (kR 8)) (kR 1) (O3 0 (Yh [(Yi [d,n]),(rB [d,n])]) (rB [d,n]) (kR 0)))))),(O2 0 (rB [d,n]) (kR 4))]) (kR 64) (O3 0 (O1 3 (rB [d,n])) (kR 1) (O3 0 (O1 3 (O2 10 (rB [d,n]) (kR 8))) (kR 1) (O3 0 (O1 3 n) (kR 1) (O3 0 (O2 10 n (kR 8)) (kR 1) (Yh [(Yi [d,n]),(rB [d,n])])))))))))))))))))))
theorem aQV {a n b:R} {lo hi:Int} (ha:∀q,lo<=a q/\a q<=hi) (hb:∀q,lo<=b q/\b q<=hi) (q:Nat):lo<=O3 0 a n b q/\O3 0 a n b q<=hi:=by
 show lo<=(if (q:Int) < n 0 then a q else b (q - (n 0).toNat))/\(if (q:Int) < n 0 then a q else b (q - (n 0).toNat))<=hi
 split
 .exact ha _
 .exact hb _
def atx (t:R):R:=(O3 0 (kR 83) (kR 1) (O3 0 (kR 105) (kR 1) (O3 0 (kR 103) (kR 1) (O3 0 (kR 69) (kR 1) (O3 0 (kR 100) (kR 1) (O3 0 (kR 50) (kR 1) (O3 0 (kR 53) (kR 2) (O3 0 (kR 49) (kR 1) (O3 0 (kR 57) (kR 1) (O3 0 (kR 32) (kR 1) (O3 0 (kR 110) (kR 1) (O3 0 (kR 111) (kR 1) (O3 0 (kR 32) (kR 1) (O3 0 (kR 69) (kR 1) (O3 0 (kR 100) (kR 1) (O3 0 (kR 50) (kR 1) (O3 0 (kR 53) (kR 2) (O3 0 (kR 49) (kR 1) (O3 0 (kR 57) (kR 1) (O3 0 (kR 32) (kR 1) (O3 0 (kR 99) (kR 1) (O3 0 (kR 111) (kR 1) (O3 0 (kR 108) (kR 2) (O3 0 (kR 105) (kR 1) (O3 0 (kR 115) (kR 1) (O3 0 (kR 105) (kR 1) (O3 0 (kR 111) (kR 1) (O3 0 (kR 110) (kR 1) (O3 0 (kR 115) (kR 1) (O3 0 (kR 1) (kR 1) (O3 0 (kR 8) (kR 1) (O3 0 (kR 98) (kR 1) (O3 0 (kR 111) (kR 2) (O3 0 (kR 116) (kR 1) (O3 0 (kR 106) (kR 1) (O3 0 (kR 97) (kR 1) (O3 0 (kR 99) (kR 1) (O3 0 (kR 107) (kR 1) t))))))))))))))))))))))))))))))))))))))
def LN (s:R):R:=(O3 0 (O2 8 (O2 14 (tc [(O3 0 s (kR 32) (kR 0)),(kR 32)]) (kR 0)) (kR 7)) (kR 1) (O3 0 (O2 15 (tc [(O3 0 s (kR 32) (kR 0)),(kR 32)]) (kR 1)) (kR 30) (O3 0 (O2 6 (O2 8 (O2 14 (tc [(O3 0 s (kR 32) (kR 0)),(kR 32)]) (kR 31)) (kR 128)) (kR 64)) (kR 1) (kR 0))))
def qU (s:R):R:=Bj [LN s]
theorem aQ8 (s:R) (q:Nat):0<=qU s q/\qU s q<=255:=aE9 _ _
def p8 (s m:R):R:=alf [tc [atx (O3 0 (O2 15 (tc [O3 0 s (kR 32) (kR 0),kR 32]) (kR 32)) (kR 32) (O3 0 m (kR 64) (kR 0))),kR 138]]
def yE (r k m:R):R:=alf [tc [atx (O3 0 r (kR 32) (O3 0 k (kR 32) (O3 0 m (kR 64) (kR 0)))),kR 170]]
def lS (s m:R):R:=O3 0 (Bj [p8 s m]) (kR 32) (QZ [yE (Bj [p8 s m]) (qU s) m,LN s,p8 s m])
theorem aQ9 (s m:R) (q:Nat):0<=lS s m q/\lS s m q<=255:=aQV (λ_=>aE9 _ _) (λ_=>a_m _ _) q
def US (k m g:R):R:=O3 1 (O1 8 (Yg [O2 15 g (kR 32)])) (kR 0) (O3 2 (Yf [yE g k m,k,O2 15 g (kR 32)]) g (kR 32))
theorem aRa (k m g:R) (q:Nat):0<=US k m g q/\US k m g q<=1:=by
 show 0<=(if _=(0:Int) then _ else _)/\(if _=(0:Int) then _ else _)<=(1:Int)
 split
 .exact ru _
 .exact⟨aP _,by show (0:Int)<=1; decide⟩
def lt1:Nat->UF
 | 1001=>uB 0 18446744073709551615 ak8 λ_ _=>qT _ _
 | 1002=>uB 0 18446744073709551615 ak9 λ_ _=>qT _ _
 | 1003=>uB 0 18446744073709551615 ala λ_ _=>qT _ _
 | 1004=>uB 0 18446744073709551615 alb λ_ _=>a9C _ _ _
 | 1005=>uB 0 18446744073709551615 Iu λ_ _=>qT _ _
 | 1006=>uB 0 255 Yd λ_ _=>yC _ _
 | 1007=>uB 0 18446744073709551615 (λ_=>VJ) λ_ _=>qT _ _
 | 1008=>uB 0 18446744073709551615 (λ_=>Da) λ_ _=>qT _ _
 | 1009=>uB 0 18446744073709551615 Iv λ_ _=>qT _ _
 | 1010=>uB 0 255 Iw λ_ _=>yC _ _
 | 1012=>uB 0 18446744073709551615 (L3 λs n w=>xe s n w) λ_ _=>a9M _ _ _ _
 | 1013=>uB 0 255 (L1 λs=>bV s) λ_ _=>yA _ _
 | 1014=>uB 0 255 alc λ_ _=>atL _ _
 | 1015=>uB 0 255 tc λ_ _=>yA _ _
 | 1030=>uB 0 18446744073709551615 (L1 λr=>λ_=>Iy r) λ_ _=>a_r _
 | 1031=>uB 0 255 Ye λ_ _=>aTD _ _
 | 1041=>uB 0 4294967295 (L2 λx k=>λ_=>lb (p7 (k 0).toNat (x 0))) λ_ _=>Oz _
 | 1042=>uB 0 4294967295 (λ_=>yD) λ_ _=>Oz _
 | 1044=>uB 0 4294967295 oz λ_ _=>a9J _
 | 1043=>uB 0 4294967295 (L3 λx b n=>λ_=>lb (ld b (n 0).toNat 0 (x 0))) λ_ _=>Oz _
 | 1046=>uB 0 18446744073709551615 (L1 λr=>λ_=>Kp r) λ_ _=>aQg _
 | 1050=>uB 0 255 (L4 λk s b n=>dI (lq k s b n)) λ_ _=>yC _ _
 | 1051=>uB 0 255 (L2 λk s=>dI (LD k s)) λ_ _=>yC _ _
 | 1082=>uB 4 4096 (L2 λr n=>λ_=>Lz.az 4 4096 (Lz.dk r (n 0))) λ_ _=>Lz.cH dc _
 | 1200=>uB 0 255 (L4 λr s n o=>dI (aQv r s n o)) λ_ _=>yC _ _
 | 1210=>uB 0 255 (L6 λk v f n d g=>dI (aTa k v f n d g)) λ_ _=>yC _ _
 | 1100=>uB 0 255 ald λ_ _=>yC _ _
 | 1101=>uB 0 255 (L2 λD a=>dI (Cu.mN D (a 0))) λ_ _=>yC _ _
 | 1102=>uB 0 1001 ale λ_ _=>Lz.cH dc _
 | 1103=>uB 0 2048 (L5 λF B d a p=>λ_=>Lz.az 0 2048 (Cu.iR F (B 0) (d 0) (a 0) (p 0))) λ_ _=>Lz.cH dc _
 | 1105=>uB 0 1024 (L2 λd a=>λ_=>Lz.az 0 1024 (Cu.cn (d 0) (a 0))) λ_ _=>Lz.cH dc _
 | 1106=>uB 0 255 (L3 λm k d=>dI (O3 0 m k d)) λ_ _=>yC _ _
 | 1120=>uB 0 2251799813947392 (L1 λa=>Cy.Oh a) λ_ _=>Cy.aP5 _ _
 | 1121=>uB 0 255 Bj λ_ _=>Cy.asT _ _
 | 1122=>uB 0 2251799813947392 (L1 λk=>Cy.Pv k) λ_ _=>Cy.a0w _ _
 | 1123=>uB 0 2251799813947392 (L1 λk=>Cy.OC k) λ_ _=>Cy.aRj _ _
 | 1124=>uB 0 1 (L1 λk=>Cy.KC k) λ_ _=>Cy.aRi _ _
 | 1125=>uB 0 2251799813947392 (L3 λh k s=>Cy.QX h k s) λ_ _=>Cy.a98 _ _ _ _
 | 1126=>uB 0 255 alf λ_ _=>Cy.a8F _ _
 | 1127=>uB 0 255 Yf λ_ _=>Cy.a97 _ _ _ _
 | 1128=>uB 0 255 QZ λ_ _=>Cy.ayy _ _ _ _
 | 1129=>uB 0 1 Yg λ_ _=>Cy.aQZ _ _
 | 2000=>uB 0 2251799813947392 (L1 λb=>cl (et (aJ (Go.Sym.bv b) 32))) λ_ _=>iL _ _
 | 2001=>uB 0 2251799813947392 (L1 λx=>cl (et (val x % pP))) λ_ _=>iL _ _
 | 2002=>uB 0 2251799813947392 (L1 λs=>jT s) λ_ _=>iL _ _
 | 2003=>uB 0 2251799813947392 (L2 λx y=>uA x y) λ_ _=>iL _ _
 | 2004=>uB 0 2251799813947392 (L2 λx y=>mF x y) λ_ _=>iL _ _
 | 2005=>uB 0 2251799813947392 (L2 λx y=>eW x y) λ_ _=>iL _ _
 | 2006=>uB 0 255 (L1 λx=>Go.Sym.bV (val x % pP)) λ_ _=>Cy.yA _ _
 | 2008=>uB 0 255 (L3 λl m i=>dI (qS l (255 - i 0).toNat m)) λ_ _=>yC _ _
 | 2010=>uB 0 2251799813947392 (L4 λx e m k=>cl (lk x (aJ (Go.Sym.bv e) 32) (k 0+1).toNat m)) λ_ _=>iL _ _
 | 2011=>uB 0 2251799813947392 (L1 λx=>cl (wD x)) λ_ _=>iL _ _
 | 2012=>uB 0 2251799813947392 (L1 λx=>cl (wT x)) λ_ _=>iL _ _
 | 2013=>uB 0 1 (L1 λx=>Cy.cB (yX x)) λ_ _=>ru _
 | 2014=>uB 0 2251799813947392 (L1 λy=>cl (lr y).1) λ_ _=>iL _ _
 | 2015=>uB 0 1 (L1 λy=>Cy.cB (lr y).2) λ_ _=>ru _
 | 2016=>uB 0 2251799813947392 (λ_=>cl nc) λ_ _=>iL _ _
 | 2017=>uB 0 2251799813947392 (λ_=>cl lQ) λ_ _=>iL _ _
 | 2018=>uB 0 2251799813947392 (λ_=>cl nr) λ_ _=>iL _ _
 | 2020=>uB 0 2251799813947392 (L2 λp q=>cl (gB p q)) λ_ _=>iL _ _
 | 2030=>uB 0 35184372088831 (L1 λa=>λ_=>Lz.az 0 35184372088831 (a 0 / 18446744073709551616)) λ_ _=>Lz.cH dc _
 | 2031=>uB 0 18446744073709551615 (L1 λa=>λ_=>a 0 % 18446744073709551616) λ_ _=>agC _
 | 2025=>uB 0 2251799813947392 (L4 λn p m k=>cl (mulR (aJ (Go.Sym.bv n) 32) p (k 0+1).toNat m)) λ_ _=>iL _ _
 | 2026=>uB 0 2251799813947392 (L5 λa p b m k=>cl (rA (aJ (Go.Sym.bv a) 32) (aJ (Go.Sym.bv b) 32) p (k 0+1).toNat m)) λ_ _=>iL _ _
 | 2021=>uB 0 1 (L2 λa i=>Cy.cB (decide (aJ (Go.Sym.bv a) 32 / 2 ^ (i 0).toNat % 2=1))) λ_ _=>ru _
 | 2032=>uB 0 18446744073709551615 (L1 λa=>λ_=>Lz.az 0 18446744073709551615 (a 0 / 18446744073709551616)) λ_ _=>Lz.cH dc _
 | 2040=>uB 0 18446744073709551615 (L2 λb n=>DL b (n 0)) λ_ _=>Bm _ _
 | 2042=>uB 0 18446744073709551615 (L2 λa b=>K1 a b) λ_ _=>Bm _ _
 | 2043=>uB 0 1 (L2 λa b=>AY a b) λ_ i=>ayn _ _ i
 | 2044=>uB 0 18446744073709551615 (L2 λa b=>C6 a b) λ_ _=>Bm _ _
 | 2045=>uB 0 18446744073709551615 (L3 λw r i=>za w r (i 0)) λ_ _=>Bm _ _
 | 2046=>uB 0 18446744073709551615 (L2 λa b=>Is a b) λ_ _=>Bm _ _
 | 2047=>uB 0 18446744073709551615 (L6 λx b o c p j=>gH (XY x b o c p j).1) λ_ _=>qT _ _
 | 2048=>uB 0 18446744073709551615 (L6 λx b o c p j=>λ_=>Lz.az 0 18446744073709551615 (XY x b o c p j).2) λ_ _=>Lz.cH dc _
 | 2054=>uB 0 18446744073709551615 (L4 λa b o i=>gH (xf a b (4 - i 0).toNat o)) λ_ _=>qT _ _
 | 2049=>uB 0 255 (L1 λw=>IA w) λ_ _=>Cy.yA _ _
 | 2050=>uB 0 18446744073709551615 (L3 λa b c=>λ_=>(a 0 - b 0 - c 0) % 18446744073709551616) λ_ _=>agC _
 | 2051=>uB 0 1 (L3 λa b c=>λ_=>tf (decide (a 0 < b 0+c 0))) λ_ _=>ru _
 | 2052=>uB 0 18446744073709551615 (L3 λa b c=>λ_=>(a 0+b 0+c 0) % 18446744073709551616) λ_ _=>agC _
 | 2053=>uB 0 1 (L3 λa b c=>λ_=>tf (decide (18446744073709551616<=a 0+b 0+c 0))) λ_ _=>ru _
 | 1131=>uB 0 255 (L1 λs=>qU s) λ_ _=>aQ8 _ _
 | 1130=>uB 0 255 (L2 λs m=>lS s m) λ_ _=>aQ9 _ _ _
 | 1132=>uB 0 1 (L3 λk m g=>US k m g) λ_ _=>aRa _ _ _ _
 | _=>uN λ_ _=>0
instance:kv:=⟨lt1⟩
theorem JT (E:Env) (n:Int):D (.i n)=λ_=>n:=rfl
theorem yg (E:Env) (a b c:X):D (.o3 0 a b c)=O3 0 (D a) (D b) (D c):=rfl
end
end Go.Hz
namespace Go.Proofs.Y
open Go Go.Z
section
open Hz
abbrev fe:Nat×Int×Int:=(1,0,18446744073709551615)
abbrev aLU:V:=.c (.sl 0 10 ae ef (.k ef))
abbrev Jo:V:=lB 2
abbrev de:ai:=.c (.bool true)
abbrev kp(a:X):ai:=.a [.u64] aH a
abbrev eO:ai:=fQ 6
abbrev aby:Nat×Bl:=(0,⟨196,[de,kp (.v 7),eO,.a [.u8] ef (.v 0)],false,0⟩)
abbrev dA:X:=.i 16
abbrev Fh(a b:X):List ai:=[.a [.u64] a b]
abbrev apE(a b:X):Bl:=⟨253,Fh a b,false,0⟩
abbrev aLQ:Nat×Bl:=(2,apE dA (.v 9))
abbrev tE:X:=cy 0 Sc
def HQ:Lp:=⟨cI [oB,(7,0,18446744073709551615),fe,(2,0,128)],[(2,lF),(4,ji),(11,aLU),(12,Sq),(13,Jo)],3,[aby,(1,apE dA (.v 1)),aLQ],.exit 0,[(2,lF),(4,ji)],3,[aby,(1,apE dA (.f 1001 tE)),aLQ],bz ef 2⟩
abbrev Ff(a:X):X:=.o2 3 a aH
abbrev vK:X:=Ff (.v 2)
abbrev vL:X:=.i 15
abbrev pK(a:X):X:=fZ 1 a
abbrev Ni(a b:X):X:=.o1 0 (.o2 2 a b)
abbrev Fg(a b:X):X:=.o2 6 a (j7 b)
abbrev kQ:X:=nE 2
abbrev aLR:X:=bk (.f 1001 tE) dA
abbrev aL6:X:=zU 1 dA
theorem aZK:cr aa Tryz.f178.ntmps (aI 5 (loops (aC Tryz.f178))) HQ HQ.fa:=eX (t:=[]) (lt:=[]) (m:=8) (f:=178) (k:=5) trivial trivial (λ_=>rfl) rfl (.tf (lA 2 ef) (.ge vK (.ge (.o2 1 vL vK) (.same (bk (.f 1001 (rR 0 (bZ (.v 1) vK (Fg (Ni (pK vK) cV) (.v 2)) aj (eN 1 (Ng vK))) kQ)) dA) aLR .lf))) (.same aL6 aLR .lf)) ⟨(uV (λE hF=>by
 have b:=(hF.1.b 2 rfl).1
 have h:N (.v 2) < 128:=hF.2
 refine⟨?_,?_⟩
 .rw[@gQ _ E _ _ b]
  omega
 .rw[iY,@gQ _ E _ _ b]
  show 0<=(15:Int) - _
  omega) (⟨λE hF=>(aq (λq _=>by exact congrFun (congrArg (λz=>Hz.gH (Go.Z.lf z 1)) (Hz.afu (ts:=[.v 0,Hz.Yv,.o2 0 (.v 2) aj]) (l:=[D (.v 0),D (.v 1),D (.v 2)]) (a:=128 - N (.v 2)) (b:=128 - (N (.v 2)+1)) om (by have h:N (.v 2) < 128:=hF.2; omega))) q) _),trivial⟩)),⟨λE hF=>(aq (λq _=>by
 have h:128<=N (.v 2):=hF.2
 have e:=Hz.aft (ts:=[.v 0,Hz.Yv,.o2 0 (.v 2) aj]) (l:=[D (.v 0),D (.v 1),D (.v 2)]) (a:=128 - N (.v 2)) om
 show D (.v 1) q=Hz.gH (Go.Z.lf (Hz.it [.v 0,Hz.Yv,.o2 0 (.v 2) aj] (128 - N (.v 2)).toNat [D (.v 0),D (.v 1),D (.v 2)]) 1) q
 rw[e]
 exact (congrFun (Hz.sK (hF.1.vb 1 _ _ rfl)) q).symm) _),trivial⟩⟩ kr
theorem aZI (E:Env) (hF:ah HQ.fa.fx):0<=N HQ.μ:=by
 have h:=(hF.b 2 rfl).2
 show 0<=128 - N (.v 2)
 omega
theorem aZJ:ct aa Tryz.f178.ntmps (aI 5 (loops (aC Tryz.f178))) HQ:=aZK.all aZI
theorem aUl:cA aa ((178,5),aW HQ):=dZ Tryz.func178 kr aZJ
abbrev Fo:Nat×Int×Int:=(0,0,18446744073709551615)
abbrev pL:X:=.i 80
abbrev abF(a b:X):Bl:=⟨316,Fh a b,false,0⟩
abbrev apO:Nat×Bl:=(0,abF pL (.v 0))
abbrev aL7:Nat×Bl:=(1,abF pL (.v 9))
def HG:Lp:=⟨cI [Fo,(1,16,80)],[(2,ji),BT,(4,IT)],2,[apO,aL7],.exit 0,[(2,ji),BT],2,[(0,abF pL (.f 1002 jJ)),aL7],bz pL 1⟩
abbrev SZ:X:=j7 (bQ 1 (.i (-2)))
abbrev Nn:X:=.i 19
abbrev zX(a b c d:X):X:=.o2 6 (Ni a b) (.o2 10 c d)
abbrev vP(a b:X):X:=.o1 0 (.o2 0 a b)
abbrev S0:X:=j7 (bQ 1 (.i (-15)))
abbrev B9:X:=.i 72057594037927936
abbrev aL8:X:=bk (.f 1002 jJ) pL
theorem aYg:cr aa Tryz.f248.ntmps (aI 4 (loops (aC Tryz.f248))) HG HG.fa:=eX (t:=[]) (lt:=[]) (m:=8) (f:=248) (k:=4) trivial trivial (λ_=>rfl) rfl (.tf (lA 1 pL) (.same (bk (.f 1002 (di (tq 0 1 (vP (vP (vP (.o2 7 (.o2 7 (zX SZ (.i 35184372088832) SZ Nn) (zX SZ aH SZ (.i 61))) (.o2 10 SZ rQ)) (j7 (bQ 1 (.i (-7))))) (.o2 7 (.o2 7 (zX S0 (.i 9223372036854775808) S0 aj) (zX S0 B9 S0 aH)) (.o2 10 S0 jh))) (j7 (bQ 1 (.i (-16))))) (eN 0 (nE 1))) (nE 1))) pL) aL8 .lf) (.same (zU 0 pL) aL8 .lf)) ⟨⟨λE hF=>(aq (λq _=>by exact congrFun (congrArg (λz=>Hz.gH (Go.Z.lf z 0)) (Hz.afu (ts:=[Hz.XM,.o2 0 (.v 1) aj]) (l:=[D (.v 0),D (.v 1)]) (a:=80 - N (.v 1)) (b:=80 - (N (.v 1)+1)) om (by have h:N (.v 1) < 80:=hF.2; omega))) q) _),trivial⟩,⟨λE hF=>(aq (λq _=>by
 have h:80<=N (.v 1):=hF.2
 have e:=Hz.aft (ts:=[Hz.XM,.o2 0 (.v 1) aj]) (l:=[D (.v 0),D (.v 1)]) (a:=80 - N (.v 1)) om
 show D (.v 0) q=Hz.gH (Go.Z.lf (Hz.it [Hz.XM,.o2 0 (.v 1) aj] (80 - N (.v 1)).toNat [D (.v 0),D (.v 1)]) 0) q
 rw[e]
 exact (congrFun (Hz.sK (hF.1.vb 0 _ _ rfl)) q).symm) _),trivial⟩⟩ kr
theorem aYe (E:Env) (hF:ah HG.fa.fx):0<=N HG.μ:=by
 have h:=(hF.b 1 rfl).2
 show 0<=80 - N (.v 1)
 omega
theorem aYf:ct aa Tryz.f248.ntmps (aI 4 (loops (aC Tryz.f248))) HG:=aYg.all aYe
theorem aUb:cA aa ((248,4),aW HG):=dZ Tryz.func248 kr aYf
abbrev gi:Nat×Int×Int:=(2,0,18446744073709551615)
abbrev qG:V:=tt 3
abbrev aL9:Nat×Bl:=(1,abF pL (.v 1))
abbrev abG(a:ai):Bl:=⟨193,[a],false,0⟩
abbrev aMa:Nat×Bl:=(3,abG (kp (.v 8)))
abbrev aMb:Nat×Bl:=(4,abG (kp (.v 9)))
abbrev apP:X:=.f 1003 (cy 0 I6)
def HA:Lp:=⟨cI [Fo,fe,gi,(3,0,80)],[(2,qG),(4,tt 4),(5,bS),(6,ji),(7,lF),(16,EP)],5,[apO,aL9,(2,abG (kp (.v 2))),aMa,aMb],.exit 0,[(2,qG),(4,tt 4),(5,bS),(6,ji),(7,lF)],5,[apO,aL9,(2,abG (kp apP)),aMa,aMb],bz pL 3⟩
abbrev Fp:X:=fZ 2 bM
abbrev aMc:X:=vP (vP (vP (vP (fZ 2 jh) (.o2 7 (.o2 7 (zX Fp (.i 1125899906842624) Fp (.i 14)) (zX Fp (.i 70368744177664) Fp (.i 18))) (zX Fp (.i 8388608) Fp (.i 41)))) (.o2 7 (.o2 5 Fp (fZ 2 g7)) (.o2 5 (vq Fp (.i 18446744073709551615)) (fZ 2 rQ)))) (j7 (.v 3))) (pK (.v 3))
abbrev Fq:X:=fZ 2 ae
abbrev mq(a b c d e f g h i:X):X:=bZ a b c d (bZ e f g h i)
abbrev aMd:X:=bj (nE 3)
abbrev ck(a:X):X:=bk a aH
theorem aXM:cr aa Tryz.f179.ntmps (aI 4 (loops (aC Tryz.f179))) HA HA.fa:=eX (t:=[]) (lt:=[]) (m:=8) (f:=179) (k:=4) trivial trivial (λ_=>rfl) rfl (.tf (lA 3 pL) (.same (ck (.f 1003 (tD 0 1 (mq (vP aMc (vP (.o2 7 (.o2 7 (zX Fq (.i 68719476736) Fq (.i 28)) (zX Fq (.i 1073741824) Fq (.i 34))) (zX Fq (.i 33554432) Fq (.i 39))) (.o2 7 (.o2 7 (.o2 5 Fq (fZ 2 aj)) (.o2 5 Fq (fZ 2 bA))) (.o2 5 (fZ 2 aj) (fZ 2 bA))))) aj (eN 2 ae) cq (vP (fZ 2 cq) aMc) aj (eN 2 bM) cq ae) aMd))) (ck apP) .lf) (.same (ck (.v 2)) (ck apP) .lf)) ⟨⟨λE hF=>(aq (λq _=>by exact congrFun (congrArg (λz=>Hz.gH (Go.Z.lf z 2)) (Hz.afu (ts:=[.v 0,.v 1,Hz.Xx,.o2 0 (.v 3) aj]) (l:=[D (.v 0),D (.v 1),D (.v 2),D (.v 3)]) (a:=80 - N (.v 3)) (b:=80 - (N (.v 3)+1)) om (by have h:N (.v 3) < 80:=hF.2; omega))) q) _),trivial⟩,⟨λE hF=>(aq (λq _=>by
 have h:80<=N (.v 3):=hF.2
 have e:=Hz.aft (ts:=[.v 0,.v 1,Hz.Xx,.o2 0 (.v 3) aj]) (l:=[D (.v 0),D (.v 1),D (.v 2),D (.v 3)]) (a:=80 - N (.v 3)) om
 show D (.v 2) q=Hz.gH (Go.Z.lf (Hz.it [.v 0,.v 1,Hz.Xx,.o2 0 (.v 3) aj] (80 - N (.v 3)).toNat [D (.v 0),D (.v 1),D (.v 2),D (.v 3)]) 2) q
 rw[e]
 exact (congrFun (Hz.sK (hF.1.vb 2 _ _ rfl)) q).symm) _),trivial⟩⟩ kr
theorem aXK (E:Env) (hF:ah HA.fa.fx):0<=N HA.μ:=by
 have h:=(hF.b 3 rfl).2
 show 0<=80 - N (.v 3)
 omega
theorem aXL:ct aa Tryz.f179.ntmps (aI 4 (loops (aC Tryz.f179))) HA:=aXM.all aXK
theorem aT6:cA aa ((179,4),aW HA):=dZ Tryz.func179 kr aXL
abbrev xQ:X:=.c ae qz
def aj8:Sp:=pB (cI [oB,(7,0,18446744073709551615)]) [aLU] aby (mj (Fh dA (.f 1001 (cy 0 xQ)))) [aby]
theorem a65:ab aa 178 aj8:=aG (t:=[]) (lt:=[((178,5),aW HQ)]) (m:=8) trivial ⟨aUl,trivial⟩ .lf kr
theorem a1F:aY aa (178,av aj8):=cf a65
abbrev abB:Fa:=cI [Fo]
abbrev g9(a:Fa)(b:List V)(c:List ai):Sp:=⟨a,b,0,[],.agg c,0,[]⟩
def ajr:Sp:=g9 abB [.agg (Fh dA (.v 0))] (Fh pL (.f 1002 (di (zU 0 dA) dA)))
theorem a5P:ab aa 248 ajr:=aG (t:=[]) (lt:=[((248,4),aW HG)]) (m:=8) trivial ⟨aUb,trivial⟩ .lf kr
theorem a1n:aY aa (248,av ajr):=cf a5P
abbrev cz(a b c d e:X):X:=bZ a aj b aj (bZ c aj d aj e)
def VK:X:=cz (.i 4794697086780616226) (.i 8158064640168781261) (.i 13096744586834688815) (.i 16840607885511220156) (cz (.i 4131703408338449720) (.i 6480981068601479193) (.i 10538285296894168987) (.i 12329834152419229976) (cz (.i 15566598209576043074) (.i 1334009975649890238) (.i 2608012711638119052) (.i 6128411473006802146) (cz (.i 8268148722764581231) (.i 9286055187155687089) (.i 11230858885718282805) (.i 13951009754708518548) (cz (.i 16472876342353939154) (.i 17275323862435702243) (.i 1135362057144423861) (.i 2597628984639134821) (cz (.i 3308224258029322869) (.i 5365058923640841347) (.i 6679025012923562964) (.i 8573033837759648693) (cz (.i 10970295158949994411) (.i 12119686244451234320) (.i 12683024718118986047) (.i 13788192230050041572) (cz (.i 14330467153632333762) (.i 15395433587784984357) (.i 489312712824947311) (.i 1452737877330783856) (cz (.i 2861767655752347644) (.i 3322285676063803686) (.i 5560940570517711597) (.i 5996557281743188959) (cz (.i 7280758554555802590) (.i 8532644243296465576) (.i 9350256976987008742) (.i 10552545826968843579) (cz (.i 11727347734174303076) (.i 12113106623233404929) (.i 14000437183269869457) (.i 14369950271660146224) (cz (.i 15101387698204529176) (.i 15463397548674623760) (.i 17586052441742319658) (.i 1182934255886127544) (cz (.i 1847814050463011016) (.i 2177327727835720531) (.i 2830643537854262169) (.i 3796741975233480872) (cz (.i 4115178125766777443) (.i 5681478168544905931) (.i 6601373596472566643) (.i 7507060721942968483) (cz (.i 8399075790359081724) (.i 8693463985226723168) (.i 9568029438360202098) (.i 10144078919501101548) (cz (.i 10430055236837252648) (.i 11840083180663258601) (.i 13761210420658862357) (.i 14299343276471374635) (cz (.i 14566680578165727644) (.i 15097957966210449927) (.i 16922976911328602910) (.i 17689382322260857208) (cz (.i 500013540394364858) (.i 748580250866718886) (.i 1242879168328830382) (.i 1977374033974150939) (cz (.i 2944078676154940804) (.i 3659926193048069267) (.i 4368137639120453308) (.i 4836135668995329356) (cz (.i 5532061633213252278) (.i 6448918945643986474) (.i 6902733635092675308) (.i 7801388544844847127) ae)))))))))))))))))))
def UC:X:=cz (.i 7640891576956012808) (.i 13503953896175478587) (.i 4354685564936845355) (.i 11912009170470909681) (cz (.i 5840696475078001361) (.i 11170449401992604703) (.i 2270897969802886507) (.i 6620516959819538809) ae)
def xd:X:=(.o3 0 (.o1 0 (.o2 0 (.o2 14 (.f 1003 (.c (.f 1007 .n) (.c (.f 1002 (.c (.o3 0 (.v 1) (.i 16) (.i 0)) (.c (.i 16) .n))) (.c (.v 0) (.c (.i 0) .n))))) (.i 0)) (.o2 14 (.v 0) (.i 0)))) (.i 1) (.o3 0 (.o1 0 (.o2 0 (.o2 14 (.f 1003 (.c (.f 1007 .n) (.c (.f 1002 (.c (.o3 0 (.v 1) (.i 16) (.i 0)) (.c (.i 16) .n))) (.c (.v 0) (.c (.i 0) .n))))) (.i 1)) (.o2 14 (.v 0) (.i 1)))) (.i 1) (.o3 0 (.o1 0 (.o2 0 (.o2 14 (.f 1003 (.c (.f 1007 .n) (.c (.f 1002 (.c (.o3 0 (.v 1) (.i 16) (.i 0)) (.c (.i 16) .n))) (.c (.v 0) (.c (.i 0) .n))))) (.i 2)) (.o2 14 (.v 0) (.i 2)))) (.i 1) (.o3 0 (.o1 0 (.o2 0 (.o2 14 (.f 1003 (.c (.f 1007 .n) (.c (.f 1002 (.c (.o3 0 (.v 1) (.i 16) (.i 0)) (.c (.i 16) .n))) (.c (.v 0) (.c (.i 0) .n))))) (.i 3)) (.o2 14 (.v 0) (.i 3)))) (.i 1) (.o3 0 (.o1 0 (.o2 0 (.o2 14 (.f 1003 (.c (.f 1007 .n) (.c (.f 1002 (.c (.o3 0 (.v 1) (.i 16) (.i 0)) (.c (.i 16) .n))) (.c (.v 0) (.c (.i 0) .n))))) (.i 4)) (.o2 14 (.v 0) (.i 4)))) (.i 1) (.o3 0 (.o1 0 (.o2 0 (.o2 14 (.f 1003 (.c (.f 1007 .n) (.c (.f 1002 (.c (.o3 0 (.v 1) (.i 16) (.i 0)) (.c (.i 16) .n))) (.c (.v 0) (.c (.i 0) .n))))) (.i 5)) (.o2 14 (.v 0) (.i 5)))) (.i 1) (.o3 0 (.o1 0 (.o2 0 (.o2 14 (.f 1003 (.c (.f 1007 .n) (.c (.f 1002 (.c (.o3 0 (.v 1) (.i 16) (.i 0)) (.c (.i 16) .n))) (.c (.v 0) (.c (.i 0) .n))))) (.i 6)) (.o2 14 (.v 0) (.i 6)))) (.i 1) (.o3 0 (.o1 0 (.o2 0 (.o2 14 (.f 1003 (.c (.f 1007 .n) (.c (.f 1002 (.c (.o3 0 (.v 1) (.i 16) (.i 0)) (.c (.i 16) .n))) (.c (.v 0) (.c (.i 0) .n))))) (.i 7)) (.o2 14 (.v 0) (.i 7)))) (.i 1) (.i 0)))))))))
abbrev SW:X:=.f 1007 .n
theorem aTB {E:Env} {q:Nat} (h:q < 80):D VK q=D SW q:=by
 have h2:((List.range 80).all λq=>decide (D VK q=Hz.VJ q))=true:=kr
 exact of_decide_eq_true (dD.1 h2 q (ug.2 h))
abbrev apM:X:=.f 1008 .n
theorem aQb {E:Env} {q:Nat} (h:q < 8):D UC q=D apM q:=by
 have h2:((List.range 8).all λq=>decide (D UC q=Hz.Da q))=true:=kr
 exact of_decide_eq_true (dD.1 h2 q (ug.2 h))
theorem a9z (E:Env) (x:X):N (.o1 0 x)=N x % 18446744073709551616:=rfl
theorem aR0 (E:Env) (a b:X):D (.f 1002 (.c a (.c b .n)))=ak9 [D a,D b]:=rfl
theorem aR1 (E:Env) (a b c d:X):D (.f 1003 (.c a (.c b (.c c (.c d .n)))))=ala [D a,D b,D c,D d]:=rfl
theorem aR2 (E:Env):D SW=VJ:=rfl
theorem aR (E:Env) (a r:X) (q:Nat):D (.o3 0 a aj r) q=if q=0 then N a else D r (q - 1):=by
 rw[cE,bl]
 by_cases h:q=0
 .rw[if_pos om,if_pos h,h]; rfl
 .rw[if_neg om,if_neg h]; rfl
abbrev aL3:X:=.f 1003 (qB SW (.f 1002 (di aL6 dA)) (.v 0) qz)
theorem a8G (E:Env):D aL3=Hz.Xw (D (.v 0)) (D (.v 1)):=(aR1 E _ _ _ _).trans (by rw[aR2,aR0,yg,JT,JT]; rfl)
theorem a9B (s m:R) (q:Nat):Hz.Bf s m q=(Hz.Xw s m q+s q) % 18446744073709551616:=by
 show Lz.az _ _ ((Hz.Xw s m q+s q) % 18446744073709551616)=_
 exact Lz.a6 om om
attribute [local irreducible] Hz.Bf
theorem at5 (E:Env) (a b:X):D (.f 1004 (.c a (.c b .n)))=alb [D a,D b]:=rfl
abbrev apN:X:=.f 1004 jJ
theorem a9E {E:Env} {q:Nat} (h:q < 8):D xd q=D apN q:=by
 have e:∀(j:Nat) (x:Int),x.toNat=j->N (.o1 0 (.o2 0 (.o2 14 aL3 (.i x)) (.o2 14 (.v 0) (.i x))))=alb [D (.v 0),D (.v 1)] j:=λj x hx=>by
  rw[a9z,bB,Gh,Gh,a8G,bl,hx]
  exact (a9B _ _ j).symm
 rw[at5]
 have:q=0\/q=1\/q=2\/q=3\/q=4\/q=5\/q=6\/q=7:=by omega
 rcases this with rfl | rfl | rfl | rfl | rfl | rfl | rfl | rfl
 .unfold xd; rw[aR,if_pos dc]; exact e 0 0 rfl
 .unfold xd; rw[aR,if_neg dc,aR,if_pos dc]; exact e 1 1 rfl
 .unfold xd; rw[aR,if_neg dc,aR,if_neg dc,aR,if_pos dc]; exact e 2 2 rfl
 .unfold xd; rw[aR,if_neg dc,aR,if_neg dc,aR,if_neg dc,aR,if_pos dc]; exact e 3 3 rfl
 .unfold xd; rw[aR,if_neg dc,aR,if_neg dc,aR,if_neg dc,aR,if_neg dc,aR,if_pos dc]; exact e 4 4 rfl
 .unfold xd; rw[aR,if_neg dc,aR,if_neg dc,aR,if_neg dc,aR,if_neg dc,aR,if_neg dc,aR,if_pos dc]; exact e 5 5 rfl
 .unfold xd; rw[aR,if_neg dc,aR,if_neg dc,aR,if_neg dc,aR,if_neg dc,aR,if_neg dc,aR,if_neg dc,aR,if_pos dc]; exact e 6 6 rfl
 .unfold xd; rw[aR,if_neg dc,aR,if_neg dc,aR,if_neg dc,aR,if_neg dc,aR,if_neg dc,aR,if_neg dc,aR,if_neg dc,aR,if_pos dc]; exact e 7 7 rfl
def aAZ:Sp:=g9 oE [] (Fh pL VK)
def pKk:Sp:={aAZ with v:=.agg (Fh pL SW),l':=[]}
theorem a33:ab aa 247 aAZ:=aG (t:=[]) (lt:=[]) (m:=8) trivial trivial .lf kr
theorem a34:ab aa 247 pKk:=aL a33 [((bk VK pL),(bk SW pL))] _ _ (al (λE hF=>(aq (λq hq=>(aTB (E:=E) (by have h:(q:Int) < 80:=hq; omega))) _))<|aN) kr
theorem a02:aY aa (247,av pKk):=cf a34
def azM:Sp:=g9 oE [] [kp UC]
abbrev aL4:ai:=kp apM
def pBe:Sp:={azM with v:=.agg [aL4],l':=[]}
theorem a2c:ab aa 131 azM:=aG (t:=[]) (lt:=[]) (m:=8) trivial trivial .lf kr
abbrev aL5:X:=ck apM
theorem a2d:ab aa 131 pBe:=aL a2c [((ck UC),aL5)] _ _ (al (λE hF=>(aq (λq hq=>(aQb (E:=E) (by have h:(q:Int) < 8:=hq; omega))) _))<|aN) kr
theorem a0U:aY aa (131,av pBe):=cf a2d
abbrev SX:Fa:=cI [Fo,fe]
abbrev B7(a:X):V:=.agg [kp a]
abbrev abC:V:=B7 (.v 0)
def aCv:Sp:=g9 SX [abC,.agg (Fh dA (.v 1))] [kp xd]
def ajK:Sp:={aCv with v:=B7 apN,l':=[]}
theorem a6f:ab aa 179 aCv:=aG (t:=[(248,av ajr),(247,av pKk)]) (lt:=[((179,4),aW HA)]) (m:=8) ⟨a1n,a02,trivial⟩ ⟨aT6,trivial⟩ .lf kr
theorem a6g:ab aa 179 ajK:=aL a6f [((ck xd),(ck apN))] _ _ (al (λE hF=>(aq (λq hq=>a9E (by have h:(q:Int) < 8:=hq; omega)) _))<|aN) kr
theorem a1r:aY aa (179,av ajK):=cf a6g
end
end Go.Proofs.Y
namespace Go.Proofs.Y
open Go Go.Z
section
open Hz
def LY:X:=(.o3 0 (.v 11) (.o2 4 (.v 2) (.i 128)) (.o3 0 (.o2 14 (.v 3) (.o2 0 (.v 4) (.v 6))) (.i 1) (.o2 15 (.v 11) (.o2 0 (.o2 4 (.v 2) (.i 128)) (.i 1)))))
def s1X:X:=(.f 1004 (.c (.v 10) (.c (.f 1001 (.c LY (.c (.i 0) (.c (.i 0) .n)))) .n)))
attribute [local irreducible] Hz.Bf Hz.fh
theorem a8m {s w b:R} {n k:Int} (hk:0 < k):Hz.fh (Hz.Ly (b 0) ⟨s,n,w⟩).s (n+1) (Hz.Ly (b 0) ⟨s,n,w⟩).w (λq=>b (q+1)) (k - 1)=Hz.fh s n w b k:=by
 unfold Hz.fh
 rw[show k.toNat=(k - 1).toNat+1 by omega]
 exact Hz.DU (b:=λq=>b (q+1)) (c:=b) _ 0 1 _ λq _=>by show b (0+q+1)=b (1+q); congr 1; omega
theorem wZ {s w b:R} {n k:Int} (hk:k<=0):Hz.fh s n w b k=⟨s,n,w⟩:=by
 unfold Hz.fh
 rw[show k.toNat=0 by omega]; rfl
theorem fB (E:Env) (s n w b k:X):D (.f 1005 (.c s (.c n (.c w (.c b (.c k .n))))))=Hz.gH (Hz.fh (D s) (N n) (D w) (D b) (N k)).s:=rfl
theorem fC (E:Env) (s n w b k:X):D (.f 1006 (.c s (.c n (.c w (.c b (.c k .n))))))=Hz.dI (Hz.fh (D s) (N n) (D w) (D b) (N k)).w:=rfl
theorem aRZ (E:Env) (w m i:X):D (.f 1001 (.c w (.c m (.c i .n))))=ak8 [D w,D m,D i]:=rfl
section
variable {E:Env} (h2:0<=@N _ E (.v 2)) (h4:0<=@N _ E (.v 4)) (h6:0<=@N _ E (.v 6)) (hlt:@N _ E (.v 6) < @N _ E (.v 5))
include h2
abbrev Jp:X:=fZ 3 (kI 4 6)
theorem aFe:D LY=Lz.dh (D (.v 11)) (N (.v 2) % 128) (N Jp):=by
 have e:=@uj _ E (.v 2) 128 h2
 unfold LY
 rw[@su _ E _ _ _ (by rw[e]; omega),e]
 rfl
include h4 h6 hlt
abbrev SY:X:=eN 3 (bQ 4 IV)
abbrev Fk:X:=eN 3 (kI 4 6)
abbrev kq:X:=ir 5 6
theorem pn (t:X) (ht:D t=(Hz.Ly (N Jp) ⟨D (.v 10),N (.v 2),D (.v 11)⟩).s):Hz.fh (D t) (N kQ) (D LY) (D SY) (N (cJ 5 IV))=Hz.fh (D (.v 10)) (N (.v 2)) (D (.v 11)) (D Fk) (N kq):=by
 have hb:D Fk 0=N Jp:=by rw[oZ,Gh,Nat.zero_add]
 have hs:(λq=>D Fk (q+1))=D SY:=by
  funext q
  rw[oZ,oZ]
  congr 1
  show q+1+(N (.v 4)+N (.v 6)).toNat=q+(N (.v 4)+(N (.v 6)+1)).toNat
  omega
 rw[ht,aFe h2,<- hs,<- hb]
 have:=a8m (s:=D (.v 10)) (w:=D (.v 11)) (b:=D Fk) (n:=N (.v 2)) (k:=N kq) (by show 0 < N (.v 5) - N (.v 6); omega)
 rw[<- this]
 congr 1
 show N (.v 5) - (N (.v 6)+1)=N (.v 5) - N (.v 6) - 1
 omega
omit h4 h6 hlt
abbrev Jq(a:X):X:=.o2 4 a ef
abbrev abD:X:=Jq kQ
theorem DW (hc:N abD=0):D s1X=(Hz.Ly (N Jp) ⟨D (.v 10),N (.v 2),D (.v 11)⟩).s:=by
 rw[@uj _ E _ 128 (by show 0<=N (.v 2)+1; omega)] at hc
 unfold s1X
 rw[at5,aRZ,aFe h2,JT]
 exact (if_pos hc).symm
theorem DV (hc:¬N abD=0):D (.v 10)=(Hz.Ly (N Jp) ⟨D (.v 10),N (.v 2),D (.v 11)⟩).s:=by
 rw[@uj _ E _ 128 (by show 0<=N (.v 2)+1; omega)] at hc
 exact (if_neg hc).symm
end
abbrev abE:X:=eN 3 Ji
abbrev qF:X:=eN 3 (.v 4)
theorem pe (E:Env):D abE=D qF:=by
 funext q
 rw[oZ,oZ,bB,bl,Int.add_zero]
abbrev B8:X:=cJ 5 ae
theorem D8 (E:Env):N B8=N (.v 5):=Int.sub_zero _
abbrev Fl:Nat×Int×Int:=(10,0,18446744073709551615)
abbrev Fm:Nat×Int×Int:=(11,0,255)
abbrev tG:Nat×Int×Int:=(2,0,1152921504606846976)
abbrev lL:Nat×Int×Int:=(3,0,255)
abbrev r6:Nat×Int×Int:=(4,0,1048576)
abbrev vN:Nat×Int×Int:=(5,0,1048576)
abbrev tF:Nat×Int×Int:=(7,0,1048576)
abbrev Fi:Nat×Int×Int:=(6,0,1048576)
abbrev Nl:X:=bz (ir 7 4) 5
abbrev apK:X:=.i 1152921504606846976
abbrev apL:X:=.o2 1 apK (bQ 2 kq)
abbrev abA:V:=tA 1 (.v 4) (.v 5) .a
abbrev vO:V:=lB 5
abbrev Fj:V:=lB 6
abbrev apV:ai:=fQ 2
abbrev aMn:List ai:=[de,kp (.v 10),apV,.a [.u8] ef (.v 11)]
abbrev r7:Nat×Bl:=(0,⟨196,aMn,false,0⟩)
abbrev qH(a b:X):List ai:=[.a [.u8] a b]
abbrev S4:List ai:=qH (.v 7) (.v 3)
abbrev vQ(a:Nat)(b:List ai):Nat×Bl:=(a,⟨5,b,true,0⟩)
abbrev Ft:Nat×Bl:=vQ 1 S4
abbrev abU:X:=cN 10 2 (rR 11 Fk kq)
abbrev Np(a:X)(b:ai)(c:X):Bl:=⟨196,[de,kp (.f 1005 a),b,.a [.u8] ef (.f 1006 c)],false,0⟩
abbrev abV:Nat×Bl:=(0,Np abU (aF (bQ 2 kq)) abU)
def Hv:Lp:=⟨fj [Fl,Fm,tG,lL,r6,vN,tF,Fi] [Nl,kq,apL],[tm,(8,abA),(9,vO),(10,Fj)],2,[r7,Ft],.exit 0,[],2,[abV,Ft],kq⟩
def PI:OT:=[(178,av aj8),(179,av ajK)]
theorem Us:dB (aY aa) PI:=⟨a1F,a1r,trivial⟩
abbrev Fu:X:=xE 6 5
abbrev abW:X:=xC abD
abbrev apW:X:=di SY (cJ 5 IV)
abbrev aMo:X:=qB s1X kQ LY apW
abbrev Cb(a:X):X:=ck (.f 1005 a)
abbrev abX:X:=Cb aMo
abbrev vR:X:=Cb abU
abbrev Cc(a:X):X:=bk (.f 1006 a) ef
abbrev abY:X:=Cc aMo
abbrev vS:X:=Cc abU
abbrev aMp:X:=bL 10 kQ (.c LY apW)
abbrev abZ:X:=Cb aMp
abbrev ab0:X:=Cc aMp
abbrev S5:X:=ck (.v 10)
abbrev S6:X:=zU 11 ef
theorem aXJ:cr aa Tryz.f109.ntmps (aI 1 (loops (aC Tryz.f109))) Hv Hv.fa:=eX (t:=PI) (lt:=[]) (m:=8) (f:=109) (k:=1) Us trivial (λ_=>rfl) rfl (.tf Fu (.tf abW (.same abX vR (.same abY vS .lf)) (.same abZ vR (.same ab0 vS .lf))) (.same S5 vR (.same S6 vS .lf))) ⟨⟨⟨λE hF=>(aq (λq _=>by rw[fB,fB,pn (hF.1.1.b 2 rfl).1 (hF.1.1.b 4 rfl).1 (hF.1.1.b 6 rfl).1 hF.1.2 _ (DW (hF.1.1.b 2 rfl).1 hF.2)]) _),⟨λE hF=>(aq (λq _=>by rw[fC,fC,pn (hF.1.1.b 2 rfl).1 (hF.1.1.b 4 rfl).1 (hF.1.1.b 6 rfl).1 hF.1.2 _ (DW (hF.1.1.b 2 rfl).1 hF.2)]) _),trivial⟩⟩,⟨λE hF=>(aq (λq _=>by rw[fB,fB,pn (hF.1.1.b 2 rfl).1 (hF.1.1.b 4 rfl).1 (hF.1.1.b 6 rfl).1 hF.1.2 _ (DV (hF.1.1.b 2 rfl).1 hF.2)]) _),⟨λE hF=>(aq (λq _=>by rw[fC,fC,pn (hF.1.1.b 2 rfl).1 (hF.1.1.b 4 rfl).1 (hF.1.1.b 6 rfl).1 hF.1.2 _ (DV (hF.1.1.b 2 rfl).1 hF.2)]) _),trivial⟩⟩⟩,⟨λE hF=>(aq (λq _=>by rw[fB,wZ (by have h:N (.v 5)<=N (.v 6):=hF.2; show N (.v 5) - N (.v 6)<=0; omega)]; exact (congrFun (Hz.sK (hF.1.vb 10 _ _ rfl)) q).symm) _),⟨λE hF=>(aq (λq _=>by rw[fC,wZ (by have h:N (.v 5)<=N (.v 6):=hF.2; show N (.v 5) - N (.v 6)<=0; omega)]; exact (congrFun (Hz.lR (hF.1.vb 11 _ _ rfl)) q).symm) _),trivial⟩⟩⟩ kr
theorem aXH (E:Env) (hF:ah Hv.fa.fx):0<=N Hv.μ:=by
 have h:=hF.g (x:=.o2 1 (.v 5) (.v 6)) (mt mh)
 exact h
theorem aXI:ct aa Tryz.f109.ntmps (aI 1 (loops (aC Tryz.f109))) Hv:=aXJ.all aXH
theorem aT2:cA aa ((109,1),aW Hv):=dZ Tryz.func109 kr aXI
abbrev S7:X:=kI 2 5
abbrev No:X:=.o2 1 apK S7
abbrev abJ:X:=cN 10 2 (rR 11 abE B8)
abbrev abK:Nat×Bl:=(0,Np abJ (aF (bQ 2 B8)) abJ)
def aB2:Sp:=⟨fj [Fl,Fm,tG,lL,r6,vN,tF] [Nl,No],[bS,abA],2,[r7,Ft],iD,2,[abK,Ft]⟩
abbrev Jr:X:=qv 5
abbrev abL:X:=rZ 10 2 11 qF Jr
abbrev apR:ai:=aF S7
abbrev abM:Nat×Bl:=(0,Np abL apR abL)
def Lm:Sp:={aB2 with v:=iD,l':=[abM,Ft]}
theorem a5y:ab aa 109 aB2:=aG (t:=[]) (lt:=[((109,1),aW Hv)]) (m:=8) trivial ⟨aT2,trivial⟩ .lf kr
abbrev abN:X:=Cb abJ
abbrev abO:X:=Cb abL
abbrev abP:X:=Cc abJ
abbrev abQ:X:=Cc abL
theorem a5J:ab aa 109 Lm:=aL a5y [(abN,abO),(abP,abQ)] _ _ (al (λE hF=>(aq (λq _=>by rw[fB,fB,pe,D8]) _))<|al (λE hF=>(aq (λq _=>by rw[fC,fC,pe,D8]) _))<|aN) kr
theorem WA:aY aa (109,av Lm):=cf a5J
end
end Go.Proofs.Y
namespace Go.Proofs.Y
open Go Go.Z
section
open Hz
def wz:X:=(.o3 0 (.o2 10 (.v 1) (.i 56)) (.i 1) (.o3 0 (.o1 3 (.o2 10 (.v 1) (.i 48))) (.i 1) (.o3 0 (.o1 3 (.o2 10 (.v 1) (.i 40))) (.i 1) (.o3 0 (.o1 3 (.o2 10 (.v 1) (.i 32))) (.i 1) (.o3 0 (.o1 3 (.o2 10 (.v 1) (.i 24))) (.i 1) (.o3 0 (.o1 3 (.o2 10 (.v 1) (.i 16))) (.i 1) (.o3 0 (.o1 3 (.o2 10 (.v 1) (.i 8))) (.i 1) (.o3 0 (.o1 3 (.o2 10 (.v 1) (.i 0))) (.i 1) (.i 0)))))))))
def Wv:X:=(.o3 0 (.f 1014 (.c (.o2 14 (.v 10) (.i 0)) .n)) (.i 8) (.o3 0 (.f 1014 (.c (.o2 14 (.v 10) (.i 1)) .n)) (.i 8) (.o3 0 (.f 1014 (.c (.o2 14 (.v 10) (.i 2)) .n)) (.i 8) (.o3 0 (.f 1014 (.c (.o2 14 (.v 10) (.i 3)) .n)) (.i 8) (.o3 0 (.f 1014 (.c (.o2 14 (.v 10) (.i 4)) .n)) (.i 8) (.o3 0 (.f 1014 (.c (.o2 14 (.v 10) (.i 5)) .n)) (.i 8) (.o3 0 (.f 1014 (.c (.o2 14 (.v 10) (.i 6)) .n)) (.i 8) (.f 1014 (.c (.o2 14 (.v 10) (.i 7)) .n)))))))))
theorem aeX (E:Env) (x:X):D (.f 1014 (.c x .n))=e8 (N x):=rfl
theorem aR3 (E:Env) (x:X):D (.f 1013 (.c x .n))=bV (D x):=rfl
theorem qY (E:Env) (x:X) (k:Nat) (h:0<=N x):N (.o1 3 (.o2 10 x (.i (k:Int))))=N x / 2 ^ k % 256:=by
 rw[yq,@uk _ E x k h]
 rw[Int.natCast_pow]; rfl
abbrev apS:X:=.f 1014 vo
abbrev Fs:X:=.i 56
theorem aRA {E:Env} {q:Nat} (h:q < 8) (h0:0<=N (.v 1)) (h1:N (.v 1)<=18446744073709551615):D wz q=D apS q:=by
 rw[aeX]
 have:q=0\/q=1\/q=2\/q=3\/q=4\/q=5\/q=6\/q=7:=by omega
 rcases this with rfl | rfl | rfl | rfl | rfl | rfl | rfl | rfl
 .have e0:N (nI 1 Fs)=N (.v 1) / ((2 ^ 56:Nat):Int):=@uk _ E (.v 1) 56 h0
  unfold wz; rw[aR,if_pos dc,e0]
  show N (.v 1) / ((2 ^ 56:Nat):Int)=N (.v 1) / 2 ^ 56 % 256
  have e1:((2 ^ 56:Nat):Int)=72057594037927936:=by decide
  have e2:(2:Int) ^ 56=72057594037927936:=by decide
  rw[e1,e2]
  omega
 .unfold wz; rw[aR,if_neg dc,aR,if_pos dc]; exact qY E _ 48 h0
 .unfold wz; rw[aR,if_neg dc,aR,if_neg dc,aR,if_pos dc]; exact qY E _ 40 h0
 .unfold wz; rw[aR,if_neg dc,aR,if_neg dc,aR,if_neg dc,aR,if_pos dc]; exact qY E _ 32 h0
 .unfold wz; rw[aR,if_neg dc,aR,if_neg dc,aR,if_neg dc,aR,if_neg dc,aR,if_pos dc]; exact qY E _ 24 h0
 .unfold wz; rw[aR,if_neg dc,aR,if_neg dc,aR,if_neg dc,aR,if_neg dc,aR,if_neg dc,aR,if_pos dc]; exact qY E _ 16 h0
 .unfold wz; rw[aR,if_neg dc,aR,if_neg dc,aR,if_neg dc,aR,if_neg dc,aR,if_neg dc,aR,if_neg dc,aR,if_pos dc]; exact qY E _ 8 h0
 .unfold wz; rw[aR,if_neg dc,aR,if_neg dc,aR,if_neg dc,aR,if_neg dc,aR,if_neg dc,aR,if_neg dc,aR,if_neg dc,aR,if_pos dc]; exact qY E _ 0 h0
theorem GG (E:Env) (a r:X) (q:Nat):D (.o3 0 a aH r) q=if q < 8 then D a q else D r (q - 8):=by
 rw[cE,bl]
 by_cases h:q < 8
 .rw[if_pos om,if_pos h]
 .rw[if_neg om,if_neg h]; rfl
theorem DG (E:Env) (j:Nat) (x:Int) (hx:x.toNat=j) {q:Nat} (h1:8*j<=q) (h2:q < 8*j+8) {p:Nat} (hp:p=q - 8*j):D (.f 1014 (.c (.o2 14 (.v 10) (.i x)) .n)) p=bV (D (.v 10)) q:=by
 rw[aeX,Gh,bl,hx,hp]
 unfold e8 bV
 rw[show q / 8=j by omega,show q % 8=q - 8*j by omega]
abbrev apT:X:=.f 1013 MF
theorem a0C {E:Env} {q:Nat} (h:q < 64):D Wv q=D apT q:=by
 rw[aR3]
 unfold Wv
 rw[GG]
 by_cases h0:q < 8
 .rw[if_pos h0]; exact DG E 0 0 rfl om om om
 rw[if_neg h0]
 rw[GG]
 by_cases h1:q - 8 < 8
 .rw[if_pos h1]; exact DG E 1 1 rfl om om om
 rw[if_neg h1]
 rw[GG]
 by_cases h2:q - 8 - 8 < 8
 .rw[if_pos h2]; exact DG E 2 2 rfl om om om
 rw[if_neg h2]
 rw[GG]
 by_cases h3:q - 8 - 8 - 8 < 8
 .rw[if_pos h3]; exact DG E 3 3 rfl om om om
 rw[if_neg h3]
 rw[GG]
 by_cases h4:q - 8 - 8 - 8 - 8 < 8
 .rw[if_pos h4]; exact DG E 4 4 rfl om om om
 rw[if_neg h4]
 rw[GG]
 by_cases h5:q - 8 - 8 - 8 - 8 - 8 < 8
 .rw[if_pos h5]; exact DG E 5 5 rfl om om om
 rw[if_neg h5]
 rw[GG]
 by_cases h6:q - 8 - 8 - 8 - 8 - 8 - 8 < 8
 .rw[if_pos h6]; exact DG E 6 6 rfl om om om
 rw[if_neg h6]
 exact DG E 7 7 rfl om om om
abbrev S3:V:=lH 0 aH
def aAa:Sp:=⟨cI [fe],[xA],0,[],S3,1,[cj 0 aH wz]⟩
def PQ:Sp:={aAa with v:=S3,l':=[cj 0 aH apS]}
theorem a22:ab aa 110 aAa:=aG (t:=[]) (lt:=[]) (m:=8) trivial trivial .lf kr
theorem a23:ab aa 110 PQ:=aL a22 [((ck wz),(ck apS))] _ _ (al (λE hF=>(aq (λq hq=>aRA (by have h:(q:Int) < 8:=hq; omega) (hF.b 1 rfl).1 (hF.b 1 rfl).2) _))<|aN) kr
theorem ahd:aY aa (110,av PQ):=cf a23
abbrev aMi:Fa:=cI [Fl,Fm,tG]
abbrev aMj:V:=lH 1 aU
abbrev kT(a:Fa)(b:List V)(c:List (Nat×Bl))(d:V)(e f:Nat×Bl):Sp:=⟨a,b,1,c,d,2,[e,f]⟩
def aBE:Sp:=kT aMi [bS] [r7] aMj r7 (cj 1 aU Wv)
def W3:Sp:={aBE with v:=aMj,l':=[r7,cj 1 aU apT]}
theorem a4X:ab aa 111 aBE:=aG (t:=[(110,av PQ)]) (lt:=[]) (m:=8) ⟨ahd,trivial⟩ trivial .lf kr
theorem a4Y:ab aa 111 W3:=aL a4X [((kP Wv),(kP apT))] _ _ (al (λE hF=>(aq (λq hq=>a0C (E:=E) (q:=q) (by have h:(q:Int) < 64:=hq; omega)) _))<|aN) kr
theorem azs:aY aa (111,av W3):=cf a4Y
attribute [local irreducible] Hz.Bf Hz.fh
abbrev mH (x:X):X:=.o2 4 (.o2 1 (.i 240) (.o2 4 x (.i 128))) (.i 128)
theorem VL (E:Env) (x:X) (h:0<=N x):N (mH x)=(240 - N x % 128) % 128:=by
 have e:N (.o2 4 x ef)=N x % 128:=@uj _ E x 128 h
 unfold mH
 rw[@uj _ E _ 128 (by rw[iY,e,bl]; omega),iY,e,bl]
abbrev Js:X:=Jq (.v 2)
theorem afA {E:Env} (h2:0<=N (.v 2)) (hc:N Js=112):N (mH (.v 2))=0:=by
 rw[@uj _ E _ 128 h2] at hc
 rw[VL E _ h2]
 omega
section
variable {E:Env} (hs:∀q,0<=@D _ E (.v 10) q/\@D _ E (.v 10) q<=18446744073709551615) (hw:∀q,0<=@D _ E (.v 11) q/\@D _ E (.v 11) q<=255) (h2:0<=@N _ E (.v 2)) (hc:¬@N _ E (.o2 4 (.v 2) (.i 128))=112)
abbrev zrX:X:=.o2 15 (.o3 0 (.i 0) (.i 1) (.i 0)) (.i 0)
include h2 hc
theorem VM:N (mH (.v 2))=N (mH kQ)+1/\0<=N (mH kQ):=by
 have h3:0<=N kQ:=by rw[bB,bl]; omega
 rw[VL E _ h2,VL E _ h3,bB,bl]
 rw[@uj _ E _ 128 h2] at hc
 omega
include hs hw
abbrev aMk:X:=rZ 10 2 11 zrX xH
theorem aDc:Hz.fh (D (.f 1005 aMk)) (N kQ) (D (.f 1006 aMk)) (D ae) (N (mH kQ))=Hz.fh (D (.v 10)) (N (.v 2)) (D (.v 11)) (D ae) (N (mH (.v 2))):=by
 have hz:∀q,D zrX q=0:=λq=>by rw[oZ,cE]; exact ite_self _
 have b:=aDC (s:=D (.v 10)) (w:=D (.v 11)) (b:=D zrX) (n:=N (.v 2)) (k:=1) (λq=>by rw[hz]; decide) hs hw
 obtain⟨l1,l2⟩:=VM h2 hc
 rw[fB,fC,bl,b.1,b.2,bB,bl,a8k dc l2,l1,Int.add_comm 1]
 refine a8l λq _=>?_
 rw[JT]
 show (if (q:Int) < 1 then D zrX q else 0)=0
 rw[hz]; exact ite_self _
end
abbrev apU:X:=.i 1152921504606846848
abbrev abR:X:=Jq (rO 240 Js)
abbrev abS:X:=bQ 2 abR
abbrev aMl:gk:=[(2,ji),BT,(4,IS 12)]
abbrev aMm:Nat×Bl:=(1,⟨46,qH aU (.v 9),false,0⟩)
abbrev abT:X:=cN 10 2 (rR 11 ae abR)
def Ht:Lp:=⟨jv [Fl,Fm,tG] (.o2 1 apU abS),aMl,2,[r7,aMm],.exit 0,aMl,2,[(0,Np abT (aF abS) abT),aMm],abR⟩
abbrev xR:X:=.i 112
abbrev aMe:X:=Cb abT
abbrev aMf:X:=Cc abT
abbrev abH:X:=Jq (rO 240 abD)
abbrev abI:X:=.o2 0 kQ abH
abbrev aMg:X:=rZ 10 2 11 (Nj BN) xH
abbrev aMh:X:=iF (.f 1005 aMg) kQ (.f 1006 aMg) ae (bj abH)
theorem aXu:cr aa Tryz.f52.ntmps (aI 4 (loops (aC Tryz.f52))) Ht Ht.fa:=eX (t:=[(109,av Lm)]) (lt:=[]) (m:=8) (f:=52) (k:=4) ⟨WA,trivial⟩ trivial (λ_=>rfl) rfl (.tf (.o2 12 Js xR) (.same S5 aMe (.same M0 (ao abS) (.same S6 aMf .lf))) (.ge (.o2 1 apU abI) (.ge (Su abR abH) (.same (Cb aMh) aMe (.same (ao abI) (ao abS) (.same (Cc aMh) aMf .lf)))))) ⟨⟨λE hF=>(aq (λq _=>by rw[fB,wZ (k:=N (mH (.v 2))) (Int.le_of_eq (afA (hF.1.b 2 rfl).1 hF.2))]; exact (congrFun (Hz.sK (hF.1.vb 10 _ _ rfl)) q).symm) _),⟨λE hF=>aD (by have h:=afA (hF.1.b 2 rfl).1 hF.2; show N (.v 2)=N (.v 2)+N (mH (.v 2)); omega),⟨λE hF=>(aq (λq _=>by rw[fC,wZ (k:=N (mH (.v 2))) (Int.le_of_eq (afA (hF.1.b 2 rfl).1 hF.2))]; exact (congrFun (Hz.lR (hF.1.vb 11 _ _ rfl)) q).symm) _),trivial⟩⟩⟩,⟨λE hF=>(by
 have g:=hF.1.g (x:=.o2 1 apU (bQ 2 (mH (.v 2)))) mh
 have e:(0:Int)<=1152921504606846848 - (N (.v 2)+N (mH (.v 2))):=g
 have l:=(VM (hF.1.b 2 rfl).1 hF.2)
 show 0<=1152921504606846848 - ((N (.v 2)+1)+N (mH kQ))
 omega),⟨λE hF=>(by
 have l:=(VM (hF.1.b 2 rfl).1 hF.2)
 show 0<=(N (mH (.v 2)) - N (mH kQ)) - 1
 omega),⟨λE hF=>(aq (λq _=>by rw[fB,aDc (hF.1.vb 10 _ _ rfl) (hF.1.vb 11 _ _ rfl) (hF.1.b 2 rfl).1 hF.2,<- fB]) _),⟨λE hF=>aD (by have l:=(VM (hF.1.b 2 rfl).1 hF.2); show (N (.v 2)+1)+N (mH kQ)=N (.v 2)+N (mH (.v 2)); omega),⟨λE hF=>(aq (λq _=>by rw[fC,aDc (hF.1.vb 10 _ _ rfl) (hF.1.vb 11 _ _ rfl) (hF.1.b 2 rfl).1 hF.2,<- fC]) _),trivial⟩⟩⟩⟩⟩⟩ kr
theorem aXs (E:Env) (hF:ah Ht.fa.fx):0<=N Ht.μ:=by
 show 0<=N (mH (.v 2))
 rw[VL E _ (hF.b 2 rfl).1]; omega
theorem aXt:ct aa Tryz.f52.ntmps (aI 4 (loops (aC Tryz.f52))) Ht:=aXu.all aXs
theorem aT0:cA aa ((52,4),aW Ht):=dZ Tryz.func52 kr aXt
end
end Go.Proofs.Y
namespace Go.Proofs.Y
open Go Go.Z
section
open Hz
def A8:Sp:=pB aMi [bS] r7 (.agg aMn) [r7]
theorem a47:ab aa 108 A8:=aG (t:=[]) (lt:=[]) (m:=8) trivial trivial .lf kr
theorem H2:aY aa (108,av A8):=cf a47
theorem yI (E:Env) (r n:X):D (.f 1009 (.c r (.c n .n)))=Hz.gH (Hz.fM (D r) (N n)).s:=rfl
theorem yJ (E:Env) (r n:X):D (.f 1010 (.c r (.c n .n)))=Hz.dI (Hz.fM (D r) (N n)).w:=rfl
theorem auS {r:R} (n:Int) (hr:∀q,0<=r q/\r q<=255):Hz.gH (Hz.fM r n).s=(Hz.fM r n).s/\Hz.dI (Hz.fM r n).w=(Hz.fM r n).w:=
 Hz.aDC hr (λq=>Hz.qT _ _) (λ_=>by decide)
section
variable {E:Env} (hr:∀q,0<=@D _ E (.v 1) q/\@D _ E (.v 1) q<=255) (h2:0<=@N _ E (.v 2)) (h5:0<=@N _ E (.v 5))
include hr h2 h5
abbrev S1:X:=.f 1009 Sc
abbrev S2:X:=.f 1010 Sc
abbrev apQ:X:=.o3 0 (.v 1) (.v 2) qF
theorem Ef:Hz.fh (D S1) (N (.v 2)) (D S2) (D qF) (N (.v 5))=Hz.fM (D apQ) (N S7):=by
 have b:=auS (N (.v 2)) hr
 rw[yI,yJ,b.1,b.2,Hz.auR h2 h5,bB]
 congr 1
end
theorem aQc (q:Nat):Hz.Da q=Hz.gH Hz.Da q:=(congrFun (Hz.sK (show ∀q,0<=Hz.Da q/\Hz.Da q<=18446744073709551615 from λq=>Hz.qT _ q)) q).symm
theorem aFo (q:Nat):(0:Int)=Hz.dI (λ_=>0) q:=(congrFun (Hz.lR (r:=λ_=>0) (λ_=>⟨aP 0,show (0:Int)<=255 by decide⟩)) q).symm
theorem auQ (r:R):Hz.fM r 0=⟨Da,0,λ_=>0⟩:=wZ (aP 0)
abbrev Cd:Nat×Int×Int:=(1,0,255)
abbrev ap3:VB:=[Cd,tG,lL,r6,vN,tF]
abbrev Ce:Nat×Bl:=(0,⟨196,[de,kp S1,apV,.a [.u8] ef S2],false,0⟩)
abbrev ab3:X:=pD S1 2 S2 qF Jr
abbrev ab4:Nat×Bl:=(0,Np ab3 apR ab3)
def aCY:Sp:=⟨fj ap3 [Nl,No],[bS,abA],2,[Ce,Ft],iD,2,[ab4,Ft]⟩
abbrev aMA:X:=.f 1009 (di apQ S7)
abbrev aMB:X:=.f 1010 (di apQ S7)
abbrev ab5:Nat×Bl:=(0,⟨196,[de,kp aMA,apR,.a [.u8] ef aMB],false,0⟩)
def wX:Sp:={aCY with v:=iD,l':=[ab5,Ft]}
theorem a66:ab aa 64 aCY:=aG (t:=[(108,av A8),(109,av Lm)]) (lt:=[]) (m:=8) ⟨H2,WA,trivial⟩ trivial .lf kr
abbrev ab6:X:=Cb ab3
abbrev ab7:X:=ck aMA
abbrev ab8:X:=Cc ab3
abbrev ab9:X:=bk aMB ef
theorem y6:ab aa 64 wX:=aL a66 [(ab6,ab7),(ab8,ab9)] _ _ (al (λE hF=>(aq (λq _=>by rw[fB,Ef (hF.vb 1 _ _ rfl) (hF.b 2 rfl).1 (hF.b 5 rfl).1,<- yI]) _))<|al (λE hF=>(aq (λq _=>by rw[fC,Ef (hF.vb 1 _ _ rfl) (hF.b 2 rfl).1 (hF.b 5 rfl).1,<- yJ]) _))<|aN) kr
def aBs:Sp:=⟨oE,[],0,[],bS,1,[(0,⟨196,[de,aL4,ag,.a [.u8] ef ae],false,0⟩)]⟩
abbrev FB(a:X)(b:ai)(c:X):Bl:=⟨196,[de,kp (.f 1009 a),b,.a [.u8] ef (.f 1010 c)],false,0⟩
def uW:Sp:={aBs with v:=bS,l':=[(0,FB xQ ag xQ)]}
theorem a4L:ab aa 63 aBs:=aG (t:=[(131,av pBe)]) (lt:=[]) (m:=8) ⟨a0U,trivial⟩ trivial .lf kr
theorem wV:ab aa 63 uW:=aL a4L [(aL5,(ck (.f 1009 xQ))),((bk ae ef),(bk (.f 1010 xQ) ef))] _ _ (al (λE hF=>(aq (λq _=>by rw[yI,bl,auQ]; exact aQc q) _))<|al (λE hF=>(aq (λq _=>by rw[yJ,bl,auQ]; exact aFo q) _))<|aN) kr
abbrev jM:X:=.i 200
abbrev ap4:X:=.f 1014 oH
def PX:Sp:=kT (cI ap3) [bS] [Ce] (oI 1 jM (.k jM)) Ce (EL 1 (qH jM (bZ (.f 1013 (bj S1)) aU ap4 aH (bk S2 Js))))
theorem W2:ab aa 242 PX:=aG (t:=[(108,av A8),(110,av PQ),(111,av W3)]) (lt:=[]) (m:=8) ⟨H2,ahd,azs,trivial⟩ trivial .lf kr
end
end Go.Proofs.Y
