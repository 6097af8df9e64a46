/- A part of the proof of ScriptParses: nothing is assumed. By an AI agent. -/
import Ieee.Arith
import GoSem.Core.Float
import Derived.Laws.FloatBits
import Derived.Laws.Cover2
import Derived.Laws.FloatArith
import Derived.Laws.Tables
import Derived.Laws.Rows
import Derived.Test.YtkkecpamnnojoaaGreatDoorCards
import Derived.Test.YtkkecpamnnojoaaGreatDoorTie
import Derived.Lib.LaidTab
import Derived.Lay
import Derived.MakeChecks
import Derived.Deep.DeepHandedRow
import Derived.Lib.ItoaNum
import Derived.Lib.ParseIntBTie
import Derived.Lib.IndexMore
import Derived.Lib.CutLaws
import Derived.Test.YtkkecpamnnojoaaGreatDoorBz02
set_option linter.unusedVariables false
set_option linter.unusedSimpArgs false
set_option maxRecDepth 100000
set_option maxHeartbeats 32000000
namespace Go.Proofs.YtkkecpamnnojoaaGreatDoor.Flt
open Ieee
def mag(r:Nat):Nat:=if r<2^52 then r else(2^52+r%2^52)*2^(r/2^52-1)
theorem ql{k:Nat}(h:k<2^52):mag k=k:=by simp[mag,h]
theorem xU(L k:Nat)(h1:2^52<=k)(h2:k<=2^53):mag (L*2^52+k)=k*2^L:=by
 unfold mag;rw[if_neg (by omega)];by_cases h:k=2^53
 ·have a:(L*2^52+k)%2^52=0:=(by omega);have b:(L*2^52+k)/2^52-1=L+1:=(by omega);have e:2^(L+1)=2^L*2:=Nat.pow_succ ..;have h3:2^52+0=2^52:=rfl;rw[a,b,e,h3,h];generalize 2^L=z;omega
 ·have a:(L*2^52+k)%2^52=k-2^52:=(by omega);have b:(L*2^52+k)/2^52-1=L:=(by omega);have c:2^52+(k-2^52)=k:=(by omega);rw[a,b,c]
theorem z9O(r:Nat):r<2^52\/∃L k,r=L*2^52+k/\2^52<=k/\k<2^53:=by
 by_cases h:r<2^52
 ·exact Or.inl h
 ·exact Or.inr ⟨r/2^52-1,2^52+r%2^52,by omega,by omega,by omega⟩
theorem z6j(r:Nat):mag r<mag (r+1):=by
 rcases z9O r with h|⟨L,k,rfl,h1,h2⟩
 ·by_cases h':r+1<2^52
  ·rw[ql h,ql h'];omega
  ·have e:r+1=0*2^52+2^52:=(by omega);rw[ql h,e,xU 0 _ (by omega) (by omega)];omega
 ·rw[xU L k h1 (by omega),Nat.add_assoc,xU L (k+1) (by omega) (by omega)];exact Nat.mul_lt_mul_of_pos_right (by omega) (Nat.two_pow_pos L)
theorem z5g{a b:Nat}(h:a<b):mag a<mag b:=by
 induction b with
 |zero=>omega
 |succ b ih=>
  have:=z6j b;by_cases e:a=b
  ·subst e;exact this
  ·have:=ih (by omega);omega
theorem z2e{a b:Nat}(h:a<=b):mag a<=mag b:=by
 by_cases e:a=b
 ·subst e;exact Nat.le_refl _
 ·exact Nat.le_of_lt (z5g (by omega))
theorem z4B{a b:Nat}(h:mag a<=mag b):a<=b:=by
 by_cases e:a<=b
 ·exact e
 ·have:=z5g (a:=b) (b:=a) (by omega);omega
theorem zdn{a b:Nat}(h:mag a=mag b):a=b:=by have:=z4B (Nat.le_of_eq h);have:=z4B (Nat.le_of_eq h.symm);omega
theorem zbD:mag 0=0:=ql (by omega)
def more(way:Toward)(neg:Bool)(n gap:Nat):Bool:=match way with
 | .even=>gap<2*(n%gap)||(gap==2*(n%gap)&&(n/gap)%2==1)
 | .down=>neg&&n%gap != 0
 | .up=> !neg&&n%gap != 0
 | .zero=>false
theorem z2n(way:Toward)(neg:Bool)(n drop:Nat):way.cut neg n drop=n/2^drop+(more way neg n (2^drop)).toNat:=by
 have h0:way.cut neg n drop=n/2^min drop (n.log2+2)+(more way neg n (2^min drop (n.log2+2))).toNat:=(by unfold Toward.cut more;simp only[Nat.one_shiftLeft];cases way<;>rfl);rw[h0];by_cases h:drop<=n.log2+2
 ·rw[Nat.min_eq_left h]
 ·rw[Nat.min_eq_right (by omega)]
  have hn:n<2^(n.log2+1):=Nat.lt_log2_self;have h2:2^(n.log2+2)=2^(n.log2+1)*2:=Nat.pow_succ ..;have h3:2^(n.log2+2)<=2^drop:=Nat.pow_le_pow_right (by omega) (by omega);generalize 2^(n.log2+2)=A at*
  generalize 2^drop=B at*
  have a1:n/A=0:=Nat.div_eq_of_lt (by omega);have a2:n/B=0:=Nat.div_eq_of_lt (by omega);have a3:n%A=n:=Nat.mod_eq_of_lt (by omega);have a4:n%B=n:=Nat.mod_eq_of_lt (by omega);rw[a1,a2]
  congr 1
  have b1:¬A<2*n:=(by omega);have b2:(A==2*n)=false:=Qb (by omega);have b3:¬B<2*n:=(by omega);have b4:(B==2*n)=false:=Qb (by omega);cases way<;>simp[more,a3,a4,b1,b2,b3,b4]
theorem zdZ(b:Bool):b.toNat<=1:=by cases b<;>simp
theorem zdK{neg:Bool}{n drop K:Nat}(h:n<=K*2^drop):Toward.even.cut neg n drop<=K:=by
 rw[z2n];have hp:=Nat.two_pow_pos drop;generalize 2^drop=g at*
 have e:=Nat.div_add_mod n g;by_cases h1:n/g<K
 ·have:=zdZ (more .even neg n g);omega
 ·have h2:n/g<=K:=by
   have:=Nat.div_le_div_right (c:=g) h;rwa[Nat.mul_div_cancel _ hp]at this
  have h3:n/g=K:=(by omega);rw[h3,Nat.mul_comm]at e;have h4:n%g=0:=(by omega);have h5:(g==0)=false:=Qb (by omega);simp[more,h4,h3,h5]
theorem zdL{neg:Bool}{n drop K:Nat}(h:K*2^drop<=n):K<=Toward.even.cut neg n drop:=by rw[z2n];have:=(Nat.le_div_iff_mul_le (Nat.two_pow_pos drop)).2 h;omega
theorem lp:double.leastPlace= -1074:=by decide
theorem bi:double.binade=2^52:=by decide
theorem ir:double.infRung=2047*2^52:=by decide
theorem sw:double.signWeight=2^63:=by decide
theorem fb:double.fractionBits=52:=rfl
theorem z0k(neg:Bool)(n:Nat)(zY:Int)(P:Nat)(hP:1074<=P)(hp:0<=zY+P):
  ∃r,double.nearest neg n zY=double.word neg (min r (2047*2^52))/\
   (∀R,n*2^(zY+P).toNat<=mag R*2^(P-1074)->r<=R)/\
   (∀R,mag R*2^(P-1074)<=n*2^(zY+P).toNat->R<=r):=by
 by_cases hn:n=0
 ·subst hn
  refine⟨0,by simp[Format.nearest],fun R _=>Nat.zero_le _,fun R h=>?_⟩;have hD:=Nat.two_pow_pos (P-1074);generalize 2^(P-1074)=D at*
  have:mag R=0:=by
   rw[Nat.zero_mul]at h;rcases Nat.mul_eq_zero.1 (Nat.le_zero.1 h)with h|h
   ·exact h
   ·omega
  exact Nat.le_of_eq (zdn (this.trans zbD.symm))
 ·have hlog1:2^n.log2<=n:=Nat.log2_self_le hn
  have hlog2:n<2^(n.log2+1):=Nat.lt_log2_self;generalize hl:max (zY+(n.log2:Int)-52) (-1074)=last;have hlast:(-1074:Int)<=last:=(by omega);generalize hk:Toward.even.cut neg (n <<< (zY-last).toNat) (last-zY).toNat=kept;generalize hL:(last-(-1074)).toNat=L;have hLP:(last+P).toNat=L+(P-1074):=(by omega);have key1:∀K,n*2^(zY+P).toNat<=K*2^(last+P).toNat->kept<=K:=(by intro K h;rw[<-hk];refine zdK ?_;rw[Nat.shiftLeft_eq];have hm:=Nat.two_pow_pos (min zY last+P).toNat;refine Nat.le_of_mul_le_mul_right ?_ hm;rw[Nat.mul_assoc,Nat.mul_assoc,<-Nat.pow_add,<-Nat.pow_add];rw[show(zY-last).toNat+(min zY last+P).toNat=(zY+P).toNat by omega,show(last-zY).toNat+(min zY last+P).toNat=(last+P).toNat by omega];exact h);have key2:∀K,K*2^(last+P).toNat<=n*2^(zY+P).toNat->K<=kept:=(by intro K h;rw[<-hk];refine zdL ?_;rw[Nat.shiftLeft_eq];have hm:=Nat.two_pow_pos (min zY last+P).toNat;refine Nat.le_of_mul_le_mul_right ?_ hm;rw[Nat.mul_assoc,Nat.mul_assoc,<-Nat.pow_add,<-Nat.pow_add];rw[show(zY-last).toNat+(min zY last+P).toNat=(zY+P).toNat by omega,show(last-zY).toNat+(min zY last+P).toNat=(last+P).toNat by omega];exact h);have hhi:n*2^(zY+P).toNat<2^53*2^(last+P).toNat:=(by have a:n*2^(zY+P).toNat<2^(n.log2+1)*2^(zY+P).toNat:=Nat.mul_lt_mul_of_pos_right hlog2 (Nat.two_pow_pos _);have b:2^(n.log2+1)*2^(zY+P).toNat<=2^53*2^(last+P).toNat:=(by rw[<-Nat.pow_add,<-Nat.pow_add];exact Nat.pow_le_pow_right (by omega) (by omega));exact Nat.lt_of_lt_of_le a b);have hlo:0<L->2^52*2^(last+P).toNat<=n*2^(zY+P).toNat:=(by intro h;refine Nat.le_trans ?_ (Nat.mul_le_mul_right _ hlog1);rw[<-Nat.pow_add,<-Nat.pow_add];exact Nat.pow_le_pow_right (by omega) (by omega));have hkhi:kept<=2^53:=key1 _ (Nat.le_of_lt hhi);have hklo:0<L->2^52<=kept:=fun h=>key2 _ (hlo h);rw[hLP,Nat.pow_add]at key1 key2 hhi hlo;have hD:=Nat.two_pow_pos (P-1074);have hE:=Nat.two_pow_pos L;refine⟨L*2^52+kept,?_,?_,?_⟩
  ·unfold Format.nearest;rw[if_neg hn,fb,lp,bi,ir];show double.word neg (min ((max (zY+(n.log2:Int)-52) (-1074)- -1074).toNat*2^52+Toward.even.cut neg (n <<< (zY-max (zY+(n.log2:Int)-52) (-1074)).toNat) (max (zY+(n.log2:Int)-52) (-1074)-zY).toNat) (2047*2^52))=_;rw[hl,hk,hL]
  ·intro R h
   generalize n*2^(zY+P).toNat=v at*
   generalize 2^(P-1074)=D at*
   refine Nat.le_of_not_lt fun hR=>?_;by_cases hk1:L=0\/2^52<kept
   ·have hk0:1<=kept:=by
     rcases hk1 with h0|h0
     ·subst h0;omega
     ·omega
    have hm:mag R<=(kept-1)*2^L:=by
     refine Nat.le_trans (z2e (b:=L*2^52+(kept-1)) (by omega)) (Nat.le_of_eq ?_);by_cases h5:kept-1<2^52
     ·have:L=0:=(by omega);subst this;rw[Nat.zero_mul,Nat.zero_add,ql h5];omega
     ·exact xU L _ (by omega) (by omega)
    have h6:=key1 (kept-1) (Nat.le_trans h (by rw[<-Nat.mul_assoc];exact Nat.mul_le_mul_right D hm));omega
   ·have h7:kept=2^52:=by have:=hklo (by omega);omega
    have h8:=hlo (by omega);obtain⟨M,rfl⟩:∃M,L=M+1:=⟨L-1,by omega⟩;have hm:mag R<=(2^53-1)*2^M:=(by refine Nat.le_trans (z2e (b:=M*2^52+(2^53-1)) (by omega)) (Nat.le_of_eq ?_);exact xU M _ (by omega) (by omega));have h9:2^52*(2^(M+1)*D)<=(2^53-1)*2^M*D:=Nat.le_trans h8 (Nat.le_trans h (Nat.mul_le_mul_right D hm));have e0:2^(M+1)=2^M*2:=Nat.pow_succ ..;rw[e0,Nat.mul_right_comm (2^M) 2 D,Nat.mul_assoc (2^53-1)]at h9;have hM:=Nat.mul_pos (Nat.two_pow_pos M) hD;generalize 2^M*D=z at*
    omega
  ·intro R h
   generalize n*2^(zY+P).toNat=v at*
   generalize 2^(P-1074)=D at*
   refine Nat.le_of_not_lt fun hR=>?_;by_cases hk1:kept+1<=2^53
   ·have hm:(kept+1)*2^L<=mag R:=by
     refine Nat.le_trans (Nat.le_of_eq ?_) (z2e (a:=L*2^52+(kept+1)) (by omega));by_cases h5:kept+1<2^52
     ·have:L=0:=by
       by_cases h0:L=0
       ·exact h0
       ·have:=hklo (by omega);omega
      subst this;rw[Nat.zero_mul,Nat.zero_add,ql h5];omega
     ·exact(xU L _ (by omega) (by omega)).symm
    have h6:=key2 (kept+1) (Nat.le_trans (by rw[<-Nat.mul_assoc];exact Nat.mul_le_mul_right D hm) h);omega
   ·have h7:kept=2^53:=(by omega);have hm:2^53*2^L<=mag R:=(by refine Nat.le_trans (Nat.le_of_eq ?_) (z2e (a:=L*2^52+2^53) (by omega));exact(xU L _ (by omega) (by omega)).symm);have h8:=Nat.le_trans (Nat.mul_le_mul_right D hm) h;rw[Nat.mul_assoc]at h8;omega
def zR(w:Nat):Nat:=w%2^63
def neg(w:Nat):Bool:=w/2^63%2==1
def nan(w:Nat):Bool:=decide (2047*2^52<zR w)
def Fin(w:Nat):Prop:=zR w<2047*2^52
def sv(s:Bool)(M:Nat):Int:=if s then-(M:Int)else M
def fv(w:Nat):Int:=sv (neg w) (mag (zR w))
theorem qi(s:Bool){r:Nat}(h:r<2^63):zR (double.word s r)=r:=by unfold Format.word zR;rw[sw];cases s<;>simp<;>omega
theorem z2N(s:Bool){r:Nat}(h:r<2^63):neg (double.word s r)=s:=by
 unfold Format.word neg;rw[sw];cases s
 ·simp;omega
 ·simp;omega
theorem zcK(s:Bool){r:Nat}(h:r<2^63):fv (double.word s r)=sv s (mag r):=by unfold fv;rw[qi s h,z2N s h]
theorem z4X(s:Bool){r:Nat}(h:r<2^63):double.word s r<2^64:=by unfold Format.word;rw[sw];cases s<;>simp<;>omega
theorem z8X{w:Nat}(h:w<2^64):double.word (neg w) (zR w)=w:=by
 unfold Format.word neg zR;rw[sw];by_cases e:w/2^63%2=1
 ·simp[e];omega
 ·have:(w/2^63%2==1)=false:=(by rw[beq_eq_false_iff_ne];exact e);simp[this];omega
def Num(P:Nat)(d:Datum)(s:Bool)(M:Nat):Prop:=∃m e,d=.number s m e/\0<=e+(P:Int)/\m*2^(e+(P:Int)).toNat=M
theorem z1C{w:Nat}(h:Fin w):Num 1074 (double.read w) (neg w) (mag (zR w)):=by
 unfold Fin at h;unfold Format.read;rw[sw,bi,ir,lp];show Num 1074 (if zR w<2^52 then _ else if zR w<2047*2^52 then _ else _) _ _;by_cases h1:zR w<2^52
 ·rw[if_pos h1,ql h1];exact⟨zR w,-1074,rfl,by omega,by simp⟩
 ·rw[if_neg h1,if_pos h];refine⟨2^52+zR w%2^52,-1074+((zR w/2^52-1:Nat):Int),rfl,by omega,?_⟩;have e:(-1074+((zR w/2^52-1:Nat):Int)+((1074:Nat):Int)).toNat=zR w/2^52-1:=(by omega);rw[e];unfold mag;rw[if_neg h1]
theorem z1D{w:Nat}(h:zR w=2047*2^52):double.read w=.infinity (neg w):=by unfold Format.read;rw[sw,bi,ir];show(if zR w<2^52 then _ else if zR w<2047*2^52 then _ else if zR w=2047*2^52 then _ else _)=_;rw[if_neg (by omega),if_neg (by omega),if_pos h];rfl
theorem z67{w:Nat}(h:2047*2^52<zR w):double.read w=.nan (neg w) (zR w-2047*2^52):=by unfold Format.read;rw[sw,bi,ir];show(if zR w<2^52 then _ else if zR w<2047*2^52 then _ else if zR w=2047*2^52 then _ else _)=_;rw[if_neg (by omega),if_neg (by omega),if_neg (by omega)];rfl
theorem z4f(s:Bool)(m u:Nat):signed s m u=sv s (m*2^u):=by unfold signed sv;rw[Nat.shiftLeft_eq]
theorem zaI(s:Bool)(m k:Nat):sv s (m*k)=sv s m*k:=by unfold sv;cases s<;>simp[Int.neg_mul]
def z2r(P:Nat)(s:Bool)(M w:Nat):Prop:=∃r,w=double.word s (min r (2047*2^52))/\
 (∀R,M<=mag R*2^(P-1074)->r<=R)/\(∀R,mag R*2^(P-1074)<=M->R<=r)
theorem z6Z{P:Nat}{d:Datum}{s:Bool}{M:Nat}(h:Num P d s M)(hP:1074<=P):z2r P s M (double.write d):=by obtain⟨m,e,rfl,h1,rfl⟩:=h;exact z0k s m e P hP h1
theorem z2r.lt{P:Nat}{s:Bool}{M w:Nat}(h:z2r P s M w):w<2^64:=by obtain⟨r,rfl,-,-⟩:=h;exact z4X s (by omega)
theorem z2r.neg{P:Nat}{s:Bool}{M w:Nat}(h:z2r P s M w):neg w=s:=by obtain⟨r,rfl,-,-⟩:=h;exact z2N s (by omega)
theorem z2r.le{P:Nat}{s:Bool}{M w R:Nat}(h:z2r P s M w)(hR:M<=mag R*2^(P-1074)):zR w<=R:=by obtain⟨r,rfl,h1,-⟩:=h;rw[qi s (by omega)];have:=h1 R hR;omega
theorem z2r.ge{P:Nat}{s:Bool}{M w R:Nat}(h:z2r P s M w)(hi:R<=2047*2^52)(hR:mag R*2^(P-1074)<=M):R<=zR w:=by obtain⟨r,rfl,-,h1⟩:=h;rw[qi s (by omega)];have:=h1 R hR;omega
theorem z2r.exact{P:Nat}{s:Bool}{M w R:Nat}(h:z2r P s M w)(hi:R<=2047*2^52)(hR:M=mag R*2^(P-1074)):w=double.word s R:=by have a:=h.le (Nat.le_of_eq hR);have b:=h.ge hi (Nat.le_of_eq hR.symm);have c:=z8X h.lt;rw[h.neg,show zR w=R by omega]at c;exact c.symm
theorem yF(a b:Int):compare a b=if a<b then Ordering.lt else if a=b then .eq else .gt:=rfl
theorem z41(a b k:Int)(hk:0<k):compare (a*k) (b*k)=compare a b:=by rw[yF,yF];have h1:(a*k<b*k)↔a<b:=⟨fun h=>Int.lt_of_mul_lt_mul_right h (Int.le_of_lt hk),fun h=>Int.mul_lt_mul_of_pos_right h hk⟩;have h2:(a*k=b*k)↔a=b:=⟨fun h=>Int.eq_of_mul_eq_mul_right (by omega) h,fun h=>by rw[h]⟩;simp only[h1,h2]
theorem z9J{P:Nat}{d d':Datum}{s s':Bool}{M M':Nat}(h:Num P d s M)(h':Num P d' s' M'):d.order d'=some (compare (sv s M) (sv s' M')):=by obtain⟨m,e,rfl,h1,rfl⟩:=h;obtain⟨m',e',rfl,h1',rfl⟩:=h';show some (compare (signed s m (e-min e e').toNat) (signed s' m' (e'-min e e').toNat))=_;rw[z4f,z4f];have hk:=Nat.two_pow_pos (min e e'+(P:Int)).toNat;have a:m*2^(e+(P:Int)).toNat=m*2^(e-min e e').toNat*2^(min e e'+(P:Int)).toNat:=(by rw[Nat.mul_assoc,<-Nat.pow_add];congr 2;omega);have b:m'*2^(e'+(P:Int)).toNat=m'*2^(e'-min e e').toNat*2^(min e e'+(P:Int)).toNat:=(by rw[Nat.mul_assoc,<-Nat.pow_add];congr 2;omega);rw[a,b,zaI s (m*2^(e-min e e').toNat) (2^(min e e'+(P:Int)).toNat),zaI s' (m'*2^(e'-min e e').toNat) (2^(min e e'+(P:Int)).toNat),z41 _ _ _ (by exact_mod_cast hk)]
theorem z8H{w:Nat}(h:Fin w):mag (zR w)<mag (2047*2^52):=z5g h
theorem z6e(a b:Nat):double.order a b=if nan a||nan b then none else some (compare (fv a) (fv b)):=by
 unfold Format.order;by_cases na:2047*2^52<zR a
 ·have:nan a=true:=(by simp[nan,na]);rw[z67 na,this];rfl
 ·have ha:nan a=false:=by simp[nan];omega
  by_cases nb:2047*2^52<zR b
  ·have:nan b=true:=(by simp[nan,nb]);rw[z67 nb,this,ha];cases double.read a<;>rfl
  ·have hb:nan b=false:=by simp[nan];omega
   rw[ha,hb];show _=some _;by_cases ia:zR a=2047*2^52
   ·by_cases ib:zR b=2047*2^52
    ·rw[z1D ia,z1D ib]
     unfold fv;rw[ia,ib];have:0<mag (2047*2^52):=(by have:=z5g (a:=0) (b:=2047*2^52) (by omega);omega);generalize mag (2047*2^52)=Z at*
     have z1:(-(Z:Int))<Z:=(by omega);have z2:¬((Z:Int)< -(Z:Int)):=(by omega);have z3:¬((Z:Int)= -(Z:Int)):=(by omega);cases neg a<;>cases neg b<;>simp[Datum.order,sv,yF,z1,z2,z3]<;>rfl
    ·have fb:Fin b:=by unfold Fin;omega
     have hm:=z8H fb;obtain⟨m,e,h1,h2,h3⟩:=z1C fb;rw[z1D ia,h1];unfold fv;rw[ia];generalize mag (2047*2^52)=Z at*
     generalize mag (zR b)=y at*
     cases neg a
     ·have z1:∀x:Int,x=y\/x= -(y:Int)->¬(Z:Int)<x:=(by intro x hx;omega);have z2:∀x:Int,x=y\/x= -(y:Int)->¬(Z:Int)=x:=(by intro x hx;omega);have z3:sv (neg b) y=y\/sv (neg b) y= -(y:Int):=(by unfold sv;cases neg b<;>simp);show some Ordering.gt=some (compare (Z:Int) (sv (neg b) y));rw[yF,if_neg (z1 _ z3),if_neg (z2 _ z3)]
     ·have z1:∀x:Int,x=y\/x= -(y:Int)-> -(Z:Int)<x:=(by intro x hx;omega);have z3:sv (neg b) y=y\/sv (neg b) y= -(y:Int):=(by unfold sv;cases neg b<;>simp);show some Ordering.lt=some (compare (-(Z:Int)) (sv (neg b) y));rw[yF,if_pos (z1 _ z3)]
   ·have fa:Fin a:=by unfold Fin;omega
    by_cases ib:zR b=2047*2^52
    ·have hm:=z8H fa
     obtain⟨m,e,h1,h2,h3⟩:=z1C fa;rw[z1D ib,h1];unfold fv;rw[ib];generalize mag (2047*2^52)=Z at*
     generalize mag (zR a)=y at*
     cases neg b
     ·have z1:∀x:Int,x=y\/x= -(y:Int)->x<(Z:Int):=(by intro x hx;omega);have z3:sv (neg a) y=y\/sv (neg a) y= -(y:Int):=(by unfold sv;cases neg a<;>simp);show some Ordering.lt=some (compare (sv (neg a) y) (Z:Int));rw[yF,if_pos (z1 _ z3)]
     ·have z1:∀x:Int,x=y\/x= -(y:Int)->¬x< -(Z:Int):=(by intro x hx;omega);have z2:∀x:Int,x=y\/x= -(y:Int)->¬x= -(Z:Int):=(by intro x hx;omega);have z3:sv (neg a) y=y\/sv (neg a) y= -(y:Int):=(by unfold sv;cases neg a<;>simp);show some Ordering.gt=some (compare (sv (neg a) y) (-(Z:Int)));rw[yF,if_neg (z1 _ z3),if_neg (z2 _ z3)]
    ·exact z9J (z1C fa) (z1C (by unfold Fin;omega))
theorem zfI{a b:Nat}(ha:nan a=false)(hb:nan b=false):(FloatKind.f64.format.order a b==some .lt)=decide (fv a<fv b):=by
 show(double.order a b==some .lt)=_;rw[z6e,ha,hb,yF];show(some _==some _)=_;by_cases h:fv a<fv b
 ·simp[h]
 ·by_cases h2:fv a=fv b<;>simp[h,h2]
theorem zfJ{a b:Nat}(ha:nan a=false)(hb:nan b=false):(FloatKind.f64.format.order a b==some .gt)=decide (fv b<fv a):=by
 show(double.order a b==some .gt)=_;rw[z6e,ha,hb,yF];show(some _==some _)=_;by_cases h:fv a<fv b
 ·have:¬fv b<fv a:=(by omega);simp[h,this]
 ·by_cases h2:fv a=fv b
  ·simp[h2]
  ·have:fv b<fv a:=(by omega);simp[h,h2,this]
def pw2(k:Nat):Nat:=2^k
def U:Nat:=pw2 1074
theorem ze9{e:Nat}(h:e=1074):U=2^e:=congrArg pw2 h.symm
theorem zd3(k:Nat):0<pw2 k:=Nat.two_pow_pos k
theorem z6X:0<U:=zd3 1074
theorem pw3{a b c d e:Nat}(h:a+b=c+(d+e)):2^a*2^b=2^c*(2^d*2^e):=by rw[<-Nat.pow_add,<-Nat.pow_add,<-Nat.pow_add,h]
theorem rep(L:Nat):∀k,k<=2^53->∃R,mag R=k*2^L:=by
 induction L with
 |zero=>
  intro k h;by_cases h1:k<2^52
  ·exact⟨k,by rw[ql h1];omega⟩
  ·exact⟨0*2^52+k,xU 0 k (by omega) h⟩
 |succ L ih=>
  intro k h;by_cases h1:k<2^52
  ·obtain⟨R,hR⟩:=ih (k*2) (by omega);refine⟨R,?_⟩;have e:2^(L+1)=2^L*2:=Nat.pow_succ ..;rw[hR,e,Nat.mul_assoc,Nat.mul_comm 2]
  ·exact⟨(L+1)*2^52+k,xU (L+1) k (by omega) h⟩
theorem zbE{L e a:Nat}(h1:L=2046)(h2:e=1074)(h3:a=972):mag (2047*2^52)=2^a*(2^52*U):=by have h:2047*2^52=L*2^52+2^52:=(by omega);rw[h,xU L _ (by omega) (by omega),ze9 h2];exact pw3 (by omega)
theorem zdo:mag (2047*2^52)=2^972*(2^52*U):=zbE (L:=2046) (e:=1074) (a:=972) rfl rfl rfl
theorem zee{k:Nat}(h:k<=2^53):∃R,R<2047*2^52/\mag R=k*U:=by
 have hR0:∃R,mag R=k*U:=(by have key:∀e,e=1074->∃R,mag R=k*U:=(by intro e he;rw[ze9 he];exact rep e k h);exact key 1074 rfl);obtain⟨R,hR⟩:=hR0;refine⟨R,?_,hR⟩;refine Nat.lt_of_not_le fun h1=>?_;have h2:=z2e h1;rw[zdo,hR]at h2;have key:∀a b,a=b+2->2^a*(2^52*U)<=k*U->False:=by
  intro a b e h2;have e1:2^a=2^b*4:=(by rw[e,Nat.pow_add]);rw[e1,<-Nat.mul_assoc]at h2;have h3:2^b*4*2^52<=k:=Nat.le_of_mul_le_mul_right h2 z6X;have h4:=Nat.two_pow_pos b;generalize 2^b=z at*
  omega
 exact key 972 970 rfl h2
theorem zeN{P:Nat}(hP:P=1074)(s:Bool)(n:Nat):Num P (.number s n 0) s (n*U):=
 ⟨n,0,rfl,by omega,by rw[ze9 hP,show((0:Int)+(P:Int)).toNat=P by omega]⟩
theorem z9K{n:Nat}(h:n<=2^53):∃R,R<2047*2^52/\mag R=n*U/\floatOfInt .f64 n=double.word false R:=by obtain⟨R,h1,h2⟩:=zee h;refine⟨R,h1,h2,?_⟩;have hn:Num 1074 (.number false n 0) false (n*U):=zeN rfl _ _;have hw:=z6Z hn (Nat.le_refl _);have hb:floatOfInt .f64 n=double.write (.number false n 0):=(by show double.write (.number (decide ((n:Int)<0)) (n:Int).natAbs 0)=_;have h3:decide ((n:Int)<0)=false:=(by simp);rw[h3];rfl);rw[hb];exact hw.exact (Nat.le_of_lt h1) (by rw[h2];simp)
theorem z9s{w:Nat}(h:Fin w):∃m e,double.read w=.number (neg w) m e/\0<=e+((1074:Nat):Int)/\m*2^(e+((1074:Nat):Int)).toNat=mag (zR w)/\m<2^53:=by
 unfold Fin at h;unfold Format.read;rw[sw,bi,ir,lp];show ∃m e,(if zR w<2^52 then Datum.number (neg w) (zR w) _ else if zR w<2047*2^52 then Datum.number (neg w) _ _ else _)=_/\_;by_cases h1:zR w<2^52
 ·rw[if_pos h1,ql h1];exact⟨zR w,-1074,rfl,by omega,by simp,by omega⟩
 ·rw[if_neg h1,if_pos h];refine⟨2^52+zR w%2^52,-1074+((zR w/2^52-1:Nat):Int),rfl,by omega,?_,by omega⟩;have e:(-1074+((zR w/2^52-1:Nat):Int)+((1074:Nat):Int)).toNat=zR w/2^52-1:=(by omega);rw[e];unfold mag;rw[if_neg h1]
end Go.Proofs.YtkkecpamnnojoaaGreatDoor.Flt
namespace Go.Proofs.YtkkecpamnnojoaaGreatDoor
open Go.ChangeShapes Go.WideShapes Go.ChangeAt Go.RowKit
theorem za2(a b:Nat)(w:World):
  Calls Tryz.prog 22 #[.float .f64 a,.float .f64 b] w fun e w'=>e=.returned (.bool (decide (a=b)))/\w=w':=by
 have e1:=z1W;go_in;go_wp2;go_ret;refine⟨?_,rfl⟩
 congr 2
 by_cases h:a=b<;>simp[h];omega
theorem z8T(a:Nat):bits BinOp.and IntKind.u64 (a:Int) 9223372036854775807=(Flt.zR a:Int):=by have h1:(BitVec.ofInt 64 (a:Int)).toNat=a%2^64:=(by rw[BitVec.ofInt_natCast,BitVec.toNat_ofNat]);have h2:(BitVec.ofInt 64 9223372036854775807).toNat=2^63-1:=(by decide);show IntKind.u64.wrap ((BitVec.ofInt 64 (a:Int)&&&BitVec.ofInt 64 9223372036854775807).toNat:Int)=_;rw[BitVec.toNat_and,h1,h2,Nat.and_two_pow_sub_one_eq_mod,IntKind.wrap_u64];unfold Flt.zR;omega
theorem zdl(a:Nat):decide (9218868437227405312<bits BinOp.and IntKind.u64 (a:Int) 9223372036854775807)=Flt.nan a:=by
 rw[z8T];unfold Flt.nan;by_cases h:2047*2^52<Flt.zR a
 ·have:(9218868437227405312:Int)<(Flt.zR a:Int):=(by omega);simp[this,h]
 ·have:¬(9218868437227405312:Int)<(Flt.zR a:Int):=(by omega);simp[this,h]
theorem z6h(a:Nat)(w:World):
  Calls Tryz.prog 57 #[.float .f64 a] w fun e w'=>e=.returned (.bool (Flt.nan a))/\w=w':=by
 have e1:=z1W;go_in;go_wp2;go_ret;exact⟨by rw[<-zdl];rfl,rfl⟩
end Go.Proofs.YtkkecpamnnojoaaGreatDoor
namespace Go.Proofs.YtkkecpamnnojoaaGreatDoor.Sm
open Go.ChangeShapes Go.WideShapes Go.ChangeAt Go.RowKit
end Go.Proofs.YtkkecpamnnojoaaGreatDoor.Sm
namespace Go.Proofs.YtkkecpamnnojoaaGreatDoor.Sm
open Go.ChangeShapes Go.WideShapes Go.ChangeAt Go.RowKit
theorem z0Q(V:Nat):zN V<9223372036854775808:=by
 by_cases hs:z1f V<=53
 ·rw[z5Y rfl hs];exact Nat.lt_of_lt_of_le (z0D V).1 (Nat.le_trans (Nat.pow_le_pow_right (by decide) hs) (by decide))
 ·have hr:=z3y (z0D V) (by omega)
  rw[z5Z rfl (by omega)];generalize z2k V (z1f V-53)=d at*
  generalize z1f V-53=b at*
  simp only;by_cases hd:d=9007199254740992
  ·simp only[if_pos hd]
   by_cases ho:b+1+1>=2047
   ·rw[if_pos ho];decide
   ·rw[if_neg ho];omega
  ·simp only[if_neg hd]
   by_cases ho:b+1>=2047
   ·rw[if_pos ho];decide
   ·rw[if_neg ho];omega
theorem zbx(w:World):Calls Tryz.prog 114 #[] w fun e w'=>e=.returned (.float .f64 9221120237041090561)/\w'=w:=by have e1:=z1V;go_in;go_wp2_with fail;go_ret;exact⟨rfl,rfl⟩
theorem zbX(w:World):Calls Tryz.prog 103 #[.int .i64 1] w fun e w'=>e=.returned (.float .f64 9218868437227405312)/\w'=w:=by have e1:=z1V;go_in;go_wp2_with fail;go_ret;exact⟨rfl,rfl⟩
theorem z6v(w:World):Calls Tryz.prog 103 #[.int .i64 (-1)] w fun e w'=>e=.returned (.float .f64 18442240474082181120)/\w'=w:=by have e1:=z1V;go_in;go_wp2_with fail;go_ret;exact⟨rfl,rfl⟩
end Go.Proofs.YtkkecpamnnojoaaGreatDoor.Sm
namespace Go.Proofs.YtkkecpamnnojoaaGreatDoor.Sm
open Go.ChangeShapes Go.WideShapes Go.ChangeAt Go.RowKit
end Go.Proofs.YtkkecpamnnojoaaGreatDoor.Sm
namespace Go.Proofs.YtkkecpamnnojoaaGreatDoor.Sm
open Go.ChangeShapes Go.WideShapes Go.ChangeAt Go.RowKit
end Go.Proofs.YtkkecpamnnojoaaGreatDoor.Sm
namespace Go.Proofs.YtkkecpamnnojoaaGreatDoor
open Go.ChangeShapes Go.WideShapes Go.ChangeAt Go.RowKit
open Bt
end Go.Proofs.YtkkecpamnnojoaaGreatDoor
namespace Go.Proofs.YtkkecpamnnojoaaGreatDoor
open Go.ChangeShapes Go.WideShapes Go.ChangeAt Go.RowKit
open Bt
theorem own:ownKnob Tryz.prog.godebug=none:=by kernel_rfl
def qR(W:World)(n:String)(d:DataW Unit):Prop:=
 ∃g t cs fuel p,Tryz.prog.globalNamed n=some g/\(Tryz.prog.globals[g]?).map (·.type)=some t/\W.var? Tryz.prog n=some cs/\DataW.trod (fun _=>()) Tryz.prog W 0 (fun _=>true) false fuel t cs.toList=some (d,p)
theorem yL{W:World}:∀{l:List (String×DataW Unit)} {ps:List MemPlace},DataW.LaidVars Tryz.prog W l ps->∀(i:Nat) n d,l[i]?=some (n,d)->qR W n d
 |[],_,_,i,n,d,hi=>by simp at hi
 |(n0,d0)::r,ps,h,i,n,d,hi=>by
  obtain⟨g,t,cs,fuel,p,q,h1,h2,h3,h4,h5,-⟩:=h;cases i with
  |zero=>simp at hi;obtain⟨rfl,rfl⟩:=hi;exact⟨g,t,cs,fuel,p,h1,h2,h3,h4⟩
  |succ i=>exact yL h5 i n d (by simpa using hi)
theorem zeJ{W:World}(h:qR W "internal/strconv.optimize" (.lit (.bool true))):Opt W:=by
 obtain⟨g,t,cs,fuel,p,h1,h2,h3,h4⟩:=h;obtain rfl:=Option.some.inj ((show Tryz.prog.globalNamed "internal/strconv.optimize" =some 2 by kernel_rfl).symm.trans h1);obtain rfl:=Option.some.inj ((show(Tryz.prog.globals[2]?).map (·.type)=some 4 by kernel_rfl).symm.trans h2)
 obtain⟨b,hb,hx⟩:=DataW.trod_bool Tryz.underlying4 h4;have hbt:b=true:=(by have:=congrArg Prod.fst hx;simpa using this.symm);subst hbt;have hc:=World.var?_cell (show Tryz.prog.globalNamed "internal/strconv.optimize" =some 2 by kernel_rfl) h3 0;unfold Opt;rw[hc,<-Array.getElem?_toList,hb];rfl
theorem zcP{W:World}(h:qR W "internal/strconv.uint64pow10" (Lib.tabData .u64 Lib.pow10Tab)):Lib.TabIs Tryz.prog W "internal/strconv.uint64pow10" .u64 Lib.pow10Tab:=by
 obtain⟨g,t,cs,fuel,p,h1,h2,h3,h4⟩:=h;obtain rfl:=Option.some.inj ((show Tryz.prog.globalNamed "internal/strconv.uint64pow10" =some 3 by kernel_rfl).symm.trans h1);obtain rfl:=Option.some.inj ((show(Tryz.prog.globals[3]?).map (·.type)=some 193 by kernel_rfl).symm.trans h2)
 unfold Lib.TabIs;rw[h3];have:=Lib.cells_of_tab Tryz.underlying193 Tryz.underlying109 (by kernel_rfl) (by kernel_rfl) h4;rw[<-this]
theorem zb1:∀i:Fin 696,(Go.Pinned.pow10Rows[i.val]?).map (fun x=>(x.1,x.2))=some (Us.yK ((i.val:Int)-348),Us.qO ((i.val:Int)-348)):=by decide+kernel
theorem z8v{W:World}(h:qR W "internal/strconv.pow10Tab" Go.Pinned.pow10Tab):z0t W:=by
 obtain⟨g,t,cs,fuel,p,h1,h2,h3,h4⟩:=h;have hg:Tryz.prog.globalNamed "internal/strconv.pow10Tab" =some 6:=(by kernel_rfl);obtain rfl:=Option.some.inj (hg.symm.trans h1);obtain rfl:=Option.some.inj ((show(Tryz.prog.globals[6]?).map (·.type)=some 222 by kernel_rfl).symm.trans h2)
 obtain⟨xs,m,-,hx,hcl,hxl,hel⟩:=DataW.trod_array Tryz.underlying222 h4;have hC:Tryz.prog.cellsOf 221=2:=(by kernel_rfl);have hxs:xs.map (·.1)=Go.Pinned.pow10Rows.map fun x=>DataW.agg [.lit (.int .u64 x.1),.lit (.int .u64 x.2)]:=by have:=congrArg Prod.fst hx;unfold Go.Pinned.pow10Tab at this;simp only[DataW.agg.injEq]at this;exact this.symm
 intro i hi;have hr:=zb1 ⟨i,hi⟩;simp only at hr;obtain⟨⟨a,b⟩,hab,hv⟩:=Option.map_eq_some_iff.1 hr;have e1:a=Us.yK ((i:Int)-348):=congrArg Prod.fst hv;have e2:b=Us.qO ((i:Int)-348):=congrArg Prod.snd hv;have hxi:∃y,xs[i]?=some (DataW.agg [.lit (.int .u64 a),.lit (.int .u64 b)],y):=(by have h5:=congrArg (fun l=>l[i]?) hxs;simp only[List.getElem?_map,hab,Option.map_some]at h5;obtain⟨⟨d,y⟩,h6,h7⟩:=Option.map_eq_some_iff.1 h5;exact⟨y,by rw[h6];simp only at h7;rw[h7]⟩);obtain⟨y,hy⟩:=hxi;have he:=hel i hi;rw[hC,hy]at he;obtain⟨ys,n,-,hz,hzl,hzs,hf⟩:=DataW.trod_struct Tryz.underlying221 he;have hzy:ys.map (·.1)=[.lit (.int .u64 (a:Int)),.lit (.int .u64 (b:Int))]:=by have h5:=congrArg Prod.fst hz;simp only[DataW.agg.injEq]at h5;exact h5.symm
 have hCu:Tryz.prog.cellsOf 109=1:=by kernel_rfl
 have field:∀(j:Nat) (z:Int) (f:Field),f.type=109->f.offset=j->((ys.map (·.1))[j]?=some (.lit (.int .u64 z)))->
   DataW.trod (fun _=>()) Tryz.prog W 0 (fun _=>true) false n f.type ((((cs.toList.drop (i*2)).take 2).drop f.offset).take (Tryz.prog.cellsOf f.type))=ys[j]?->j<2->cs.toList[i*2+j]?=some (.int .u64 z):=by
  intro j z f ht ho hj hr hj2;rw[List.getElem?_map]at hj;obtain⟨⟨d,q⟩,h6,h7⟩:=Option.map_eq_some_iff.1 hj;rw[h6,ht,ho,hCu]at hr;obtain⟨z',hz1,hz2,-⟩:=DataW.trod_int Tryz.underlying109 hr;simp only at h7;rw[h7]at hz2;have:z=z':=(by have:=congrArg Prod.fst hz2;simpa using this);subst this;have h8:(List.take 1 (List.drop j (List.take 2 (List.drop (i*2) cs.toList))))[0]?=[Value.int IntKind.u64 z][0]?:=congrArg (fun l=>l[0]?) hz1;rw[List.getElem?_take_of_lt (by omega),List.getElem?_drop,List.getElem?_take_of_lt (by omega),List.getElem?_drop,Nat.add_zero]at h8;exact h8
 have c0:=field 0 a _ rfl rfl (by rw[hzy];rfl) (hf 0 _ rfl) (by omega);have c1:=field 1 b _ rfl rfl (by rw[hzy];rfl) (hf 1 _ rfl) (by omega);refine⟨?_,?_⟩
 ·rw[World.var?_cell hg h3 (i*2),<-Array.getElem?_toList,<-e1];exact c0
 ·rw[World.var?_cell hg h3 (i*2+1),<-Array.getElem?_toList,<-e2];exact c1
theorem zfk{W:World}(h1:z0t W)(h2:Lib.TabIs Tryz.prog W "internal/strconv.uint64pow10" .u64 Lib.pow10Tab):Tb W.heap.size W:=by have hlt:6<W.heap.size:=zG (h1 0 (by omega)).1;exact⟨fun w' hb i hi=>⟨(hb.cell (p:=⟨6,i*2,none⟩) hlt).trans (h1 i hi).1,(hb.cell (p:=⟨6,i*2+1,none⟩) hlt).trans (h1 i hi).2⟩,Lib.tabBelow_of_tabIs h2,hlt,Nat.le_refl _⟩
theorem zaH{W:World}(h:laidMetH Tryz.prog Rows.scriptPrintsRow.laid W):Opt W/\Tb W.heap.size W:=by rw[MakeChecks.laidMetH_plain _ _ _ (by kernel_rfl)]at h;obtain⟨ps,hv,-⟩:=h;have a:=yL hv 4 _ _ rfl;have b:=yL hv 8 _ _ rfl;have c:=yL hv 12 _ _ rfl;exact⟨zeJ a,zfk (z8v c) (zcP b)⟩
end Go.Proofs.YtkkecpamnnojoaaGreatDoor
namespace Go.Proofs.YtkkecpamnnojoaaGreatDoor
open Go.ChangeShapes Go.WideShapes Go.ChangeAt Go.RowKit
open Bt
def qc(u:Nat):Nat:=if Flt.nan u=true then 9221120237041090561 else u
end Go.Proofs.YtkkecpamnnojoaaGreatDoor
namespace Go.Proofs.YtkkecpamnnojoaaGreatDoor.Re
open Go.Proofs.YtkkecpamnnojoaaGreatDoor
theorem z8A(u:Nat):Flt.nan u=true↔9218868437227405312<u%9223372036854775808:=by unfold Flt.nan Flt.zR;rw[decide_eq_true_eq]
theorem zag{a:Nat}(hn:Flt.nan a=true):Sm.qe a=1:=by unfold Sm.qe;rw[if_pos ((z8A a).1 hn)]
end Go.Proofs.YtkkecpamnnojoaaGreatDoor.Re
namespace Go.Proofs.YtkkecpamnnojoaaGreatDoor
open Go.ChangeShapes Go.WideShapes Go.ChangeAt Go.RowKit
open Bt
theorem z72{H:Type}{enc:TypeId×Value->H}{C:Checked}{os:Os}{f:FuncId}{fn:Func}{s:OpenSpec}{conds:List PathCond}{apart:Bool}{laid:List (String×DataW Unit)}(w0:World)(args:Array Value)(hos:w0.os=os)
  (hsh:(w0.forCall (fun _ _=>0) ⟨#[],args,[]⟩).Shaped C.prog)
  (hok:Input.okWideB C.prog (w0.forCall (fun _ _=>0) ⟨#[],args,[]⟩) f ⟨#[],args,[]⟩=true)
  (hrow:s.preRow enc C.prog fn conds apart laid (w0.forCall (fun _ _=>0) ⟨#[],args,[]⟩).memory args):
  ∃(w:World) (tape:Tape) (i:Input),w.os=os/\(w.forCall tape i).Shaped C.prog/\i.vars=[]/\Input.okWide C.prog (w.forCall tape i) .any w.heap.size f i/\
   s.preRow enc C.prog fn conds apart laid (w.forCall tape i).memory i.args/\({}:Assume).holds C.prog (lone (Frame.enter C.prog f i.args .normal) [] (w.forCall tape i)):=
 ⟨w0,fun _ _=>0,⟨#[],args,[]⟩,hos,hsh,(Input.okWide_of_okWideB (base:=0) hok).1,(Input.okWide_of_okWideB hok).2,hrow,by
  simp only[Assume.holds];exact⟨by simp,by simp,fun h=>by simp at h,by simp,by simp⟩⟩
noncomputable def z6q(os:Os):World:=World.laidAll Tryz.prog os Rows.scriptPrintsRow.laid
theorem zbN(os:Os):(z6q os).os=os:=World.laidAll_os _ _ _
theorem z5j(os:Os)(args:Array Value):((z6q os).forCall (fun _ _=>0) ⟨#[],args,[]⟩).Shaped Tryz.prog:=
 World.shaped_of_ZipB (by kernel_rfl) (by kernel_rfl)
theorem z9S(os:Os)(args:Array Value):laidMetH Tryz.prog Rows.scriptPrintsRow.laid ((z6q os).forCall (fun _ _=>0) ⟨#[],args,[]⟩).memory:=by rw[MakeChecks.laidMetH_plain _ _ _ (by kernel_rfl)];exact laidMet_laidAll _ (by kernel_rfl) (by kernel_rfl)
end Go.Proofs.YtkkecpamnnojoaaGreatDoor
namespace Go.Proofs.YtkkecpamnnojoaaGreatDoor
open Go.ChangeShapes Go.WideShapes Go.ChangeAt Go.RowKit
section
variable {H:Type} {enc:TypeId × Value -> H} {P:Program}
end
end Go.Proofs.YtkkecpamnnojoaaGreatDoor
namespace Go.Proofs.YtkkecpamnnojoaaGreatDoor
open Go.ChangeShapes Go.WideShapes Go.ChangeAt Go.RowKit
namespace Sc
abbrev Str:=List UInt8
structure Fault where
 at_:Int
 kind:Int
 part:Int
structure Call where
 kind:Int
 lsn:Int
 data:Str
structure Kp where
 n:Int
 junk:Str
structure Reopen where
 dir:Int
 keeps:List Kp
 faults:List Fault
structure Play where
 disk:Int
 segMax:Int
 base:Int
 qcap:Int
 qbytes:Int
 pmost:Int
 pbytes:Int
 linger:Nat
 alpha:Nat
 faults:List Fault
 tasks:List (List Call)
 picks:List Int
 most:Int
 ends:List Reopen
def zX:Play:=⟨0,0,0,0,0,0,0,0,0,[],[],[],0,[]⟩
structure PS where
 p:Play
 st:Nat
def yC(c:UInt8):Bool:=decide (c.toNat=32)||decide (c.toNat=9)
def okB(c:UInt8):Bool:=yC c||(decide (33<=c.toNat)&&decide (c.toNat<=126))
def zA:Str->List Str
 |[]=>[]
 |c::s=>if c.toNat=10 then[]::zA s else match zA s with
  |[]=>[[c]]
  |l::ls=>(c::l)::ls
def wsp(cur:Str):Str->List Str
 |[]=>if cur=[]then[]else[cur]
 |c::s=>if yC c then(if cur=[]then wsp [] s else cur::wsp [] s)else wsp (cur++[c]) s
def zu(s:Str):List Str:=wsp [] s
def yn(s:Str):Str:=s.takeWhile fun c=>decide (c.toNat≠35)
def zh(s:Str):Option Int:=match Lib.parseIntB 64 s with
 | .ok v=>if Lib.itoa v=s then some v else none
 |_=>none
def zcp:Str:=[48,49,50,51,52,53,54,55,56,57,97,98,99,100,101,102]
def yT(c:UInt8):Int:=Lib.indexByte zcp c
def zL:Str->Option Str
 |[]=>some []
 |[_]=>none
 |a::b::s=>if yT a<0\/yT b<0 then none else(zL s).map fun r=>UInt8.ofNat ((yT a).toNat*16+(yT b).toNat)::r
def y9(s:Str)(dash:Bool):Option Str:=
 if s=[45]/\dash=true then some []else if s=[]\/s.length%2≠0 then none else zL s
def zo(k:Int):Str:=
 if k=1 then[97,112,112,101,110,100]else if k=2 then[97,115,121,110,99]else if k=3 then[115,121,110,99]else if k=4 then[114,101,97,100]
 else if k=5 then[110,101,120,116]else if k=6 then[116,114,117,110,99,97,116,101]else if k=7 then[99,108,111,115,101]else[]
def zb(s:Str):Int:=
 if s=zo 1 then 1 else if s=zo 2 then 2 else if s=zo 3 then 3 else if s=zo 4 then 4 else if s=zo 5 then 5 else if s=zo 6 then 6 else if s=zo 7 then 7 else 0
def zn(k:Int):Str:=
 if k=1 then[105,111]else if k=2 then[102,117,108,108]else if k=3 then[112,111,119,101,114]else if k=4 then[112,97,110,105,99]else[]
def zq(s:Str):Int:=
 if s=zn 1 then 1 else if s=zn 2 then 2 else if s=zn 3 then 3 else if s=zn 4 then 4 else 0
def zk(s:Str):Int:=
 if s=[112,108,97,121]then 1 else if s=[109,111,115,116]then 2 else if s=[102,97,117,108,116]then 3 else if s=[116,97,115,107]then 4
 else if s=[112,105,99,107,115]then 6 else if s=[101,110,100]then 7 else if zb s≠0 then 5 else 0
def xQ(k:Int):Nat:=if k=6 then 4 else if k=7 then 5 else 6
def xP(k:Int):Nat:=if k=4\/k=5 then 3 else xQ k
def nxt(st:Nat)(k:Int):Nat:=
 if st=0 then(if k=1 then 1 else 6)
 else if st=1 then(if k=2 then 2 else 6)
 else if st=2 then(if k=3 then 2 else if k=5 then 6 else xP k)
 else if st=3 then xP k
 else if st=4 then xQ k
 else if k=3\/k=7 then 5 else 6
def zc(s:Str):ByteArray:=⟨s.toArray⟩
def stF(st:Nat):Nat:=if st=0 then 17 else if st=1 then 39 else if st=2 then 72 else if st=3 then 96 else if st=4 then 109 else 137
def stV(st:Nat):Value:=if st=6 then .nilFunc else .func (.func (stF st)) #[] #[]
theorem z7d{s:ByteArray}{L:Str}(h:s.data.toList=L):s=zc L:=by obtain⟨d⟩:=s;have:d.toList=L:=h;subst this;simp[zc]
theorem ze(L:Str):(zc L).data.toList=L:=by simp[zc]
theorem zw(L:Str):(zc L).size=L.length:=by simp[zc,ByteArray.size]
theorem z0q(k:Int)(w:World):Calls Tryz.prog 93 #[.int .i64 k] w fun e w'=>e=.returned (.string (zc (zo k)))/\w'=w:=by
 go_in;by_cases h1:k=1
 ·subst h1;go_wp2_with fail;go_ret;exact⟨rfl,rfl⟩
 by_cases h2:k=2
 ·subst h2;go_wp2_with fail;go_ret;exact⟨rfl,rfl⟩
 by_cases h3:k=3
 ·subst h3;go_wp2_with fail;go_ret;exact⟨rfl,rfl⟩
 by_cases h4:k=4
 ·subst h4;go_wp2_with fail;go_ret;exact⟨rfl,rfl⟩
 by_cases h5:k=5
 ·subst h5;go_wp2_with fail;go_ret;exact⟨rfl,rfl⟩
 by_cases h6:k=6
 ·subst h6;go_wp2_with fail;go_ret;exact⟨rfl,rfl⟩
 by_cases h7:k=7
 ·subst h7;go_wp2_with fail;go_ret;exact⟨rfl,rfl⟩
 rw[show zo k=[]from by unfold zo;rw[if_neg h1,if_neg h2,if_neg h3,if_neg h4,if_neg h5,if_neg h6,if_neg h7]];go_wp2_with fail;go_ret;exact⟨rfl,rfl⟩
theorem xd(k:Int)(w:World):Calls Tryz.prog 59 #[.int .i64 k] w fun e w'=>e=.returned (.string (zc (zn k)))/\w'=w:=by
 go_in;by_cases h1:k=1
 ·subst h1;go_wp2_with fail;go_ret;exact⟨rfl,rfl⟩
 by_cases h2:k=2
 ·subst h2;go_wp2_with fail;go_ret;exact⟨rfl,rfl⟩
 by_cases h3:k=3
 ·subst h3;go_wp2_with fail;go_ret;exact⟨rfl,rfl⟩
 by_cases h4:k=4
 ·subst h4;go_wp2_with fail;go_ret;exact⟨rfl,rfl⟩
 rw[show zn k=[]from by unfold zn;rw[if_neg h1,if_neg h2,if_neg h3,if_neg h4]];go_wp2_with fail;go_ret;exact⟨rfl,rfl⟩
theorem zaj(c:UInt8)(w:World):Calls Tryz.prog 74 #[.int .u8 (c.toNat:Int)] w fun e w'=>e=.returned (.bool (yC c))/\w'=w:=by
 have hc:=c.toNat_lt;unfold yC;generalize c.toNat=n at*
 go_in;by_cases h1:n=32
 ·subst h1;go_wp2_with fail;go_ret;exact⟨rfl,rfl⟩
 by_cases h2:n=9
 ·subst h2;go_wp2_with fail;go_ret;exact⟨rfl,rfl⟩
 rw[decide_eq_false h1,decide_eq_false h2];have h1':((n:Int)==32)=false:=Qb (by omega);have h2':((n:Int)==9)=false:=Qb (by omega);go_wp2_with fail;go_ret;exact⟨rfl,rfl⟩
theorem z5e{s:ByteArray}{L:Str}(h:s.data.toList≠L):((zc L).toList==s.toList)=false:=by rw[beq_eq_false_iff_ne,ByteArray.toList_eq,ByteArray.toList_eq,ze];exact fun e=>h e.symm
theorem yr{s:ByteArray}{L:Str}(h:s.data.toList≠L):(s.toList==L)=false:=by rw[beq_eq_false_iff_ne,ByteArray.toList_eq];exact h
theorem z6P{s:Str}{k:Nat}(h1:1<=k)(h2:k<=7)(h:s=zo k):zb s=k:=by subst h;obtain rfl|rfl|rfl|rfl|rfl|rfl|rfl:k=1\/k=2\/k=3\/k=4\/k=5\/k=6\/k=7:=(by omega);all_goals decide
theorem z6O{s:Str}(h:∀k:Nat,1<=k->k<8->s≠zo k):zb s=0:=by unfold zb;exact(if_neg (h 1 (by omega) (by omega))).trans ((if_neg (h 2 (by omega) (by omega))).trans ((if_neg (h 3 (by omega) (by omega))).trans ((if_neg (h 4 (by omega) (by omega))).trans ((if_neg (h 5 (by omega) (by omega))).trans ((if_neg (h 6 (by omega) (by omega))).trans (if_neg (h 7 (by omega) (by omega))))))))
theorem z1Y(s:ByteArray)(w:World):Calls Tryz.prog 77 #[.string s] w fun e w'=>e=.returned (.int .i64 (zb s.data.toList))/\w'=w:=by
 go_in;go_wp2_with fail;go_loopg[3] 7 (fun gq s3 wr=>∃k:Nat,gq+k=8/\1<=k/\s3=.int .i64 (k:Int)/\wr=w/\Hid (∀j:Nat,1<=j->j<k->s.data.toList≠zo j))
 case atStart=>exact⟨1,by omega,by omega,rfl,rfl,fun j h1 h2=>by omega⟩
 case round=>
  obtain⟨k,hgk,hk1,rfl,rfl,HN⟩:=hrel;by_cases hk:k<8
  ·have h7:(k:Int)<=7:=by omega
   by_cases he:s.data.toList=zo k
   ·have hcw:=Qh (z0q k wr);rw[<-z7d he]at hcw;go_wp2_with(go_at_call 93;refine hcw.out.mono ?_;rintro e w' ⟨rfl,hw⟩;obtain rfl:wr=w':=hw.symm);go_ret;exact⟨by rw[z6P hk1 (by omega) he];rfl,rfl⟩
   ·have hcw:=Qh (z0q k wr)
    have hne:=z5e he;go_wp2_with(go_at_call 93;refine hcw.out.mono ?_;rintro e w' ⟨rfl,hw⟩;obtain rfl:wr=w':=hw.symm);go_roundg(gk-1);all_goals first|omega|skip
    case rel=>exact⟨k+1,by omega,by omega,rfl,rfl,fun j h1 h2=>by
     rcases Nat.lt_or_ge j k with h|h
     ·exact HN.out j h1 h
     ·obtain rfl:j=k:=by omega
      exact he⟩
  ·obtain rfl:k=8:=(by omega);go_wp2_with fail;go_ret;exact⟨by rw[z6O HN.out];rfl,rfl⟩
theorem z5r{s:Str}{k:Nat}(h1:1<=k)(h2:k<=4)(h:s=zn k):zq s=k:=by subst h;obtain rfl|rfl|rfl|rfl:k=1\/k=2\/k=3\/k=4:=(by omega);all_goals decide
theorem z5q{s:Str}(h:∀k:Nat,1<=k->k<5->s≠zn k):zq s=0:=by unfold zq;exact(if_neg (h 1 (by omega) (by omega))).trans ((if_neg (h 2 (by omega) (by omega))).trans ((if_neg (h 3 (by omega) (by omega))).trans (if_neg (h 4 (by omega) (by omega)))))
theorem z3X(s:ByteArray)(w:World):Calls Tryz.prog 99 #[.string s] w fun e w'=>e=.returned (.int .i64 (zq s.data.toList))/\w'=w:=by
 go_in;go_wp2_with fail;go_loopg[3] 4 (fun gq s3 wr=>∃k:Nat,gq+k=5/\1<=k/\s3=.int .i64 (k:Int)/\wr=w/\Hid (∀j:Nat,1<=j->j<k->s.data.toList≠zn j))
 case atStart=>exact⟨1,by omega,by omega,rfl,rfl,fun j h1 h2=>by omega⟩
 case round=>
  obtain⟨k,hgk,hk1,rfl,rfl,HN⟩:=hrel;by_cases hk:k<5
  ·have h7:(k:Int)<=4:=by omega
   by_cases he:s.data.toList=zn k
   ·have hcw:=Qh (xd k wr);rw[<-z7d he]at hcw;go_wp2_with(go_at_call 59;refine hcw.out.mono ?_;rintro e w' ⟨rfl,hw⟩;obtain rfl:wr=w':=hw.symm);go_ret;exact⟨by rw[z5r hk1 (by omega) he];rfl,rfl⟩
   ·have hcw:=Qh (xd k wr)
    have hne:=z5e he;go_wp2_with(go_at_call 59;refine hcw.out.mono ?_;rintro e w' ⟨rfl,hw⟩;obtain rfl:wr=w':=hw.symm);go_roundg(gk-1);all_goals first|omega|skip
    case rel=>exact⟨k+1,by omega,by omega,rfl,rfl,fun j h1 h2=>by
     rcases Nat.lt_or_ge j k with h|h
     ·exact HN.out j h1 h
     ·obtain rfl:j=k:=by omega
      exact he⟩
  ·obtain rfl:k=5:=(by omega);go_wp2_with fail;go_ret;exact⟨by rw[z5q HN.out];rfl,rfl⟩
theorem zbO(s:ByteArray)(w:World):Calls Tryz.prog 45 #[.string s] w fun e w'=>e=.returned (.int .i64 (zk s.data.toList))/\w'=w:=by
 have HK:=Qh (z1Y s w);by_cases h1:s.data.toList=[112,108,97,121]
 ·have hl:s.toList=[112,108,97,121]:=(by rw[ByteArray.toList_eq];exact h1);have n1:(s.toList==[112,108,97,121])=true:=(by rw[hl];decide);have HR:=Qh (congrArg zk h1);clear hl h1;go_in;go_wp2_with fail;go_ret;exact⟨by rw[HR.out];rfl,rfl⟩
 by_cases h2:s.data.toList=[109,111,115,116]
 ·have hl:s.toList=[109,111,115,116]:=(by rw[ByteArray.toList_eq];exact h2);have n1:(s.toList==[112,108,97,121])=false:=(by rw[hl];decide);have n2:(s.toList==[109,111,115,116])=true:=(by rw[hl];decide);have HR:=Qh (congrArg zk h2);clear hl h1 h2;go_in;go_wp2_with fail;go_ret;exact⟨by rw[HR.out];rfl,rfl⟩
 by_cases h3:s.data.toList=[102,97,117,108,116]
 ·have hl:s.toList=[102,97,117,108,116]:=(by rw[ByteArray.toList_eq];exact h3);have n1:(s.toList==[112,108,97,121])=false:=(by rw[hl];decide);have n2:(s.toList==[109,111,115,116])=false:=(by rw[hl];decide);have n3:(s.toList==[102,97,117,108,116])=true:=(by rw[hl];decide);have HR:=Qh (congrArg zk h3);clear hl h1 h2 h3;go_in;go_wp2_with fail;go_ret;exact⟨by rw[HR.out];rfl,rfl⟩
 by_cases h4:s.data.toList=[116,97,115,107]
 ·have hl:s.toList=[116,97,115,107]:=(by rw[ByteArray.toList_eq];exact h4);have n1:(s.toList==[112,108,97,121])=false:=(by rw[hl];decide);have n2:(s.toList==[109,111,115,116])=false:=(by rw[hl];decide);have n3:(s.toList==[102,97,117,108,116])=false:=(by rw[hl];decide);have n4:(s.toList==[116,97,115,107])=true:=(by rw[hl];decide);have HR:=Qh (congrArg zk h4);clear hl h1 h2 h3 h4;go_in;go_wp2_with fail;go_ret;exact⟨by rw[HR.out];rfl,rfl⟩
 by_cases h5:s.data.toList=[112,105,99,107,115]
 ·have hl:s.toList=[112,105,99,107,115]:=(by rw[ByteArray.toList_eq];exact h5);have n1:(s.toList==[112,108,97,121])=false:=(by rw[hl];decide);have n2:(s.toList==[109,111,115,116])=false:=(by rw[hl];decide);have n3:(s.toList==[102,97,117,108,116])=false:=(by rw[hl];decide);have n4:(s.toList==[116,97,115,107])=false:=(by rw[hl];decide);have n5:(s.toList==[112,105,99,107,115])=true:=(by rw[hl];decide);have HR:=Qh (congrArg zk h5);clear hl h1 h2 h3 h4 h5;go_in;go_wp2_with fail;go_ret;exact⟨by rw[HR.out];rfl,rfl⟩
 by_cases h6:s.data.toList=[101,110,100]
 ·have hl:s.toList=[101,110,100]:=(by rw[ByteArray.toList_eq];exact h6);have n1:(s.toList==[112,108,97,121])=false:=(by rw[hl];decide);have n2:(s.toList==[109,111,115,116])=false:=(by rw[hl];decide);have n3:(s.toList==[102,97,117,108,116])=false:=(by rw[hl];decide);have n4:(s.toList==[116,97,115,107])=false:=(by rw[hl];decide);have n5:(s.toList==[112,105,99,107,115])=false:=(by rw[hl];decide);have n6:(s.toList==[101,110,100])=true:=(by rw[hl];decide);have HR:=Qh (congrArg zk h6);clear hl h1 h2 h3 h4 h5 h6;go_in;go_wp2_with fail;go_ret;exact⟨by rw[HR.out];rfl,rfl⟩
 have n1:=yr h1;have n2:=yr h2;have n3:=yr h3;have n4:=yr h4;have n5:=yr h5;have n6:=yr h6;have HR:=Qh (show zk s.data.toList=if zb s.data.toList≠0 then 5 else 0 from by
  unfold zk;exact(if_neg h1).trans ((if_neg h2).trans ((if_neg h3).trans ((if_neg h4).trans ((if_neg h5).trans (if_neg h6))))))
 clear h1 h2 h3 h4 h5 h6;go_in;by_cases hc:zb s.data.toList=0
 ·rw[hc]at HK;go_wp2_with(go_at_call 77;refine HK.mono ?_;rintro e w' ⟨rfl,hw⟩;obtain rfl:w=w':=hw.symm);go_ret;exact⟨by rw[HR.out,if_neg (by simp[hc])];rfl,rfl⟩
 ·have hc':=Qh hc
  have hc2:(zb s.data.toList==0)=false:=(by rw[beq_eq_false_iff_ne];exact hc);clear hc;generalize zb s.data.toList=c at*
  go_wp2_with(go_at_call 77;refine HK.mono ?_;rintro e w' ⟨rfl,hw⟩;obtain rfl:w=w':=hw.symm);go_ret;exact⟨by rw[HR.out,if_pos hc'.out];rfl,rfl⟩
def ya(n:Nat)(s:Str):Str:=s.takeWhile fun c=>decide (c.toNat≠n)
def yt(n:Nat)(s:Str):Str:=(s.dropWhile fun c=>decide (c.toNat≠n)).drop 1
def has(n:Nat)(s:Str):Bool:=s.any fun c=>decide (c.toNat=n)
theorem yA(n:Nat)(c:UInt8)(s:Str):ya n (c::s)=if c.toNat=n then[]else c::ya n s:=by unfold ya;by_cases h:c.toNat=n<;>simp[h]
theorem yG(n:Nat)(c:UInt8)(s:Str):yt n (c::s)=if c.toNat=n then s else yt n s:=by unfold yt;by_cases h:c.toNat=n<;>simp[h]
theorem qD(n:Nat)(c:UInt8)(s:Str):has n (c::s)=(decide (c.toNat=n)||has n s):=by simp[has]
theorem z4I(b:UInt8):∀s:Str,Lib.index s [b]=if has b.toNat s then((ya b.toNat s).length:Int)else-1
 |[]=>by simp[Lib.index,has]
 |c::s=>by
  have ih:=z4I b s;rw[qD,yA];unfold Lib.index;by_cases h:c.toNat=b.toNat
  ·have hcb:c=b:=UInt8.toNat_inj.1 h;subst hcb;simp
  ·have hcb:¬b=c:=fun e=>h (by rw[e])
   have hp:[b].isPrefixOf (c::s)=false:=(by simp[List.isPrefixOf,hcb]);rw[hp,ih];by_cases hs:has b.toNat s=true
   ·simp only[hs,Bool.or_true,if_true,h,decide_false,if_false,Bool.false_eq_true];have:((ya b.toNat s).length:Int)≠ -1:=(by omega);simp[this]
   ·have hs':has b.toNat s=false:=(by simpa using hs);simp[hs',h]
theorem xa(n:Nat):∀{s:Str},has n s=false->ya n s=s
 |[],_=>rfl
 |c::s,h=>by rw[qD]at h;have h1:¬c.toNat=n:=(by intro e;simp[e]at h);rw[yA,if_neg h1,xa n (by simpa[h1]using h)]
theorem z0J(n:Nat):∀{s:Str},has n s=false->yt n s=[]
 |[],_=>rfl
 |c::s,h=>by rw[qD]at h;have h1:¬c.toNat=n:=(by intro e;simp[e]at h);rw[yG,if_neg h1,z0J n (by simpa[h1]using h)]
theorem z3L(n:Nat):∀s:Str,s.take (ya n s).length=ya n s
 |[]=>rfl
 |c::s=>by
  rw[yA];split
  ·rfl
  ·simp[z3L n s]
theorem z2A(n:Nat):∀{s:Str},has n s=true->s.drop ((ya n s).length+1)=yt n s
 |[],h=>by simp[has]at h
 |c::s,h=>by
  rw[qD]at h;rw[yA,yG];by_cases h1:c.toNat=n
  ·rw[if_pos h1,if_pos h1];rfl
  ·rw[if_neg h1,if_neg h1];exact z2A n (s:=s) (by simpa[h1]using h)
theorem zdW(s:Str)(b:UInt8):Lib.cut s [b]=(ya b.toNat s,yt b.toNat s,has b.toNat s):=by
 unfold Lib.cut;rw[z4I];by_cases h:has b.toNat s=true
 ·rw[if_pos h,if_pos (by omega),Int.toNat_natCast];rw[z3L,List.length_singleton,z2A b.toNat h,h]
 ·have h':has b.toNat s=false:=(by simpa using h);rw[if_neg h,if_neg (by omega),xa _ h',z0J _ h',h']
theorem z0l(c:UInt8)(s:Str):zA (c::s)=if c.toNat=10 then[]::zA s else match zA s with
  |[]=>[[c]]
  |l::ls=>(c::l)::ls:=rfl
theorem z2f{s:Str}(h:s≠[]):zA s=ya 10 s::zA (yt 10 s):=by
 induction s with
 |nil=>exact absurd rfl h
 |cons c s ih=>
  rw[yA,yG,z0l];by_cases hc:c.toNat=10
  ·rw[if_pos hc,if_pos hc,if_pos hc]
  ·rw[if_neg hc,if_neg hc,if_neg hc]
   cases s with
   |nil=>rfl
   |cons d r=>rw[ih (by simp)]
theorem z0r(n:Nat):∀s:Str,s≠[]->(yt n s).length<s.length
 |[],h=>absurd rfl h
 |c::s,_=>by
  rw[yG];split
  ·simp
  ·cases s with
   |nil=>simp[yt]
   |cons d r=>have:=z0r n (d::r) (by simp);simp at this⊢;omega
theorem xB(n:Nat):∀s:Str,(ya n s).length<=s.length
 |[]=>Nat.le_refl _
 |c::s=>by
  rw[yA];split
  ·simp
  ·have:=xB n s;simp;omega
theorem z8S(s:Str):yn s=ya 35 s:=rfl
theorem z45{c:UInt8}{s cur:Str}(h:yC c=true)(hc:cur≠[]):wsp cur (c::s)=cur::wsp [] s:=by rw[wsp,if_pos h,if_neg hc]
theorem z6Y{c:UInt8}{s:Str}(h:yC c=true):wsp [] (c::s)=wsp [] s:=by rw[wsp,if_pos h,if_pos rfl]
theorem z5A{c:UInt8}{s cur:Str}(h:yC c=false):wsp cur (c::s)=wsp (cur++[c]) s:=by rw[wsp,if_neg (by simp[h])]
end Sc
end Go.Proofs.YtkkecpamnnojoaaGreatDoor
