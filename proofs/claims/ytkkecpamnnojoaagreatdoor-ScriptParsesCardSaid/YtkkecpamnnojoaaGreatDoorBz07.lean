/- A part of the proof of ScriptParses: nothing is assumed. By an AI agent. -/
import Derived.LaidEqlPtr
import Derived.Test.YtkkecpamnnojoaaGreatDoorBz06
import Derived.Test.YtkkecpamnnojoaaGreatDoorBz03
set_option linter.unusedVariables false
set_option linter.unusedSimpArgs false
set_option maxRecDepth 100000
set_option maxHeartbeats 32000000
namespace Go.Proofs.YtkkecpamnnojoaaGreatDoor.Us
def zeg(i:Nat):Bool:=decide (den ((i:Int)-343) (-lgp ((i:Int)-343))<=num ((i:Int)-343) (-lgp ((i:Int)-343)))&&decide (2048*num ((i:Int)-343) (-lgp ((i:Int)-343)-1)<=2047*den ((i:Int)-343) (-lgp ((i:Int)-343)-1))
theorem zdp:∀i:Fin 653,zeg i.val=true:=by decide+kernel
theorem z6k{p:Int}(h1:-343<=p)(h2:p<=309):den p (-lgp p)<=num p (-lgp p)/\2048*num p (-lgp p-1)<=2047*den p (-lgp p-1):=by have h:=zdp ⟨(p+343).toNat,by omega⟩;unfold zeg at h;simp only at h;rw[show(((p+343).toNat:Nat):Int)-343=p by omega]at h;simp only[Bool.and_eq_true,decide_eq_true_eq]at h;exact h
theorem zeP{p:Int}(h1:-343<=p)(h2:p<=309)(k:Int){j r:Nat}(h:(j:Int)-r=k+lgp p):2^j*den p k<=num p k*2^r:=by
 have a:=(z6k h1 h2).1;have s:=z0y p j r k (-lgp p) (by omega);have hd:=yE p (-lgp p);refine Nat.le_of_mul_le_mul_right ?_ hd
 calc 2^j*den p k*den p (-lgp p)=2^j*den p (-lgp p)*den p k:=Nat.mul_right_comm ..
  _<=2^j*num p (-lgp p)*den p k:=Nat.mul_le_mul_right _ (Nat.mul_le_mul_left _ a)
  _=num p k*(den p (-lgp p)*2^r):=s
  _=num p k*2^r*den p (-lgp p):=by ac_rfl
theorem zeQ{p:Int}(h1:-343<=p)(h2:p<=309)(k:Int){j r:Nat}(h:(j:Int)-r=k+lgp p+1):2048*(num p k*2^r)<=2047*(2^j*den p k):=by
 have a:=(z6k h1 h2).2;have s:=z0y p j r k (-lgp p-1) (by omega);have hd:=yE p (-lgp p-1);refine Nat.le_of_mul_le_mul_right ?_ hd;generalize num p (-lgp p-1)=N at*
 generalize den p (-lgp p-1)=D at*
 generalize num p k=A at*
 generalize den p k=B at*
 generalize 2^j=J at*
 generalize 2^r=R at*
 calc 2048*(A*R)*D=2048*(A*(D*R)):=by ac_rfl
  _=2048*(J*N*B):=by rw[s]
  _=2048*N*(J*B):=by ac_rfl
  _<=2047*D*(J*B):=Nat.mul_le_mul_right _ a
  _=2047*(J*B)*D:=by ac_rfl
def bl(d:Nat):Nat:=Lib.bitLen d
def pe(d:Nat)(p:Int):Int:=min 1074 (53-(bl d:Int)-lgp p)
def ps(d:Nat)(p:Int):Int:=-(pe d p-(64-(bl d:Int))+lgp p+3)
def pu(d:Nat)(p:Int):Nat:=usc (d*2^(64-bl d)) (ps d p).toNat (yK p) (qO p)
def psh(d:Nat)(p:Int):Nat:=if 36028797018963966<=pu d p then 1 else 0
def pu2(d:Nat)(p:Int):Nat:=if 36028797018963966<=pu d p then stk (pu d p/2) (decide (pu d p%2=1))else pu d p
theorem z8i{n d z:Nat}(hd:0<d):unr n d<=2*z↔n<=2*z*d:=by
 rcases xe (n:=n) hd with⟨q,h1,h2⟩|⟨q,h1,h2,h3⟩
 ·rw[h1,h2,z3h hd]
 ·rw[h1]
  constructor
  ·intro h;exact Nat.le_of_lt (Nat.lt_of_lt_of_le h3 (Nat.mul_le_mul_right d (show q+1<=2*z by omega)))
  ·intro h;have:q<2*z:=(ym hd).1 (Nat.lt_of_lt_of_le h2 h);omega
theorem z2F{n d z:Nat}(hd:0<d):unr n d<2*z↔n<2*z*d:=by
 rcases xe (n:=n) hd with⟨q,h1,h2⟩|⟨q,h1,h2,h3⟩
 ·rw[h1,h2,ym hd]
 ·rw[h1]
  constructor
  ·intro h;exact Nat.lt_of_lt_of_le h3 (Nat.mul_le_mul_right d (show q+1<=2*z by omega))
  ·intro h;have:q<2*z:=(ym hd).1 (Nat.lt_trans h2 h);omega
theorem zax{n d:Nat}(hd:0<d):unr n (2*d)=stk (unr n d/2) (decide (unr n d%2=1)):=by
 have hd2:0<2*d:=(by omega);have f:∀z,z*(2*d)=2*z*d:=fun z=>(by rw[Nat.mul_comm 2 d,<-Nat.mul_assoc,Nat.mul_right_comm,Nat.mul_comm z 2]);rcases xe (n:=n) hd with⟨q,h1,h2⟩|⟨q,h1,h2,h3⟩
 ·rw[h1]
  rcases xe (n:=n) hd2 with⟨q',h1',h2'⟩|⟨q',h1',h2',h3'⟩
  ·rw[f,h2]at h2';have:q=2*q':=Nat.eq_of_mul_eq_mul_right hd h2';rw[h1'];unfold stk;rw[if_neg (by simp<;>omega)];omega
  ·rw[f,h2]at h2';rw[f,h2]at h3';have a:=(ym hd).1 h2';have b:=(ym hd).1 h3';rw[h1'];unfold stk;rw[if_pos (by simp<;>omega)];omega
 ·rw[h1]
  rcases xe (n:=n) hd2 with⟨q',h1',h2'⟩|⟨q',h1',h2',h3'⟩
  ·rw[f]at h2';rw[h2']at h2 h3;have a:=(ym hd).1 h2;have b:=(ym hd).1 h3;omega
  ·rw[f]at h2' h3';have a:=(ym hd).1 (Nat.lt_trans h2' h3);have b:=(ym hd).1 (Nat.lt_trans h2 h3');rw[h1'];unfold stk;rw[if_pos (by simp<;>omega)];omega
theorem zb7{n d m:Nat}(hd:0<d)(hm:1<=m)(h0:m%2=0->(4*m-2)*d<=n/\n<=(4*m+2)*d)(h1:m%2=1->(4*m-2)*d<n/\n<(4*m+2)*d):rnd (unr n d)=m:=by
 have e1:4*m-2=2*(2*m-1):=(by omega);have e2:4*m+2=2*(2*m+1):=(by omega);rw[e1,e2]at h0 h1;have a:=z8i (n:=n) (z:=2*m-1) hd;have b:=z2F (n:=n) (z:=2*m-1) hd;have c:=z8i (n:=n) (z:=2*m+1) hd;have e:=z2F (n:=n) (z:=2*m+1) hd;unfold rnd;generalize unr n d=u at*
 by_cases hp:m%2=0
 ·have x:=h0 hp;have y:2*(2*m-1)<=u:=(by refine Nat.le_of_not_lt fun hlt=>?_;have:=b.1 hlt;omega);have z:u<=2*(2*m+1):=c.2 x.2;omega
 ·have x:=h1 (by omega);have y:2*(2*m-1)<u:=(by refine Nat.lt_of_not_le fun hle=>?_;have:=a.1 hle;omega);have z:u<2*(2*m+1):=e.2 x.2;omega
structure Flo (m0:Nat) (E:Int) (l:Nat):Prop where
 e0:-1074<=E
 e1:E<=971
 m1:1<=m0
 m2:m0<=9007199254740991
 nor:4503599627370496<=m0\/E= -1074
 l2:l=2\/(l=1/\m0=4503599627370496/\ -1074<E)
 lp:-1074<E->m0=4503599627370496->l=1
theorem zY{m0 d b:Nat}{E p:Int}{l:Nat}(F:Flo m0 E l)(hp1:-343<=p)(hp2:p<=309)(W:zV m0 E l d p)(hb1:2^(b-1)<=d)(hb2:d<2^b)(hb:1<=b):
  (b:Int)+lgp p<=53+E/\(4503599627370496<=m0->52+E<=(b:Int)+lgp p)/\(m0<4503599627370496->(b:Int)+lgp p<=52+E)/\E-2<(b:Int)+lgp p:=by
 have hl:l<=2/\1<=l:=(by rcases F.l2 with h|⟨h,-⟩<;>omega);have hm1:=F.m1;have hm2:=F.m2;have W':(4*m0-l)*den p (2-E)<=d*num p (2-E)/\d*num p (2-E)<=(4*m0+2)*den p (2-E):=by
  rcases Nat.mod_two_eq_zero_or_one m0 with h|h
  ·exact W.1 h
  ·exact⟨Nat.le_of_lt (W.2 h).1,Nat.le_of_lt (W.2 h).2⟩
 have hB:=yE p (2-E);have up:∀T:Nat,(4*m0+2<=2^T)->(m0%2=0->4*m0+2<2^T)->(b:Int)-1+(2-E+lgp p)<T:=by
  intro T hT hT2;obtain⟨j,r,hjr⟩:∃j r:Nat,(j:Int)-r=2-E+lgp p:=⟨(2-E+lgp p).toNat,(-(2-E+lgp p)).toNat,by omega⟩;have a:=zeP hp1 hp2 (2-E) hjr;have s1:2^(b-1+j)*den p (2-E)<=(4*m0+2)*den p (2-E)*2^r:=by
   calc 2^(b-1+j)*den p (2-E)=2^(b-1)*(2^j*den p (2-E)):=by rw[Nat.pow_add,Nat.mul_assoc]
    _<=d*(num p (2-E)*2^r):=Nat.mul_le_mul hb1 a
    _=d*num p (2-E)*2^r:=(Nat.mul_assoc ..).symm
    _<=(4*m0+2)*den p (2-E)*2^r:=Nat.mul_le_mul_right _ W'.2
  have s2:2^(b-1+j)<=(4*m0+2)*2^r:=(by refine Nat.le_of_mul_le_mul_right ?_ hB;rw[Nat.mul_right_comm];exact s1);have s3:2^(b-1+j)<2^(T+r):=by
   rcases Nat.lt_or_ge (4*m0+2) (2^T)with h|h
   ·refine Nat.lt_of_le_of_lt s2 ?_;rw[Nat.pow_add];exact Nat.mul_lt_mul_of_pos_right h (Nat.two_pow_pos r)
   ·--then m0 is odd and the reach is open
    have hodd:m0%2=1:=by
     rcases Nat.mod_two_eq_zero_or_one m0 with h0|h0
     ·have:=hT2 h0;omega
     ·exact h0
    have w:=(W.2 hodd).2;have s1':2^(b-1+j)*den p (2-E)<(4*m0+2)*den p (2-E)*2^r:=by
     calc 2^(b-1+j)*den p (2-E)=2^(b-1)*(2^j*den p (2-E)):=by rw[Nat.pow_add,Nat.mul_assoc]
      _<=d*(num p (2-E)*2^r):=Nat.mul_le_mul hb1 a
      _=d*num p (2-E)*2^r:=(Nat.mul_assoc ..).symm
      _<(4*m0+2)*den p (2-E)*2^r:=Nat.mul_lt_mul_of_pos_right w (Nat.two_pow_pos r)
    have s2':2^(b-1+j)<(4*m0+2)*2^r:=(by refine Nat.lt_of_mul_lt_mul_right (a:=den p (2-E)) ?_;rw[Nat.mul_right_comm (4*m0+2)];exact s1');refine Nat.lt_of_lt_of_le s2' ?_;rw[Nat.pow_add];exact Nat.mul_le_mul_right _ hT
  have s4:b-1+j<T+r:=(Nat.pow_lt_pow_iff_right (by decide)).1 s3;omega
 have dn:∀T:Nat,2047*2^T<2048*(4*m0-l)->(T:Int)<(b:Int)+(2-E+lgp p+1):=by
  intro T hT;refine Int.lt_of_not_ge fun hge=>?_;obtain⟨j,r,hjr⟩:∃j r:Nat,(j:Int)-r=2-E+lgp p+1:=⟨(2-E+lgp p+1).toNat,(-(2-E+lgp p+1)).toNat,by omega⟩;have a:=zeQ hp1 hp2 (2-E) hjr;have s1:2048*((4*m0-l)*2^r)*den p (2-E)<=2047*(2^(b+j))*den p (2-E):=by
   calc 2048*((4*m0-l)*2^r)*den p (2-E)=2048*((4*m0-l)*den p (2-E))*2^r:=by ac_rfl
    _<=2048*(d*num p (2-E))*2^r:=Nat.mul_le_mul_right _ (Nat.mul_le_mul_left _ W'.1)
    _=d*(2048*(num p (2-E)*2^r)):=by ac_rfl
    _<=d*(2047*(2^j*den p (2-E))):=Nat.mul_le_mul_left _ a
    _<=2^b*(2047*(2^j*den p (2-E))):=Nat.mul_le_mul_right _ (Nat.le_of_lt hb2)
    _=2047*(2^(b+j))*den p (2-E):=by rw[Nat.pow_add];ac_rfl
  have s2:=Nat.le_of_mul_le_mul_right s1 hB;have s3:2^(b+j)<=2^(T+r):=Nat.pow_le_pow_right (by decide) (by omega);have s4:2048*((4*m0-l)*2^r)<=2047*2^T*2^r:=(by refine Nat.le_trans s2 ?_;rw[Nat.mul_assoc,<-Nat.pow_add];exact Nat.mul_le_mul_left _ s3);rw[<-Nat.mul_assoc]at s4;have s5:=Nat.le_of_mul_le_mul_right s4 (Nat.two_pow_pos r);omega
 refine⟨?_,fun h=>?_,fun h=>?_,?_⟩
 ·have:=up 55 (by omega) (fun _=>by omega);omega
 ·have:=dn 54 (by omega);omega
 ·have:=up 54 (by omega) (fun _=>by omega);omega
 ·have:=dn 1 (by omega);omega
end Go.Proofs.YtkkecpamnnojoaaGreatDoor.Us
namespace Go.Proofs.YtkkecpamnnojoaaGreatDoor.Us
theorem zfp{d:Nat}{p:Int}(hp1:-343<=p)(hp2:p<=309)(h0:1<=d)(h57:d<144115188075855872)(hlow:-1076<(bl d:Int)+lgp p):
  pu d p=unr (d*num p (pe d p+2)) (den p (pe d p+2))/\8<=ps d p/\ps d p<=63/\1<=bl d/\bl d<=57/\2^(bl d-1)<=d/\d<2^bl d/\9223372036854775808<=d*2^(64-bl d)/\d*2^(64-bl d)<18446744073709551616:=by
 obtain⟨b1,b2,b3⟩:=qf (x:=d) (by omega) (by omega);have hb:bl d=Lib.bitLen d:=rfl;rw[<-hb]at b1 b2 b3;have hb57:bl d<=57:=(by refine Nat.le_of_not_lt fun h=>?_;have:2^57<=2^(bl d-1):=Nat.pow_le_pow_right (by decide) (by omega);have e57:(2:Nat)^57=144115188075855872:=(by decide);omega);have hx2:d*2^(64-bl d)<18446744073709551616:=(by have:d*2^(64-bl d)<2^bl d*2^(64-bl d):=Nat.mul_lt_mul_of_pos_right b2 (Nat.two_pow_pos _);rw[<-Nat.pow_add,show bl d+(64-bl d)=64 by omega]at this;exact this);have hx1:9223372036854775808<=d*2^(64-bl d):=(by have:2^(bl d-1)*2^(64-bl d)<=d*2^(64-bl d):=Nat.mul_le_mul_right _ b1;rw[<-Nat.pow_add,show bl d-1+(64-bl d)=63 by omega]at this;exact this);clear hb;have hpe:pe d p=min 1074 (53-(bl d:Int)-lgp p):=rfl;have hps:ps d p= -(pe d p-(64-(bl d:Int))+lgp p+3):=rfl;have hpu:pu d p=usc (d*2^(64-bl d)) (ps d p).toNat (yK p) (qO p):=rfl;generalize bl d=b at*
 generalize pe d p=e at*
 generalize ps d p=s at*
 refine⟨?_,by omega,by omega,b3,hb57,b1,b2,hx1,hx2⟩;rw[hpu];by_cases hc:53-(b:Int)-lgp p<=1074
 ·have he:e=53-(b:Int)-lgp p:=by omega
  have hs:s.toNat=8:=(by omega);rw[hs];have hX:d*2^(64-b)=d*2^(57-b)*2^7:=(by rw[Nat.mul_assoc,<-Nat.pow_add,show 57-b+7=64-b by omega]);have hX57:d*2^(57-b)<144115188075855872:=(by have:d*2^(57-b)<2^b*2^(57-b):=Nat.mul_lt_mul_of_pos_right b2 (Nat.two_pow_pos _);rw[<-Nat.pow_add,show b+(57-b)=57 by omega]at this;exact this);rw[z0N (p:=p) (k:=-2-lgp p) (X:=d*2^(57-b)) (j:=7) (s:=8) (t:=71) (by omega) (by omega) hX hx2 (by omega) (by omega) (by omega) (z9F hp1 hp2) hX57 (by omega)];refine z0O (yE _ _) (yE _ _) ?_;have sc:=z0y p (57-b) 0 (e+2) (-2-lgp p) (by omega);rw[Nat.pow_zero,Nat.mul_one]at sc
  calc d*2^(57-b)*num p (-2-lgp p)*den p (e+2)=d*(2^(57-b)*num p (-2-lgp p)*den p (e+2)):=by ac_rfl
   _=d*(num p (e+2)*den p (-2-lgp p)):=by rw[sc]
   _=d*num p (e+2)*den p (-2-lgp p):=(Nat.mul_assoc ..).symm
 ·have he:e=1074:=(by omega);have hp307:p<= -277:=(by unfold lgp at hc;omega);rw[z0N (p:=p) (k:=1076) (X:=d) (j:=64-b) (s:=s.toNat) (t:=72) (by omega) (by omega) rfl hx2 (by omega) (by omega) (by omega) (zdT (by omega) hp307) h57 (by omega)];rw[he];rfl
theorem zbl{m0 d:Nat}{E p:Int}{l:Nat}(F:Flo m0 E l)(hp1:-343<=p)(hp2:p<=309)(W:zV m0 E l d p)(h0:1<=d)(h57:d<144115188075855872):
  rnd (pu2 d p)=m0/\pe d p-psh d p= -E/\8<=ps d p/\ps d p<=63/\1<=bl d/\bl d<=57/\9223372036854775808<=d*2^(64-bl d)/\d*2^(64-bl d)<18446744073709551616:=by
 obtain⟨b1,b2,b3⟩:=qf (x:=d) (by omega) (by omega);have hbl:bl d=Lib.bitLen d:=rfl;rw[<-hbl]at b1 b2 b3;obtain⟨g1,g2,g3,g4⟩:=zY F hp1 hp2 W b1 b2 b3;have hE0:=F.e0;obtain⟨hpu,s1,s2,q1,q2,-,-,x1,x2⟩:=zfp hp1 hp2 h0 h57 (by omega);refine⟨?_,?_,s1,s2,q1,q2,x1,x2⟩<;>skip
 all_goals
  have hm1:=F.m1;have hm2:=F.m2;have hl:l<=2/\1<=l:=(by rcases F.l2 with h|⟨h,-⟩<;>omega);have hB:=yE p (2-E);have hpe:pe d p=min 1074 (53-(bl d:Int)-lgp p):=rfl;have hsub:m0<4503599627370496->E= -1074:=fun h=>(by rcases F.nor with h1|h1<;>omega);have hW:(m0%2=0->(4*m0-2)*den p (2-E)<=d*num p (2-E)/\d*num p (2-E)<=(4*m0+2)*den p (2-E))/\(m0%2=1->(4*m0-2)*den p (2-E)<d*num p (2-E)/\d*num p (2-E)<(4*m0+2)*den p (2-E)):=(by have hle:(4*m0-2)*den p (2-E)<=(4*m0-l)*den p (2-E):=Nat.mul_le_mul_right _ (by omega);exact⟨fun h=>⟨Nat.le_trans hle (W.1 h).1,(W.1 h).2⟩,fun h=>⟨Nat.lt_of_le_of_lt hle (W.2 h).1,(W.2 h).2⟩⟩);have hcase:(pe d p= -E/\pu2 d p=pu d p/\psh d p=0/\pu d p=unr (d*num p (2-E)) (den p (2-E)))\/(pe d p=1-E/\psh d p=1/\pu2 d p=unr (d*num p (2-E)) (den p (2-E))):=by
   by_cases hd:pe d p= -E
   ·left
    rw[show pe d p+2=2-E by omega]at hpu;have hlt:pu d p<36028797018963966:=by
     rw[hpu];refine(z2F (z:=18014398509481983) hB).2 ?_;by_cases hmm:m0=9007199254740991
     ·have:=(hW.2 (by omega)).2;rw[hmm]at this;exact this
     ·have h4:d*num p (2-E)<=(4*m0+2)*den p (2-E):=by
       rcases Nat.mod_two_eq_zero_or_one m0 with h|h
       ·exact(hW.1 h).2
       ·exact Nat.le_of_lt (hW.2 h).2
      exact Nat.lt_of_le_of_lt h4 ((Nat.mul_lt_mul_right hB).2 (by omega))
    refine⟨hd,?_,?_,hpu⟩
    ·unfold pu2;rw[if_neg (by omega)]
    ·unfold psh;rw[if_neg (by omega)]
   ·right
    have hm52:4503599627370496<=m0:=(by refine Nat.le_of_not_lt fun h=>?_;have:=hsub h;have:=g3 h;omega);have g2':=g2 hm52;have hd1:pe d p=1-E:=(by omega);have hE1:-1074<E:=(by omega);have hr:pu d p=unr (2*(d*num p (2-E))) (den p (2-E)):=by
     rw[hpu,show pe d p+2=3-E by omega];refine z0O (yE _ _) hB ?_;have sc:=z0y p 1 0 (3-E) (2-E) (by omega);rw[Nat.pow_zero,Nat.mul_one,Nat.pow_one]at sc
     calc d*num p (3-E)*den p (2-E)=d*(num p (3-E)*den p (2-E)):=Nat.mul_assoc ..
      _=d*(2*num p (2-E)*den p (3-E)):=by rw[sc]
      _=2*(d*num p (2-E))*den p (3-E):=by ac_rfl
    have hge:36028797018963966<=pu d p:=by
     rw[hr];refine Nat.le_of_not_lt fun hlt=>?_;have h5:=(z2F (z:=18014398509481983) hB).1 hlt;have h6:18014398509481983*den p (2-E)<=d*num p (2-E):=by
      by_cases hmm:m0=4503599627370496
      ·have hl1:=F.lp hE1 hmm;have:=(W.1 (by omega)).1;rw[hmm,hl1]at this;exact this
      ·have h4:(4*m0-2)*den p (2-E)<=d*num p (2-E):=by
        rcases Nat.mod_two_eq_zero_or_one m0 with h|h
        ·exact(hW.1 h).1
        ·exact Nat.le_of_lt (hW.2 h).1
       exact Nat.le_trans (Nat.mul_le_mul_right _ (by omega)) h4
     rw[Nat.mul_assoc]at h5;omega
    refine⟨hd1,?_,?_⟩
    ·unfold psh;rw[if_pos hge]
    ·unfold pu2;rw[if_pos hge,hr,<-zax hB];refine z0O (by omega) hB ?_;ac_rfl
 ·rcases hcase with⟨-,c1,-,c2⟩|⟨-,-,c1⟩
  ·rw[c1,c2];exact zb7 hB hm1 hW.1 hW.2
  ·rw[c1];exact zb7 hB hm1 hW.1 hW.2
 ·rcases hcase with⟨c1,-,c2,-⟩|⟨c1,c2,-⟩<;>omega
end Go.Proofs.YtkkecpamnnojoaaGreatDoor.Us
namespace Go.Proofs.YtkkecpamnnojoaaGreatDoor
open Go.ChangeShapes Go.WideShapes Go.ChangeAt Go.RowKit
open Bt
end Go.Proofs.YtkkecpamnnojoaaGreatDoor
namespace Go.Proofs.YtkkecpamnnojoaaGreatDoor.Us
def clr(m:Nat):Nat:=m-4503599627370496*(m/4503599627370496%2)
def pkR(m:Nat)(e:Int):Nat:=if m/4503599627370496%2=0 then m else if 972<=e then(9223372036854775808*(m/9223372036854775808%2))|||9218868437227405312 else clr m|||(4503599627370496*(1075+e).toNat)
def pkE(m:Nat)(e:Int):Bool:=!(decide (m/4503599627370496%2=0))&&decide (972<=e)
end Go.Proofs.YtkkecpamnnojoaaGreatDoor.Us
namespace Go.Proofs.YtkkecpamnnojoaaGreatDoor
open Go.ChangeShapes Go.WideShapes Go.ChangeAt Go.RowKit
open Bt
theorem xv{a:Nat}(h:a<18446744073709551616):(BitVec.ofInt 64 (a:Int)).toNat=a:=by rw[BitVec.ofInt_natCast,BitVec.toNat_ofNat];exact Nat.mod_eq_of_lt (by omega)
theorem z2c{a b:Nat}(ha:a<18446744073709551616)(hb:b<18446744073709551616):bits BinOp.or IntKind.u64 (a:Int) (b:Int)=((a|||b:Nat):Int):=by show IntKind.u64.wrap ((BitVec.ofInt 64 (a:Int)|||BitVec.ofInt 64 (b:Int)).toNat:Int)=_;have:a|||b<2^64:=Nat.or_lt_two_pow (by omega) (by omega);rw[BitVec.toNat_or,xv ha,xv hb,IntKind.wrap_u64];omega
theorem z0s(a k:Nat):a&&&2^k=a/2^k%2*2^k:=by
 apply Nat.eq_of_testBit_eq;intro i;rw[Nat.testBit_and,Nat.testBit_two_pow];have hk:a.testBit k=decide (a/2^k%2=1):=Nat.testBit_eq_decide_div_mod_eq;by_cases hi:k=i
 ·subst hi
  rw[hk];rcases Nat.mod_two_eq_zero_or_one (a/2^k)with h|h
  ·rw[h];simp
  ·rw[h,Nat.one_mul,Nat.testBit_two_pow];simp
 ·rw[decide_eq_false hi,Bool.and_false]
  rcases Nat.mod_two_eq_zero_or_one (a/2^k)with h|h
  ·rw[h];simp
  ·rw[h,Nat.one_mul,Nat.testBit_two_pow,decide_eq_false hi]
theorem zfd{a:Nat}(ha:a<18446744073709551616):bits BinOp.and IntKind.u64 (a:Int) 4503599627370496=((4503599627370496*(a/4503599627370496%2):Nat):Int):=by show IntKind.u64.wrap ((BitVec.ofInt 64 (a:Int)&&&BitVec.ofInt 64 4503599627370496).toNat:Int)=_;have h2:(BitVec.ofInt 64 4503599627370496).toNat=2^52:=(by decide);rw[BitVec.toNat_and,xv ha,h2,z0s,IntKind.wrap_u64];have e:(2:Nat)^52=4503599627370496:=(by decide);rw[e];omega
theorem zfc{a:Nat}(ha:a<18446744073709551616):bits BinOp.and IntKind.u64 (a:Int) 9223372036854775808=((9223372036854775808*(a/9223372036854775808%2):Nat):Int):=by show IntKind.u64.wrap ((BitVec.ofInt 64 (a:Int)&&&BitVec.ofInt 64 9223372036854775808).toNat:Int)=_;have h2:(BitVec.ofInt 64 9223372036854775808).toNat=2^63:=(by decide);rw[BitVec.toNat_and,xv ha,h2,z0s,IntKind.wrap_u64];have e:(2:Nat)^63=9223372036854775808:=(by decide);rw[e];omega
theorem zcJ(a k:Nat):a^^^(a&&&2^k)=a-(a&&&2^k):=by
 have h:(a-(a&&&2^k))+(a&&&2^k)=a:=Nat.sub_add_cancel Nat.and_le_left;have hd:(a-(a&&&2^k))&&&(a&&&2^k)=0\/True:=Or.inr trivial;apply Nat.eq_of_testBit_eq;intro i;rw[z0s];rcases Nat.mod_two_eq_zero_or_one (a/2^k)with hb|hb
 ·rw[hb];simp
 ·rw[hb,Nat.one_mul]
  have e:a=(a-2^k)|||2^k\/True:=Or.inr trivial;have hk:a/2^k%2=1:=hb;obtain⟨q,r,hr,ha⟩:∃q r,r<2^k/\a=2^(k+1)*q+(2^k+r):=by
   refine⟨a/2^k/2,a%2^k,Nat.mod_lt _ (Nat.two_pow_pos k),?_⟩;have h1:=Nat.div_add_mod a (2^k);have h2:=Nat.div_add_mod (a/2^k) 2;rw[hk]at h2;rw[Nat.pow_succ,Nat.mul_assoc]
   calc a=2^k*(a/2^k)+a%2^k:=h1.symm
    _=2^k*(2*(a/2^k/2)+1)+a%2^k:=by rw[h2]
    _=2^k*(2*(a/2^k/2))+(2^k+a%2^k):=by rw[Nat.mul_add,Nat.mul_one,Nat.add_assoc]
  have hs:a-2^k=2^(k+1)*q+r:=(by omega);have hlt1:2^k+r<2^(k+1):=(by rw[Nat.pow_succ];omega);have hlt2:r<2^(k+1):=(by rw[Nat.pow_succ];omega);rw[hs,ha,Nat.testBit_xor,Nat.testBit_two_pow,Nat.testBit_two_pow_mul_add _ hlt1,Nat.testBit_two_pow_mul_add _ hlt2];by_cases hi:i<k+1
  ·rw[if_pos hi,if_pos hi]
   have e2:2^k+r=2^k*1+r:=(by rw[Nat.mul_one]);rw[e2,Nat.testBit_two_pow_mul_add _ hr];by_cases hik:i<k
   ·rw[if_pos hik];have:decide (k=i)=false:=(by rw[decide_eq_false_iff_not];omega);rw[this,Bool.xor_false]
   ·rw[if_neg hik];obtain rfl:i=k:=(by omega);have:r.testBit i=false:=Nat.testBit_lt_two_pow hr;rw[this];simp
  ·rw[if_neg hi,if_neg hi];have:decide (k=i)=false:=(by rw[decide_eq_false_iff_not];omega);rw[this];simp
theorem zap{a:Nat}(ha:a<18446744073709551616):bits BinOp.andNot IntKind.u64 (a:Int) 4503599627370496=((Us.clr a:Nat):Int):=by show IntKind.u64.wrap ((BitVec.ofInt 64 (a:Int)&&&~~~ BitVec.ofInt 64 4503599627370496).toNat:Int)=_;have h1:(BitVec.ofInt 64 (a:Int)&&&~~~ BitVec.ofInt 64 4503599627370496)=BitVec.ofInt 64 (a:Int)^^^(BitVec.ofInt 64 (a:Int)&&&BitVec.ofInt 64 4503599627370496):=(by generalize BitVec.ofInt 64 (a:Int)=x;generalize BitVec.ofInt 64 4503599627370496=y;apply BitVec.eq_of_getLsbD_eq;intro i hi;rw[BitVec.getLsbD_and,BitVec.getLsbD_xor,BitVec.getLsbD_and,BitVec.getLsbD_not,decide_eq_true hi];cases x.getLsbD i<;>cases y.getLsbD i<;>rfl);have h2:(BitVec.ofInt 64 4503599627370496).toNat=2^52:=(by decide);rw[h1,BitVec.toNat_xor,BitVec.toNat_and,xv ha,h2,zcJ,z0s,IntKind.wrap_u64];unfold Us.clr;have e:(2:Nat)^52=4503599627370496:=(by decide);rw[e];omega
theorem zf7{a:Nat}(ha:a<18446744073709551616):Us.clr a<18446744073709551616:=by unfold Us.clr;omega
def z2B(b:Bool):Value:=if b then .iface 184 (.int .i64 1)else .nilIface
theorem zb8{a b:Nat}{c d:Value}(h:a=b)(h2:c=d):Ending.returned (.tuple #[.float .f64 a,c])=.returned (.tuple #[.float .f64 b,d]):=by rw[h,h2]
theorem zbm(m:Nat)(e:Int)(hm:m<18446744073709551616)(h0:-1074<=e)(h1:e<=4000)(w:World):
  Calls Tryz.prog 198 #[.int .u64 (m:Int),.int .i64 e] w fun en w'=>en=.returned (.tuple #[.float .f64 (Us.pkR m e),z2B (Us.pkE m e)])/\w=w':=by
 have e1:=zfd hm;have e2:=zfc hm;have e3:=zap hm;have hc:=zf7 hm;by_cases hz:m/4503599627370496%2=0
 ·have hR:Us.pkR m e=m/\Us.pkE m e=false:=by
   unfold Us.pkR Us.pkE;rw[if_pos hz,decide_eq_true hz];exact⟨rfl,rfl⟩
  rw[hR.1,hR.2];have f1:∀w:World,(callFunc 190 #[.int .u64 (m:Int)]).run Tryz.prog w=.ok (.value (.float .f64 m)) w:=fun w=>qn m w;rw[hz,Nat.mul_zero]at e1;clear hz hR e2 e3 hc;go_in;go_wp2_with fail;go_ret2;exact⟨rfl,rfl⟩
 ·have hz1:m/4503599627370496%2=1:=by omega
  have hv:4503599627370496*(m/4503599627370496%2)≠0:=(by omega);obtain⟨v,hvv⟩:∃v,v=4503599627370496*(m/4503599627370496%2):=⟨_,rfl⟩;rw[<-hvv]at e1 hv;have e1':((v:Int)==0)=false:=Qb (by omega);have e1'':(v==0)=false:=(by rw[beq_eq_false_iff_ne];exact hv);clear hv hvv;by_cases he:972<=e
  ·have hR:Us.pkR m e=(9223372036854775808*(m/9223372036854775808%2))|||9218868437227405312/\Us.pkE m e=true:=by
    unfold Us.pkR Us.pkE;rw[if_neg hz,if_pos he,decide_eq_false hz,decide_eq_true he];exact⟨rfl,rfl⟩
   rw[hR.1,hR.2];have hs:9223372036854775808*(m/9223372036854775808%2)<18446744073709551616:=(by omega);have e4:=z2c (a:=9223372036854775808*(m/9223372036854775808%2)) (b:=9218868437227405312) hs (by decide);generalize 9223372036854775808*(m/9223372036854775808%2)=sg at*
   generalize hx:sg|||9218868437227405312=x at*
   have f1:∀w:World,(callFunc 190 #[.int .u64 (x:Int)]).run Tryz.prog w=.ok (.value (.float .f64 x)) w:=fun w=>qn x w;have d1:decide (e>=972)=true:=decide_eq_true he;have d2:decide (972<=e)=true:=decide_eq_true he;have e4':bits BinOp.or IntKind.u64 (sg:Int) 9218868437227405312=(x:Int):=e4;clear hz hz1 hR e3 hs hx e4 hc;go_in;go_wp2_with fail;go_ret2;exact⟨rfl,rfl⟩
  ·have hR:Us.pkR m e=Us.clr m|||(4503599627370496*(1075+e).toNat)/\Us.pkE m e=false:=by
    unfold Us.pkR Us.pkE;rw[if_neg hz,if_neg he,decide_eq_false hz,decide_eq_false he];exact⟨rfl,rfl⟩
   rw[hR.1,hR.2];obtain⟨k,hk⟩:∃k:Nat,1075+e=(k:Int):=⟨(1075+e).toNat,by omega⟩;have hk2:(1075+e).toNat=k:=(by omega);rw[hk2];have e4:=z2c (a:=Us.clr m) (b:=4503599627370496*k) hc (by omega);have w1:wrap64 (1075+e)=(k:Int):=(by unfold wrap64;omega);have w2:IntKind.u64.wrap (k:Int)=(k:Int):=(by rw[IntKind.wrap_u64];omega);have w3:IntKind.u64.wrap ((k:Int)*4503599627370496)=((4503599627370496*k:Nat):Int):=(by rw[IntKind.wrap_u64];omega);have hke:((4503599627370496*k:Nat):Int)=(1075+e)*4503599627370496:=(by omega);have e5:bits BinOp.or IntKind.u64 ((Us.clr m:Nat):Int) ((1075+e)*4503599627370496)=((Us.clr m|||4503599627370496*k:Nat):Int):=(by rw[<-hke];exact e4);clear hke;generalize Us.clr m=cm at*
   generalize hkk:4503599627370496*k=kk at*
   generalize hx:cm|||kk=x at*
   have f1:∀w:World,(callFunc 190 #[.int .u64 (x:Int)]).run Tryz.prog w=.ok (.value (.float .f64 x)) w:=fun w=>qn x w;have d1:decide (e>=972)=false:=decide_eq_false he;have d2:decide (972<=e)=false:=decide_eq_false he;clear hz hz1 hR e2 hx hc hk hk2 hkk;go_in;go_wp2_with fail;go_ret2;exact⟨rfl,rfl⟩
end Go.Proofs.YtkkecpamnnojoaaGreatDoor
namespace Go.Proofs.YtkkecpamnnojoaaGreatDoor.Us
def pfR(d:Nat)(p:Int)(sg:Nat):Nat:=if 64<=ps d p then sg else pkR (sg|||rnd (pu2 d p)) (-(pe d p-psh d p))
def pfE(d:Nat)(p:Int)(sg:Nat):Bool:=if 64<=ps d p then false else pkE (sg|||rnd (pu2 d p)) (-(pe d p-psh d p))
end Go.Proofs.YtkkecpamnnojoaaGreatDoor.Us
namespace Go.Proofs.YtkkecpamnnojoaaGreatDoor
open Go.ChangeShapes Go.WideShapes Go.ChangeAt Go.RowKit
open Bt
theorem z48(w:World):Calls Tryz.prog 160 #[.int .u64 9007199254740992] w fun e w'=>e=.returned (.int .u64 36028797018963966)/\w'=w:=by go_in;go_wp2;go_ret;exact⟨rfl,rfl⟩
theorem z6R(b:Bool)(w:World):Calls Tryz.prog 146 #[.bool b] w fun e w'=>e=.returned (.int .i64 ((b.toNat:Nat):Int))/\w'=w:=by cases b<;>(go_in;go_wp2;go_ret;exact⟨rfl,rfl⟩)
theorem z7E(d:Nat)(p:Int)(sg:Nat)(w:World)(h0:1<=d)(h1:d<18446744073709551616)(hp0:-345<=p)(hp1:p<=310)(hsg:sg=0\/sg=9223372036854775808)(hT:z0t w)(hg:6<w.heap.size):
  Calls Tryz.prog 192 #[.int .u64 (d:Int),.int .i64 p,.int .u64 (sg:Int)] w fun en w'=>en=.returned (.tuple #[.float .f64 (Us.pfR d p sg),z2B (Us.pfE d p sg)])/\Below w.heap.size w w':=by
 obtain⟨b1,b2,b3⟩:=Us.qf (x:=d) (by omega) (by omega);have hlp:=fun w=>z6l p w (by omega) (by omega);have hlr:-1200<=Us.lgp p/\Us.lgp p<=1200:=(by unfold Us.lgp;omega);have hLen:∀w,Calls Tryz.prog 128 #[.int .u64 (d:Int)] w fun e w'=>e=.returned (.int .i64 ((Lib.bitLen d:Nat):Int))/\w'=w:=fun w=>(by simpa using Tryz.bits_Len64 ((d:Nat):Int) w (by omega) (by omega));have hpm:=Us.z4p (p:=p) (by omega) (by omega);have hb64:Lib.bitLen d<=64:=(by refine Nat.le_of_not_lt fun h=>?_;have:2^64<=2^(Lib.bitLen d-1):=Nat.pow_le_pow_right (by decide) (by omega);have e64:(2:Nat)^64=18446744073709551616:=(by decide);omega);have hbl:Us.bl d=Lib.bitLen d:=rfl;have hpe:Us.pe d p=min 1074 (53-(Us.bl d:Int)-Us.lgp p):=rfl;have hps:Us.ps d p= -(Us.pe d p-(64-(Us.bl d:Int))+Us.lgp p+3):=rfl;rw[hbl]at hpe hps;have HLP:=Qh hlp;have HLEN:=Qh hLen;clear hlp hLen;have hnew:z2D (w.alloc (.cells (scA 0 0 0) 201)) w.heap.size 0 0 0:=zm _ _;have hPo:z0t (w.alloc (.cells (scA 0 0 0) 201)):=fun i hi=>⟨by rw[World.cell?_alloc_past _ _ _ hg];exact(hT i hi).1,by rw[World.cell?_alloc_past _ _ _ hg];exact(hT i hi).2⟩;have hpr:=qj w.heap.size 0 0 0 (Us.pe d p-(64-(Lib.bitLen d:Int))) p (Us.lgp p) _ hnew (by omega) hPo (by omega) (by omega) (by omega) (by omega);rw[<-hps]at hpr;have HPr:=Qh hpr;clear hnew hPo hpr;have HW:=Qh (Qa hT hg);clear hT hg;generalize Lib.bitLen d=b at*
 generalize hlpv:Us.lgp p=lp at*
 obtain⟨e0,he0⟩:∃e0,e0=53-(b:Int)-lp:=⟨_,rfl⟩;have he0':53-(b:Int)-lp=e0:=he0.symm;rw[<-he0]at hpe;have he1:-2000<=e0:=(by omega);have he2:e0<=2000:=(by omega);have hpe1:-2000<=Us.pe d p:=(by omega);have hpe2:Us.pe d p<=1074:=(by omega);have hmin:min (1074:Int) e0=Us.pe d p:=hpe.symm;have hpsr:8<=Us.ps d p:=(by omega);have HE:=Qh (Qa he0 (Qa hpe hps));clear he0 hpe hps;have hl1:=hlr.1;have hl2:=hlr.2;by_cases h64:64<=Us.ps d p
 ·have hR:Us.pfR d p sg=sg/\Us.pfE d p sg=false:=by
   unfold Us.pfR Us.pfE;rw[if_pos h64,if_pos h64];exact⟨rfl,rfl⟩
  rw[hR.1,hR.2];have hso:bits BinOp.or IntKind.u64 (sg:Int) 0=(sg:Int):=or_zero sg (by omega);have f1:∀w:World,(callFunc 190 #[.int .u64 (sg:Int)]).run Tryz.prog w=.ok (.value (.float .f64 sg)) w:=fun w=>qn sg w;clear hR;go_in;go_wp2_with fail;refine(HLEN.out _).mono ?_;rintro en w' ⟨rfl,hw⟩;obtain rfl:w=w':=hw.symm;go_wp2_with fail;refine(HLP.out _).mono ?_;rintro en w' ⟨rfl,hw⟩;obtain rfl:w=w':=hw.symm;go_wp2_with fail;refine(HPr.out).mono ?_;rintro en w1 ⟨rfl,hsc,hk⟩;have hb1:Below w.heap.size w w1:=((Keep.alloc (Keep.refl (fun _=>False) w) _).own hk (fun i hi=>Or.inr (by subst hi;exact Nat.le_refl _))).none;have H1:=Qh hb1;have c2:=za hsc 2;unfold scA at c2;simp at c2;have d1:decide (64<=Us.ps d p)=true:=decide_eq_true h64;clear hsc hk hb1 HPr;go_wp2_with fail;go_ret2;exact⟨rfl,H1.out⟩
 ·obtain⟨s,hs⟩:∃s:Nat,Us.ps d p=(s:Int):=⟨(Us.ps d p).toNat,by omega⟩
  obtain⟨x,hxv⟩:∃x,x=d*2^(64-b):=⟨_,rfl⟩;have hx2:x<18446744073709551616:=(by have:d*2^(64-b)<2^b*2^(64-b):=Nat.mul_lt_mul_of_pos_right b2 (Nat.two_pow_pos _);rw[<-Nat.pow_add,show b+(64-b)=64 by omega,<-hxv]at this;exact this);have hxw:IntKind.u64.wrap ((d:Int)*2^(64-b))=(x:Int):=(by have:((d:Int)*2^(64-b))=(x:Int):=(by rw[hxv];push_cast;rfl);rw[this,IntKind.wrap_u64];omega);have hs8:8<=s/\s<64:=(by omega);have hpu:Us.pu d p=Us.usc x s (Us.yK p) (Us.qO p):=(by unfold Us.pu;rw[hbl,<-hxv,hs,Int.toNat_natCast]);have husm:Us.pu d p<144115188075855872:=by
   rw[hpu];have k1:x*Us.yK p<18446744073709551616*18446744073709551616:=Nat.mul_lt_mul'' hx2 hpm.1;have hq:x*Us.yK p/18446744073709551616<18446744073709551616:=(by omega);unfold Us.usc;generalize x*Us.yK p/18446744073709551616=hh at*
   have p5:2^8<=2^s:=Nat.pow_le_pow_right (by omega) hs8.1;have key:∀a,a<18446744073709551616->∀c,Us.stk (a/2^s) c<144115188075855872:=(by intro a ha c;have:=Us.z0g (a/2^s) c;have l1:a/2^s<=a/2^8:=Nat.div_le_div_left p5 (by decide);omega);by_cases hr:hh%2^s≠0
   ·simp only[if_pos hr];exact key _ hq _
   ·simp only[if_neg hr];refine key _ ?_ _;split<;>omega
  have HX:=Qh (Qa hx2 hs8);obtain⟨r,hr⟩:∃r,r=Us.rnd (Us.pu2 d p):=⟨_,rfl⟩;have hu2:Us.pu2 d p<144115188075855872:=by
   unfold Us.pu2;split
   ·have:=Us.z0g (Us.pu d p/2) (decide (Us.pu d p%2=1));omega
   ·exact husm
  have hr2:r<72057594037927936:=(by rw[hr];unfold Us.rnd;omega);have hR:Us.pfR d p sg=Us.pkR (sg|||r) (-(Us.pe d p-Us.psh d p))/\Us.pfE d p sg=Us.pkE (sg|||r) (-(Us.pe d p-Us.psh d p)):=(by unfold Us.pfR Us.pfE;rw[if_neg h64,if_neg h64,hr];exact⟨rfl,rfl⟩);rw[hR.1,hR.2];have hsor:=z2c (a:=sg) (b:=r) (by omega) (by omega);have hsl:sg|||r<18446744073709551616:=Nat.or_lt_two_pow (n:=64) (by omega) (by omega);have hsh1:Us.psh d p<=1:=(by unfold Us.psh;split<;>omega);have HPK:=Qh (zbm (sg|||r) (-(Us.pe d p-Us.psh d p)) hsl (by omega) (by omega));have HRN:=Qh (fun w=>xw (Us.pu2 d p) w (by omega));have hrn:(Us.pu2 d p+1+Us.pu2 d p/4%2)/4=r:=hr.symm;rw[hrn]at HRN;rw[hs]at HPr;have h64':¬64<=(s:Int):=(by omega);have d1:decide (64<=(s:Int))=false:=decide_eq_false h64';generalize sg|||r=sr at*
  clear hR hsl hr hrn hxv h64 h64' hs8 hs hpsr;have HB:=Qh (Qa b1 (Qa b2 hpm));clear b1 b2 hpm hbl hlpv hx2;go_in;go_wp2_with fail;refine(HLEN.out _).mono ?_;rintro en w' ⟨rfl,hw⟩;obtain rfl:w=w':=hw.symm;go_wp2_with fail;refine(HLP.out _).mono ?_;rintro en w' ⟨rfl,hw⟩;obtain rfl:w=w':=hw.symm;go_wp2_with fail;refine(HPr.out).mono ?_;rintro en w1 ⟨rfl,hsc,hk⟩;have hb1:Below w.heap.size w w1:=((Keep.alloc (Keep.refl (fun _=>False) w) _).own hk (fun i hi=>Or.inr (by subst hi;exact Nat.le_refl _))).none;have H1:=Qh (Qa hsc hb1);have c2:=za hsc 2;unfold scA at c2;simp at c2;clear hsc hk hb1 HPr;go_wp2_with fail;have HUS:=z2Q x s (Us.yK p) (Us.qO p) w.heap.size w1 H1.1 HX.1 HB.2.2.1 HB.2.2.2.1 HX.2.2;rw[<-hpu]at HUS;refine HUS.mono ?_;rintro en w2 ⟨rfl,n2,hw⟩;subst hw;have H2:=Qh (zv H1.2 n2);clear H1 c2 HUS hpu;generalize w1.drewN n2=w2 at*
  obtain⟨u,hu⟩:∃u,u=Us.pu d p:=⟨_,rfl⟩;have hp2:Us.pu2 d p=if 36028797018963966<=u then Us.stk (u/2) (decide (u%2=1))else u:=(by rw[hu];rfl);have hps:Us.psh d p=if 36028797018963966<=u then 1 else 0:=(by rw[hu];rfl);rw[<-hu]at husm⊢
  generalize Us.pu2 d p=u2 at*
  obtain⟨sh,hshv⟩:∃sh,sh=Us.psh d p:=⟨_,rfl⟩;rw[<-hshv]at HPK hps;have HSV:=Qh hshv;clear hshv;clear hu;clear hxw he0' hmin;have hu64:u<18446744073709551616:=Nat.lt_trans husm (by decide);have hu642:u/2<18446744073709551616:=(by omega);have ha1:bits BinOp.and IntKind.u64 (u:Int) 1=((u%2:Nat):Int):=Sm.z6T u hu64;have hct:((decide (u%2=1)).toNat:Nat)=u%2:=(by rcases Nat.mod_two_eq_zero_or_one u with h|h<;>rw[h]<;>rfl);by_cases hc:36028797018963966<=u
  ·rw[if_pos hc]at hp2 hps;have ho:=z7G (u/2) hu642 (decide (u%2=1));rw[hct,<-hp2,show((u/2:Nat):Int)=(u:Int)/2 by push_cast;rfl,show((u%2:Nat):Int)=(u:Int)%2 by push_cast;rfl]at ho;have g1:decide ((u:Int)>=36028797018963966)=true:=(by rw[decide_eq_true_eq];omega);have g2:decide (36028797018963966<=u)=true:=decide_eq_true hc;have hshi:((sh:Nat):Int)=1:=(by rw[hps];rfl);rw[hshi]at HPK;have HU:=Qh (Qa husm hu2);have HSI:=Qh (show((Us.psh d p:Nat):Int)=1 by rw[<-HSV.out];exact hshi);clear hp2 hps hct hc husm hu2 hshi;go_wp2_with fail;refine(z48 _).mono ?_;rintro en w' ⟨rfl,hw⟩;obtain rfl:w2=w':=hw.symm;go_wp2_with fail;refine(z6R true _).mono ?_;rintro en w' ⟨rfl,hw⟩;obtain rfl:w2=w':=hw.symm;go_wp2_with fail;refine(HRN.out _).mono ?_;rintro en w' ⟨rfl,hw⟩;obtain rfl:w2=w':=hw.symm;go_wp2_with fail;refine(HPK.out _).mono ?_;rintro en w' ⟨rfl,hw⟩;obtain rfl:w2=w':=hw;go_wp2_with fail;go_ret2;exact⟨zb8 (show Us.pkR sr (-(Us.pe d p-1))=Us.pkR sr (-(Us.pe d p-(Us.psh d p:Nat))) by rw[HSI.out]) (show z2B (Us.pkE sr (-(Us.pe d p-1)))=z2B (Us.pkE sr (-(Us.pe d p-(Us.psh d p:Nat)))) by rw[HSI.out]),H2.out⟩
  ·rw[if_neg hc]at hp2 hps
   have ho:=z7G u hu64 (decide (u%2=1));have hst:Us.stk u (decide (u%2=1))=u:=by
    unfold Us.stk;rcases Nat.mod_two_eq_zero_or_one u with h|h
    ·rw[h];simp
    ·rw[h];simp;omega
   rw[hct,hst,show((u%2:Nat):Int)=(u:Int)%2 by push_cast;rfl]at ho;rw[hp2]at HRN;have g1:decide ((u:Int)>=36028797018963966)=false:=(by rw[decide_eq_false_iff_not];omega);have g2:decide (36028797018963966<=u)=false:=decide_eq_false hc;have hshi:((sh:Nat):Int)=0:=(by rw[hps];rfl);rw[hshi,Int.sub_zero]at HPK;have HU:=Qh (Qa husm hu2);have HSI:=Qh (show((Us.psh d p:Nat):Int)=0 by rw[<-HSV.out];exact hshi);clear hp2 hps hct hc husm hu2 hshi hst;go_wp2_with fail;refine(z48 _).mono ?_;rintro en w' ⟨rfl,hw⟩;obtain rfl:w2=w':=hw.symm;go_wp2_with fail;refine(z6R false _).mono ?_;rintro en w' ⟨rfl,hw⟩;obtain rfl:w2=w':=hw.symm;go_wp2_with fail;refine(HRN.out _).mono ?_;rintro en w' ⟨rfl,hw⟩;obtain rfl:w2=w':=hw.symm;go_wp2_with fail;refine(HPK.out _).mono ?_;rintro en w' ⟨rfl,hw⟩;obtain rfl:w2=w':=hw;go_wp2_with fail;go_ret2;exact⟨zb8 (show Us.pkR sr (-(Us.pe d p))=Us.pkR sr (-(Us.pe d p-(Us.psh d p:Nat))) by rw[HSI.out,Int.sub_zero]) (show z2B (Us.pkE sr (-(Us.pe d p)))=z2B (Us.pkE sr (-(Us.pe d p-(Us.psh d p:Nat)))) by rw[HSI.out,Int.sub_zero]),H2.out⟩
end Go.Proofs.YtkkecpamnnojoaaGreatDoor
namespace Go.Proofs.YtkkecpamnnojoaaGreatDoor
open Go.ChangeShapes Go.WideShapes Go.ChangeAt Go.RowKit
open Bt Dc
theorem zeI{m:Nat}(hm:m<18446744073709551616):bits BinOp.or IntKind.u64 (m:Int) 1=((m|||1:Nat):Int):=z2c (b:=1) hm (by decide)
theorem ze7{m:Nat}(hm:m<18446744073709551616):bits BinOp.and IntKind.u64 (m:Int) 1=((m%2:Nat):Int):=by show IntKind.u64.wrap ((BitVec.ofInt 64 (m:Int)&&&BitVec.ofInt 64 1).toNat:Int)=_;have h2:(BitVec.ofInt 64 1).toNat=1:=(by decide);rw[BitVec.toNat_and,xv hm,h2,Nat.and_one_is_mod,IntKind.wrap_u64];omega
theorem z7H{q r k:Nat}(hk:1<=k)(hq:q<2^k)(hr:r<=1):q|||r<2^k:=Nat.or_lt_two_pow hq (Nat.lt_of_le_of_lt hr (Nat.one_lt_two_pow (by omega)))
theorem z3r{m k:Nat}(hk:1<=k)(hm:m<2^(k+1))(hm64:m<18446744073709551616):∃q r m2:Nat,(m:Int)/2=(q:Int)/\bits BinOp.and IntKind.u64 (m:Int) 1=(r:Int)/\bits BinOp.or IntKind.u64 (q:Int) (r:Int)=(m2:Int)/\m2<2^k/\m2<18446744073709551616:=by refine⟨m/2,m%2,m/2|||m%2,rfl,ze7 hm64,z2c (by omega) (by omega),z7H hk (by rw[Nat.pow_succ]at hm;omega) (by omega),?_⟩;exact z7H (k:=64) (by omega) (by omega) (by omega)
theorem zdy:∃j,Tryz.prog.info? 242=some j/\j.size≠0:=by have h:(Tryz.prog.info? 242).map (fun i=>i.size)=some 3:=(by kernel_rfl);obtain⟨j,hj,hs⟩:=Option.map_eq_some_iff.1 h;exact⟨j,hj,by rw[hs];decide⟩
def HxQ(w:World)(e:Ending)(w':World):Prop:=(∃(f:Nat) (b:Bool),e=.returned (.tuple #[.float .f64 f,z2B b])/\f<18446744073709551616)/\∃n,w'=w.drewN n
theorem z8I{w w':World}{x y:Int}{v:Value}(b:Bool)(hv:v=z2B b)(h:∃n,w'=w.drewN n):HxQ w (.returned (.tuple #[.float .f64 (bits BinOp.or IntKind.u64 x y).toNat,v])) w':=by have:=z1K x y;exact⟨⟨_,b,by rw[hv],by omega⟩,h⟩
theorem z2J(s:ByteArray)(m:Nat)(p:Int)(neg tr:Bool)(w:World)(hm:m<18446744073709551616)(h0:w.cell? ⟨9,0,none⟩=some (.int .u64 52))(h1:w.cell? ⟨9,1,none⟩=some (.int .u64 11))(h2:w.cell? ⟨9,2,none⟩=some (.int .i64 (-1023)))
  (hB:∃(ca:Array Value) (ta:TypeId) (cb:Array Value) (tb:TypeId),w.heap[9]?=some (.cells ca ta (0,0))/\w.heap[8]?=some (.cells cb tb (0,0))):
  Calls Tryz.prog 183 #[.string s,.pointer (some ⟨9,0,none⟩),.int .u64 (m:Int),.int .i64 p,.bool neg,.bool tr] w (HxQ w):=by
 have HI:RowKit.Hid (∀wx:World,(∃n,wx=w.drewN n)->wx.cell? ⟨9,0,none⟩=some (.int .u64 52)/\wx.cell? ⟨9,1,none⟩=some (.int .u64 11)/\wx.cell? ⟨9,2,none⟩=some (.int .i64 (-1023))):=Qh (by
  rintro wx ⟨n,rfl⟩;exact⟨h0,h1,h2⟩)
 have HM:=Qh hm;have HB:=Qh hB;clear hm hB;go_in;go_wp2_with fail;go_quiet(fail);go_upto_block 0 with fail;clear h0 h1 h2;go_cut[2,3]from 42 to 57 (fun s2 s3 wx=>∃(y:Nat) (E:Int),s2=.int .u64 (y:Int)/\s3=.int .i64 E/\RowKit.Hid (y<18446744073709551616/\∃n,wx=w.drewN n))
 case first=>
  go_wp2_with fail;go_loopg[2,3] 54 (fun gq s2 s3 wx=>∃(y:Nat) (E:Int),s2=.int .u64 (y:Int)/\s3=.int .i64 E/\RowKit.Hid (y<18446744073709551616/\(y=0\/18014398509481984<=y*2^gq)/\∃n,wx=w.drewN n))
  case atStart=>
   refine⟨m,_,rfl,rfl,HM.out,?_,_,rfl⟩;by_cases h:m=0
   ·exact Or.inl h
   ·exact Or.inr (by(have e:(2:Nat)^54=18014398509481984:=by decide);rw[e];omega)
  case round=>
   obtain⟨y,E,rfl,rfl,HR⟩:=hrel;obtain⟨i0,i1,i2⟩:=HI.out wr HR.2.2;by_cases hy0:y=0
   ·subst hy0;go_wp2_with fail;go_meet;exact⟨0,E,rfl,rfl,by omega,HR.2.2⟩
   ·have hy1:((y:Int) != 0)=true:=by simp;omega
    have hy2:¬(y:Int)=0:=(by omega);by_cases hy:y<18014398509481984
    ·have hq:((y:Int)/18014398509481984==0)=true:=by rw[beq_iff_eq];omega
     have h54:RowKit.Hid (1<=gk/\2*y<18446744073709551616/\18014398509481984<=(2*y)*2^(gk-1)):=Qh (by
      have h1:=HR.2.1.resolve_left hy0;have hg:1<=gk:=Nat.pos_of_ne_zero fun e=>(by rw[e,Nat.pow_zero]at h1;omega);refine⟨hg,by omega,?_⟩;have e:2^gk=2*2^(gk-1):=(by rw[<-Nat.pow_succ'];congr 1;omega);rw[e,<-Nat.mul_assoc,Nat.mul_comm y 2]at h1;exact h1)
     have hsh:IntKind.u64.wrap ((y:Int)*2)=((2*y:Nat):Int):=(by rw[IntKind.wrap_u64];omega);have HSH:=Qh hsh;clear hy0 hy hsh;go_wp2_with fail;go_roundg(gk-1)
     case measure=>have:=h54.out;omega
     case rel=>exact⟨2*y,_,by first|rfl|(rw[HSH.out];done),rfl,h54.out.2.1,Or.inr h54.out.2.2,HR.2.2⟩
    ·have hq:((y:Int)/18014398509481984==0)=false:=Qb (by omega);clear hy0 hy;go_wp2_with fail;go_meet;exact⟨y,E,rfl,rfl,HR.1,HR.2.2⟩
 case rest=>
  obtain⟨y,E,rfl,rfl,HY⟩:=hcut;generalize wc=w1 at*
  go_upto_if 58 with fail;go_cut[2]from 59 to 60 (fun s2 wx=>∃y:Nat,s2=.int .u64 (y:Int)/\RowKit.Hid (y<18446744073709551616/\∃n,wx=w.drewN n))
  case first=>
   cases tr
   ·go_wp2_with fail;go_meet;exact⟨y,rfl,HY.out⟩
   ·have ho:=zeI HY.1
    have hlt:RowKit.Hid (y|||1<18446744073709551616):=Qh (z7H (k:=64) (by omega) HY.1 (by omega));generalize y|||1=y2 at*
    go_wp2_with fail;go_meet;exact⟨y2,rfl,hlt.out,HY.2⟩
  case rest=>
   obtain⟨y2,rfl,HY2⟩:=hcut;generalize wc=w2 at*
   clear HY;go_upto_block 2 with fail;go_cut[2,3]from 61 to 76 (fun s2 s3 wx=>∃(y:Nat) (E:Int),s2=.int .u64 (y:Int)/\s3=.int .i64 E/\RowKit.Hid (y<18446744073709551616/\∃n,wx=w.drewN n))
   case first=>
    go_wp2_with fail;go_loopg[2,3] 10 (fun gq s2 s3 wx=>∃(y:Nat) (E:Int),s2=.int .u64 (y:Int)/\s3=.int .i64 E/\RowKit.Hid (y<18446744073709551616/\y<2^(55+gq)/\∃n,wx=w.drewN n))
    case atStart=>
     refine⟨y2,E,rfl,rfl,HY2.1,?_,HY2.2⟩;have e:(2:Nat)^(55+10)=36893488147419103232:=(by decide);have:=HY2.1;rw[e];omega
    case round=>
     obtain⟨y,E,rfl,rfl,HR⟩:=hrel;obtain⟨i0,i1,i2⟩:=HI.out wr HR.2.2;by_cases hy:y<36028797018963968
     ·have hq:((y:Int)/36028797018963968 != 0)=false:=by
       have:(y:Int)/36028797018963968=0:=(by omega);rw[this];rfl
      have hq2:(y:Int)/36028797018963968=0:=(by omega);clear hy;go_wp2_with fail;go_meet;exact⟨y,E,rfl,rfl,HR.1,HR.2.2⟩
     ·have hq:((y:Int)/36028797018963968 != 0)=true:=by rw[bne_iff_ne];omega
      have hg:1<=gk:=Nat.pos_of_ne_zero fun e=>(by have h1:=HR.2.1;have e55:(2:Nat)^(55+0)=36028797018963968:=(by decide);rw[e,e55]at h1;exact hy h1);obtain⟨q,r,m2,f1,f2,f3,f4,f5⟩:=z3r (m:=y) (k:=55+(gk-1)) (by omega) (by rw[show 55+(gk-1)+1=55+gk by omega];exact HR.2.1) HR.1;have HF:=Qh (Qa hg (Qa f4 f5));clear hy hg f4 f5;go_wp2_with fail;go_roundg(gk-1)
      case measure=>have:=HF.1;omega
      case rel=>exact⟨m2,_,rfl,rfl,HF.2.2,HF.2.1,HR.2.2⟩
   case rest=>
    obtain⟨y3,E3,rfl,rfl,HY3⟩:=hcut;generalize wc=w3 at*
    clear HY2;go_upto_block 4 with fail;go_cut[2,3]from 77 to 91 (fun s2 s3 wx=>∃(y:Nat) (E:Int),s2=.int .u64 (y:Int)/\s3=.int .i64 E/\RowKit.Hid (∃n,wx=w.drewN n))
    case first=>
     go_wp2_with fail;go_loopg[2,3] 64 (fun gq s2 s3 wx=>∃(y:Nat) (E:Int),s2=.int .u64 (y:Int)/\s3=.int .i64 E/\RowKit.Hid (y<18446744073709551616/\y<2^gq/\∃n,wx=w.drewN n))
     case atStart=>
      refine⟨y3,E3,rfl,rfl,HY3.1,?_,HY3.2⟩;have e:(2:Nat)^64=18446744073709551616:=(by decide);rw[e];exact HY3.1
     case round=>
      obtain⟨y,E,rfl,rfl,HR⟩:=hrel;by_cases hy:1<y
      ·have hy1:(1:Int)<(y:Int):=by omega
       have hg:2<=gk:=(by refine Nat.le_of_not_lt fun h=>?_;have h1:=HR.2.1;have:2^gk<=2^1:=Nat.pow_le_pow_right (by omega) (by omega);have e1:(2:Nat)^1=2:=(by decide);omega);obtain⟨q,r,m2,f1,f2,f3,f4,f5⟩:=z3r (m:=y) (k:=gk-1) (by omega) (by rw[show gk-1+1=gk by omega];exact HR.2.1) HR.1;have HF:=Qh (Qa hg (Qa f4 f5));clear hy hg f4 f5;by_cases hE:E< -1024
       ·go_wp2_with fail
        go_roundg(gk-1)
        case measure=>have:=HF.1;omega
        case rel=>exact⟨m2,_,rfl,rfl,HF.2.2,HF.2.1,HR.2.2⟩
       ·have hE':¬E< -1024:=hE;go_wp2_with fail;go_meet;exact⟨y,E,rfl,rfl,HR.2.2⟩
      ·have hy1:¬(1:Int)<(y:Int):=(by omega);clear hy;go_wp2_with fail;go_meet;exact⟨y,E,rfl,rfl,HR.2.2⟩
    case rest=>
     obtain⟨y4,E4,rfl,rfl,HW4⟩:=hcut;generalize wc=w4 at*
     clear HY3;obtain⟨i0,i1,i2⟩:=HI.out w4 HW4.out;go_upto_if 103 with fail;go_cut[2,3]from 92 to 117 (fun s2 s3 wx=>∃(z E:Int),s2=.int .u64 z/\s3=.int .i64 E/\wx=w4)
     case first=>
      go_wp2_with fail
      all_goals
       go_meet;exact⟨_,_,rfl,rfl,rfl⟩
     case rest=>
      obtain⟨z5,E5,rfl,rfl,hw5⟩:=hcut;generalize wc=w5 at*
      subst hw5;go_upto_if 124 with fail;go_cut[3]from 118 to 128 (fun s3 wx=>∃E:Int,s3=.int .i64 E/\wx=w5)
      case first=>
       go_wp2_with fail
       all_goals
        go_meet;exact⟨_,rfl,rfl⟩
      case rest=>
       obtain⟨E6,rfl,hw6⟩:=hcut;generalize wc=w6 at*
       subst hw6;go_upto_if 131 with fail;go_cut[2,3,17]from 129 to 139 (fun s2 s3 s17 wx=>∃(z E:Int) (b:Bool),s2=.int .u64 z/\s3=.int .i64 E/\s17=z2B b/\wx=w6)
       case first=>
        go_wp2_with fail
        all_goals
         go_meet
         first
          |exact⟨_,_,true,rfl,rfl,rfl,rfl⟩
          |exact⟨_,_,false,rfl,rfl,rfl,rfl⟩
       case rest=>
        obtain⟨z7,E7,b7,rfl,rfl,rfl,hw7⟩:=hcut;generalize wc=w7 at*
        subst hw7;generalize hv:z2B b7=v7 at*
        have hf:=qn;have HNe:RowKit.Hid (∀W:World,(∃n,W=w.drewN n)->(binOp .eql 240 (.pointer (some ⟨9,0,none⟩)) (.pointer (some ⟨8,0,none⟩))).run Tryz.prog W=.ok (.bool false) W):=Qh (by
         rintro W ⟨q,rfl⟩;obtain⟨ca,ta,cb,tb,e1,e2⟩:=HB.out;obtain⟨j,hj,hs⟩:=zdy;exact run_eql_ptr_other (w.drewN q) Tryz.underlying240 hj hs (by intro e;have:=congrArg Addr.block e;revert this;decide) e1 e2)
        have hq7:∃n,w7=w.drewN n:=HW4.out;have hne1:∀q:Nat,(binOp .eql 240 (.pointer (some ⟨9,0,none⟩)) (.pointer (some ⟨8,0,none⟩))).run Tryz.prog (w7.drewN q)=.ok (.bool false) (w7.drewN q):=fun q=>HNe.out _ (by obtain⟨n,hn⟩:=hq7;exact⟨n+q,by rw[hn,World.drewN_drewN]⟩);cases neg
        ·go_wp2_with fail;go_quiet(fail);go_wp2_with fail;go_ret2;refine z8I b7 hv.symm ?_;obtain⟨n,hn⟩:=hq7;simp only[hn,World.drewN_drewN];exact⟨_,rfl⟩
        ·go_wp2_with fail;go_quiet(fail);go_wp2_with fail;go_quiet(fail);go_wp2_with fail;go_ret2;refine z8I b7 hv.symm ?_;obtain⟨n,hn⟩:=hq7;simp only[hn,World.drewN_drewN];exact⟨_,rfl⟩
end Go.Proofs.YtkkecpamnnojoaaGreatDoor
