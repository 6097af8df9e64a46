/- A part of the proof of ScriptParses: nothing is assumed. By an AI agent. -/
import Derived.Test.YtkkecpamnnojoaaGreatDoorBz07
set_option linter.unusedVariables false
set_option linter.unusedSimpArgs false
set_option maxRecDepth 100000
set_option maxHeartbeats 32000000
namespace Go.Proofs.YtkkecpamnnojoaaGreatDoor.Us
def E0(u:Nat):Int:=if exb u=0 then-1074 else(exb u:Int)-1075
theorem zec{u:Nat}(hk:exb u<2047)(hm:Sm.zt u≠0):zz (ee u)=sh u/\ee u+(sh u:Int)=E0 u/\(exb u≠0->sh u=11):=by
 have hlt:=Sm.z1M u;obtain⟨b1,b2,b3⟩:=qf hm (by omega);have hl53:Lib.bitLen (Sm.zt u)<=53:=(by refine Nat.le_of_not_lt fun h=>?_;have:2^53<=2^(Lib.bitLen (Sm.zt u)-1):=Nat.pow_le_pow_right (by omega) (by omega);omega);have hsh:sh u+Lib.bitLen (Sm.zt u)=64:=(by unfold sh;omega);unfold zz ee E0;by_cases h0:exb u=0
 ·rw[if_pos h0,if_pos h0];have hsub:Sm.zt u<2^52:=(by unfold Sm.zt;unfold exb at h0;rw[if_pos h0];exact Nat.mod_lt _ (by decide));have hl52:Lib.bitLen (Sm.zt u)<=52:=(by refine Nat.le_of_not_lt fun h=>?_;have:2^52<=2^(Lib.bitLen (Sm.zt u)-1):=Nat.pow_le_pow_right (by omega) (by omega);omega);refine⟨by split<;>omega,by omega,fun h=>absurd h0 h⟩
 ·rw[if_neg h0,if_neg h0];have hnor:2^52<=Sm.zt u:=(by unfold Sm.zt;unfold exb at h0;rw[if_neg h0];omega);have hl:Lib.bitLen (Sm.zt u)=53:=(by refine Nat.le_antisymm hl53 (Nat.le_of_not_lt fun h=>?_);have:2^Lib.bitLen (Sm.zt u)<=2^52:=Nat.pow_le_pow_right (by omega) (by omega);omega);refine⟨?_,by omega,fun _=>by omega⟩;rw[if_pos (by omega)];omega
def lw(u:Nat):Nat:=if qw (mm u) (ee u)then 1 else 2
theorem z5n{u:Nat}(hk:exb u<2047)(hm:Sm.zt u≠0):Flo (Sm.zt u) (E0 u) (lw u):=by
 obtain⟨z1,z2,z3⟩:=zec hk hm;have hlt:=Sm.z1M u;have hE:-1074<=E0 u/\E0 u<=971:=(by unfold E0;split<;>omega);have hnor:exb u≠0->4503599627370496<=Sm.zt u:=fun h0=>(by unfold Sm.zt;unfold exb at h0;rw[if_neg h0];omega);have hsub:exb u=0->Sm.zt u<4503599627370496:=fun h0=>(by unfold Sm.zt;unfold exb at h0;rw[if_pos h0];exact Nat.mod_lt _ (by decide));have hEE:exb u≠0->E0 u=(exb u:Int)-1075:=fun h0=>(by unfold E0;rw[if_neg h0]);have hE0:exb u=0->E0 u= -1074:=fun h0=>(by unfold E0;rw[if_pos h0]);have e11:(2:Nat)^11=2048:=(by decide);have hmm:exb u≠0->mm u=Sm.zt u*2048:=fun h=>(by unfold mm;rw[z3 h,e11]);refine⟨hE.1,hE.2,by omega,by omega,?_,?_,?_⟩
 ·by_cases h0:exb u=0
  ·right;exact hE0 h0
  ·left;exact hnor h0
 ·unfold lw
  by_cases hs:qw (mm u) (ee u)=true
  ·right
   rw[if_pos hs];unfold qw at hs;simp only[Bool.and_eq_true,decide_eq_true_eq]at hs;by_cases h0:exb u=0
   ·exfalso;have h1:=hE0 h0;have h2:=hsub h0;obtain⟨b1,b2,b3⟩:=qf hm (by omega);have hl52:Lib.bitLen (Sm.zt u)<=52:=(by refine Nat.le_of_not_lt fun h=>?_;have:2^52<=2^(Lib.bitLen (Sm.zt u)-1):=Nat.pow_le_pow_right (by omega) (by omega);omega);have:sh u=64-Lib.bitLen (Sm.zt u):=rfl;omega
   ·have h1:=hmm h0;have h2:=hEE h0;have h3:=z3 h0;exact⟨rfl,by omega,by omega⟩
  ·left;rw[if_neg hs]
 ·intro h1 h2;have h0:exb u≠0:=fun h=>(by have:=hE0 h;omega);unfold lw;rw[if_pos];unfold qw;have h3:=hmm h0;have h4:=z3 h0;have h5:=hEE h0;simp only[Bool.and_eq_true,decide_eq_true_eq];omega
theorem z3Z{u:Nat}(hk:exb u<2047)(hm:Sm.zt u≠0):zV (Sm.zt u) (E0 u) (lw u) (dd u) (pq u):=by obtain⟨hok,-,-⟩:=z11 u hk hm;obtain⟨z1,z2,z3⟩:=zec hk hm;exact z55 hok (by rw[z1];rfl) (by rw[z1];exact z2.symm)
theorem z5E{m0:Nat}{E P:Int}{l d:Nat}(h:zV m0 E l d (1-P)):zV m0 E l (10*d) (-P):=by
 have k:=fun t=>z5i (yE (-P) (2-E)) (yE (1-P) (2-E)) (z5P P (2-E) d) t;unfold zV at h⊢
 refine⟨fun h0=>?_,fun h1=>?_⟩
 ·have a:=h.1 h0;exact⟨(k _).1.2 a.1,(k _).2.1.2 a.2⟩
 ·have a:=h.2 h1;exact⟨(k _).2.2.1.2 a.1,(k _).2.2.2.2 a.2⟩
theorem z0M{m0:Nat}{E:Int}{l d:Nat}:∀(j:Nat) (q:Int),zV m0 E l (10^j*d) q↔zV m0 E l d (q+j)
 |0,q=>by rw[Nat.pow_zero,Nat.one_mul,Int.natCast_zero,Int.add_zero]
 |j+1,q=>by have ih:=z0M (m0:=m0) (E:=E) (l:=l) (d:=d) j (q+1);have e:10^(j+1)*d=10*(10^j*d):=(by rw[Nat.pow_succ,Nat.mul_comm (10^j),Nat.mul_assoc]);rw[e,show q+((j+1:Nat):Int)=q+1+(j:Int) by omega,<-ih];have a:=z2P (m0:=m0) (E:=E) (P:=-q) (l:=l) (d:=10^j*d);have b:=z5E (m0:=m0) (E:=E) (P:=-q) (l:=l) (d:=10^j*d);rw[Int.neg_neg,show(1:Int)- -q=q+1 by omega]at a b;exact⟨a,b⟩
theorem z3e{s x:Nat}(hs:s=0\/s=9223372036854775808)(hx:x<9223372036854775808):s|||x=s+x:=by
 rcases hs with rfl|rfl
 ·rw[Nat.zero_or,Nat.zero_add]
 ·have:=Nat.two_pow_add_eq_or_of_lt (i:=63) (b:=x) (by omega) 1;have e:(2:Nat)^63=9223372036854775808:=(by decide);rw[e,Nat.mul_one]at this;exact this.symm
theorem zfs{k f:Nat}(hf:f<4503599627370496):f|||4503599627370496*k=4503599627370496*k+f:=by have:=Nat.two_pow_add_eq_or_of_lt (i:=52) (b:=f) (by omega) k;have e:(2:Nat)^52=4503599627370496:=(by decide);rw[e]at this;rw[Nat.or_comm];exact this.symm
theorem zd7{u sg:Nat}(hu:u<18446744073709551616)(hk:exb u<2047)(hsg:sg=9223372036854775808*(u/9223372036854775808)):pkR (sg|||Sm.zt u) (E0 u)=u/\pkE (sg|||Sm.zt u) (E0 u)=false:=by
 have hlt:=Sm.z1M u;have hs2:sg=0\/sg=9223372036854775808:=(by omega);have hor:sg|||Sm.zt u=sg+Sm.zt u:=z3e hs2 (by omega);rw[hor];unfold pkR pkE;by_cases h0:exb u=0
 ·have hma:Sm.zt u=u%4503599627370496:=(by unfold Sm.zt;unfold exb at h0;rw[if_pos h0]);have hz:(sg+Sm.zt u)/4503599627370496%2=0:=(by omega);rw[if_pos hz,decide_eq_true hz];refine⟨?_,rfl⟩;unfold exb at h0;omega
 ·have hma:Sm.zt u=u%4503599627370496+4503599627370496:=by unfold Sm.zt;unfold exb at h0;rw[if_neg h0]
  have hz:¬(sg+Sm.zt u)/4503599627370496%2=0:=(by omega);have hE:E0 u=(exb u:Int)-1075:=(by unfold E0;rw[if_neg h0]);rw[if_neg hz,if_neg (by omega),decide_eq_false hz,decide_eq_false (show¬(972:Int)<=E0 u by omega)];refine⟨?_,rfl⟩;have hc:clr (sg+Sm.zt u)=sg+u%4503599627370496:=(by unfold clr;omega);have hn:(1075+E0 u).toNat=exb u:=(by omega);rw[hc,hn,<-z3e hs2 (show u%4503599627370496<9223372036854775808 by omega),Nat.or_assoc,zfs (show u%4503599627370496<4503599627370496 by omega),z3e hs2 (by omega)];unfold exb at*
  omega
theorem zda{u d sg:Nat}{p:Int}(hu:u<18446744073709551616)(hk:exb u<2047)(hm:Sm.zt u≠0)(hsg:sg=9223372036854775808*(u/9223372036854775808))(W:zV (Sm.zt u) (E0 u) (lw u) d p)
  (hp1:-343<=p)(hp2:p<=309)(h0:1<=d)(h57:d<144115188075855872):pfR d p sg=u/\pfE d p sg=false:=by
 obtain⟨a,b,c1,c2,-⟩:=zbl (z5n hk hm) hp1 hp2 W h0 h57;unfold pfR pfE;rw[if_neg (by omega),if_neg (by omega),a,b,Int.neg_neg];exact zd7 hu hk hsg
end Go.Proofs.YtkkecpamnnojoaaGreatDoor.Us
namespace Go.Proofs.YtkkecpamnnojoaaGreatDoor.Us
theorem z2R{x s hi lo:Nat}(hx:9223372036854775808<=x)(hhi:hi<18446744073709551616)(hhi0:9223372036854775808<=hi)(h0:5<=s):usc x s hi lo<=x/32+1:=by
 have u0:9223372036854775808*9223372036854775808<=x*hi:=Nat.mul_le_mul hx hhi0;have u1:x*hi<=x*18446744073709551616:=Nat.mul_le_mul_left _ (by omega);unfold usc;have h1':x*hi/18446744073709551616<=x:=(by omega);have h0':4611686018427387904<=x*hi/18446744073709551616:=(by omega);generalize x*hi/18446744073709551616=h at*
 generalize x*hi%18446744073709551616=m at*
 clear u1 u0;have key:∀a,a<=x->∀b,stk (a/2^s) b<=x/32+1:=by
  intro a ha b;have h1:=(z0g (a/2^s) b).2;have l2:a/2^s<=a/2^5:=Nat.div_le_div_left (Nat.pow_le_pow_right (by omega) h0) (by decide);have e2:(2:Nat)^5=32:=(by decide);rw[e2]at l2;generalize a/2^s=q at*
  omega
 by_cases hr:h%2^s≠0
 ·simp only[if_pos hr];exact key h h1' _
 ·simp only[if_neg hr]
  refine key _ ?_ _;split
  ·omega
  ·exact h1'
theorem zcs{m:Nat}{e:Int}(h:Ok m e):shD m e<144115188075855872:=by
 have hp:=z0A (m:=m) h.e0 h.e1;have hz:=z0x h.e0 h.e1;have hpm:=z1J (p:=pp m e) (by omega) (by omega);have hs:5<=sft m e:=(by unfold sft;omega);have h1:=h.lo;have h2:=h.hi;have hdv:=h.dv;have hle:m+2048<=18446744073709551616:=by
  obtain⟨k,hk⟩:=Nat.dvd_of_mod_eq_zero hdv;obtain⟨r,hr⟩:∃r,2^zz e=2048*r:=⟨2^(zz e-11),by
   rw[show(2048:Nat)=2^11 by decide,<-Nat.pow_add];congr 1;omega⟩
  rw[hr,Nat.mul_assoc]at hk;omega
 have p62:2^(zz e-1)<=2^62:=Nat.pow_le_pow_right (by omega) (by omega);have e62:(2:Nat)^62=4611686018427387904:=(by decide);have bm:uu m e m<=m/32+1:=z2R h1 hpm.1 hpm.2.1 hs;have bx:uu m e (mxv m e)<=(mxv m e)/32+1:=z2R (Nat.le_trans h1 (Nat.le_add_right _ _)) hpm.1 hpm.2.1 hs;have hmn:4611686018427387904<=mnv m e/\mnv m e<=m:=(by unfold mnv;have:=Nat.two_pow_pos (zz e-1);have e9:(2:Nat)^9=512:=(by decide);split<;>omega);have bn:uu m e (mnv m e)<=m/32+1:=by
  by_cases hb:9223372036854775808<=mnv m e
  ·refine Nat.le_trans (z2R hb hpm.1 hpm.2.1 hs) ?_;omega
  ·--a small lower end:its product is less than half
   have h3:mnv m e<9223372036854775808:=(by omega);have u0:4611686018427387904*9223372036854775808<=mnv m e*yK (pp m e):=Nat.mul_le_mul hmn.1 hpm.2.1;have u1:mnv m e*yK (pp m e)<=mnv m e*18446744073709551616:=Nat.mul_le_mul_left _ (by omega);unfold uu usc;have h1':mnv m e*yK (pp m e)/18446744073709551616<=mnv m e:=(by omega);have h0':1<=mnv m e*yK (pp m e)/18446744073709551616:=(by omega);generalize mnv m e*yK (pp m e)/18446744073709551616=h at*
   generalize mnv m e*yK (pp m e)%18446744073709551616=mq at*
   clear u1 u0;have key:∀a,a<=m->∀b,stk (a/2^sft m e) b<=m/32+1:=by
    intro a ha b;have h1:=(z0g (a/2^sft m e) b).2;have l2:a/2^sft m e<=a/2^5:=Nat.div_le_div_left (Nat.pow_le_pow_right (by omega) hs) (by decide);have e2:(2:Nat)^5=32:=(by decide);rw[e2]at l2;generalize a/2^sft m e=q at*
    omega
   by_cases hr:h%2^sft m e≠0
   ·simp only[if_pos hr];exact key h (by omega) _
   ·simp only[if_neg hr];refine key _ ?_ _;split<;>omega
 have hmx:mxv m e<=m+4611686018427387904:=(by unfold mxv;omega);have hod:odd m e<=1:=(by unfold odd;omega);unfold shD;split
 ·unfold dmx;omega
 ·split
  ·unfold rnd;omega
  ·unfold dmn;omega
theorem z7K:∀n,∀d,d<=n->1<=d->10^(Lib.nDigits d-1)<=d
 |0,d,h,h1=>by omega
 |n+1,d,h,h1=>by
  by_cases hs:d<10
  ·rw[Lib.nDigits_small hs];simpa using h1
  ·have ih:=z7K n (d/10) (by omega) (by omega);have hp:=Lib.nDigits_pos (d/10);rw[Lib.nDigits_big hs,show Lib.nDigits (d/10)+1-1=(Lib.nDigits (d/10)-1)+1 by omega,Nat.pow_succ];omega
theorem z5K:∀(n d:Nat),d%10^(n-qT d n)=0
 |0,d=>by simp[Nat.mod_one]
 |n+1,d=>by
  rw[z1a];by_cases h:d%10=0
  ·rw[if_pos h];have ih:=z5K n (d/10);have hle:=z1t (d/10) n;rw[show n+1-qT (d/10) n=(n-qT (d/10) n)+1 by omega,Nat.pow_succ,Nat.mul_comm,Nat.mod_mul,h,ih]
  ·rw[if_neg h,Nat.sub_self,Nat.pow_zero,Nat.mod_one]
theorem z47(d n:Nat)(hd:d<10^n):∀k,k<=n->val ((List.range k).map (digit d n))=d/10^(n-k)
 |0,_=>by rw[Nat.sub_zero,Nat.div_eq_of_lt hd];rfl
 |k+1,h=>by
  have ih:=z47 d n hd k (by omega);unfold val at ih⊢
  rw[List.range_succ,List.map_append,List.foldl_append,ih];simp only[List.map_cons,List.map_nil,List.foldl_cons,List.foldl_nil,digit];rw[show n-k=(n-(k+1))+1 by omega,Nat.pow_succ,<-Nat.div_div_eq_div_mul,show n-1-k=n-(k+1) by omega];omega
structure DigsIs (d n z:Nat) (D:List Nat):Prop where
 all:∀c∈D,48<=c/\c<=57
 ne:D≠[]
 head:D.head? ≠some 48
 len:D.length=z
 nz1:1<=z
 nzn:z<=n
 val:10^(n-z)*val D=d
 n18:n<=18
theorem zdR{d:Nat}(h0:1<=d)(h57:d<144115188075855872):DigsIs d (Lib.nDigits d) (qT d (Lib.nDigits d)) ((List.range (qT d (Lib.nDigits d))).map (digit d (Lib.nDigits d))):=by
 have hn:=Lib.lt_pow_nDigits d;have hl:=z7K _ d (Nat.le_refl _) h0;have hnp:=Lib.nDigits_pos d;generalize Lib.nDigits d=n at*
 have hz1:=z5J n d (by omega) hn;have hz2:=z1t d n;have hdv:=z5K n d;generalize qT d n=z at*
 have hlen:((List.range z).map (digit d n)).length=z:=(by rw[List.length_map,List.length_range]);refine⟨?_,?_,?_,hlen,hz1,hz2,?_,?_⟩
 ·intro c hc;obtain⟨t,-,rfl⟩:=List.mem_map.1 hc;unfold digit;omega
 ·intro e;rw[e]at hlen;simp at hlen;omega
 ·obtain⟨k,hk⟩:∃k,z=k+1:=⟨z-1,by omega⟩;rw[hk,List.range_succ_eq_map];simp only[List.map_cons,List.head?_cons];intro e;injection e with e;unfold digit at e;rw[Nat.sub_zero]at e;have hp:10^n=10^(n-1)*10:=(by rw[<-Nat.pow_succ];congr 1;omega);have hpos:0<10^(n-1):=Nat.pow_pos (by omega);have h1:1<=d/10^(n-1):=(Nat.le_div_iff_mul_le hpos).2 (by omega);have h2:d/10^(n-1)<10:=Nat.div_lt_of_lt_mul (by omega);omega
 ·rw[z47 d n hn z hz2];have:=Nat.div_add_mod d (10^(n-z));rw[hdv]at this;exact this
 ·refine Nat.le_of_not_lt fun h=>?_;have:10^18<=10^(n-1):=Nat.pow_le_pow_right (by omega) (by omega);have e18:(10:Nat)^18=1000000000000000000:=(by decide);omega
theorem z5s{u:Nat}(h0:1<=dd u)(h57:dd u<144115188075855872):DigsIs (dd u) (Lib.nDigits (dd u)) (nz u) (z0w u):=by have h:=zdR h0 h57;unfold z0w nz;exact h
theorem ze2:∃A B:Nat,A=1024/\B=309/\2^A<10^B:=⟨1024,309,rfl,rfl,by decide+kernel⟩
theorem z5D{m0:Nat}{E:Int}{l d:Nat}{q:Int}{k:Nat}(F:Flo m0 E l)(W:zV m0 E l d q)(hd:10^k<=d):(k:Int)+q<=308:=by
 refine Int.not_lt.1 fun hq=>?_;obtain⟨A,B,hA,hB,hAB⟩:=ze2;have hm2:=F.m2;have he1:=F.e1;have hW:d*num q (2-E)<=(4*m0+2)*den q (2-E):=by
  rcases Nat.mod_two_eq_zero_or_one m0 with h|h
  ·exact(W.1 h).2
  ·exact Nat.le_of_lt (W.2 h).2
 unfold num den at hW;have h4:4*m0+2<=2^55:=(by have:(2:Nat)^55=36028797018963968:=(by decide);omega);have h2:10^(-q).toNat*10^B<=d*10^q.toNat:=(by refine Nat.le_trans ?_ (Nat.mul_le_mul_right _ hd);rw[<-Nat.pow_add,<-Nat.pow_add];exact Nat.pow_le_pow_right (by omega) (by omega));have h3:(4*m0+2)*2^(-(2-E)).toNat<=2^A*2^(2-E).toNat:=(by refine Nat.le_trans (Nat.mul_le_mul_right _ h4) ?_;rw[<-Nat.pow_add,<-Nat.pow_add];exact Nat.pow_le_pow_right (by omega) (by omega));have hp1:0<10^(-q).toNat:=Nat.pow_pos (by omega);have hp2:0<2^(2-E).toNat:=Nat.pow_pos (by omega);generalize 10^(-q).toNat=a at*
 generalize 10^q.toNat=b at*
 generalize 2^(2-E).toNat=x at*
 generalize 2^(-(2-E)).toNat=y at*
 generalize 2^A=P at*
 generalize 10^B=Q at*
 have l1:a*Q*x<=d*(b*x):=(by rw[<-Nat.mul_assoc];exact Nat.mul_le_mul_right _ h2);have l2:(4*m0+2)*(a*y)<=a*(P*x):=(by rw[Nat.mul_left_comm];exact Nat.mul_le_mul_left _ h3);have l3:a*Q*x<=a*(P*x):=Nat.le_trans l1 (Nat.le_trans hW l2);rw[Nat.mul_assoc]at l3;have l4:=Nat.le_of_mul_le_mul_left l3 hp1;have l5:=Nat.le_of_mul_le_mul_right l4 hp2;omega
theorem z79{u:Nat}(hk:exb u<2047)(hm:Sm.zt u≠0):∃(m:Nat) (p:Int),rdF (zQ u)=some ⟨m,p,Sm.yv u,false,false,(zQ u).length,false⟩/\
  1<=m/\m<144115188075855872/\ -343<=p/\p<=309/\zV (Sm.zt u) (E0 u) (lw u) m p:=by
 obtain⟨hok,-,-⟩:=z11 u hk hm;have h0:=z3A hok;have h57:dd u<144115188075855872:=zcs hok;have D:=z5s h0.1 h57;have W:=z3Z hk hm;have F:=z5n hk hm;have hpq:-330<=pq u:=(by have:=z0A (m:=mm u) hok.e0 hok.e1;show-330<=shP (mm u) (ee u);unfold shP;split<;>omega);have hdp:=z5D F W (z7K _ (dd u) (Nat.le_refl _) h0.1);have hnp:=Lib.nDigits_pos (dd u);have h18:=D.n18;have hv:=D.val;have hzn:=D.nzn;have hz1:=D.nz1;obtain⟨j,hj,hj6⟩:=zbg (Sm.yv u) (dp:=Lib.nDigits (dd u)+pq u) D.all D.ne D.head (by rw[D.len];omega) (by omega) (by omega);rw[<-z4a hm,D.len]at hj;rw[D.len]at hj6;have hvp:=z8g D.all D.head D.ne;have hvd:val (z0w u)<=dd u:=(by rw[<-hv];exact Nat.le_mul_of_pos_left _ (Nat.pow_pos (by omega)));have hvn:val (z0w u)<10^nz u:=(by have hn:=Lib.lt_pow_nDigits (dd u);have hn2:10^(Lib.nDigits (dd u)-nz u)*val (z0w u)<10^(Lib.nDigits (dd u)-nz u)*10^nz u:=(by rw[hv,<-Nat.pow_add,show Lib.nDigits (dd u)-nz u+nz u=Lib.nDigits (dd u) by omega];exact hn);exact Nat.lt_of_mul_lt_mul_left hn2);refine⟨_,_,hj,Nat.mul_pos (Nat.pow_pos (by omega)) hvp,?_,by omega,by omega,?_⟩
 ·rcases hj6 with rfl|hj6
  ·rw[Nat.pow_zero,Nat.one_mul];omega
  ·have h6:10^j*10^nz u<=10^6:=(by rw[<-Nat.pow_add];exact Nat.pow_le_pow_right (by omega) (by omega));have:10^j*val (z0w u)<10^j*10^nz u:=Nat.mul_lt_mul_of_pos_left hvn (Nat.pow_pos (by omega));have e6:(10:Nat)^6=1000000:=(by decide);omega
 ·rw[z0M];rw[<-hv,z0M]at W;rw[show((Lib.nDigits (dd u):Nat):Int)+pq u-(nz u:Int)-(j:Int)+(j:Int)=pq u+((Lib.nDigits (dd u)-nz u:Nat):Int) by omega];exact W
end Go.Proofs.YtkkecpamnnojoaaGreatDoor.Us
namespace Go.Proofs.YtkkecpamnnojoaaGreatDoor.Rn
open Go Go.Proofs.YtkkecpamnnojoaaGreatDoor Ieee
theorem zck(s:Bool)(V L:Nat):Toward.even.cut s V (L+1)=Sm.z2k V (L+1):=by
 rw[Flt.z2n];unfold Sm.z2k Flt.more;simp only;rw[Nat.shiftRight_eq_div_pow,Nat.add_sub_cancel];have hb:V.testBit L=decide (V/2^L%2=1):=Nat.testBit_eq_decide_div_mod_eq;rw[hb];have hp:=Nat.two_pow_pos L;have e1:2^(L+1)=2^L*2:=Nat.pow_succ ..;rw[e1];have e2:V%(2^L*2)=V%2^L+2^L*(V/2^L%2):=Nat.mod_mul;have e3:V/(2^L*2)=V/2^L/2:=(Nat.div_div_eq_div_mul ..).symm;have e4:=Nat.mod_lt V hp;rw[e2,e3];generalize V/2^L=q at*
 generalize V%2^L=r at*
 generalize 2^L=g at*
 rcases Nat.mod_two_eq_zero_or_one q with h|h
 ·rw[h];have t1:decide (g*2<2*(r+g*0))=false:=(by rw[decide_eq_false_iff_not];omega);have t2:(g*2==2*(r+g*0))=false:=Qb (by omega);rw[t1,t2];simp
 ·rw[h]
  simp only[decide_true,true_and];by_cases hr:r=0
  ·subst hr;have t1:decide (g*2<2*(0+g*1))=false:=(by rw[decide_eq_false_iff_not];omega);have t2:(g*2==2*(0+g*1))=true:=(by rw[beq_iff_eq];omega);rw[t1,t2];rcases Nat.mod_two_eq_zero_or_one (q/2)with h2|h2<;>simp[h2]
  ·have t1:decide (g*2<2*(r+g*1))=true:=(by rw[decide_eq_true_eq];omega);rw[t1];simp[hr]
theorem z4k(s:Bool)(V:Nat)(h:V≠0):Sm.zN V=min ((Nat.log2 V-52)*2^52+(if Nat.log2 V<=52 then V else Toward.even.cut s V (Nat.log2 V-52))) (2047*2^52):=by
 have hl:Sm.z1f V=Nat.log2 V+1:=(by unfold Sm.z1f;rw[if_neg h]);have hlen:=Sm.z0D V;unfold Sm.zN;rw[hl]at hlen⊢
 simp only;by_cases hs:Nat.log2 V<=52
 ·rw[if_pos (show Nat.log2 V+1<=53 by omega),if_pos hs,show Nat.log2 V-52=0 by omega];have h1:V<2^53:=Nat.lt_of_lt_of_le hlen.1 (Nat.pow_le_pow_right (by decide) (by omega));omega
 ·rw[if_neg (show¬Nat.log2 V+1<=53 by omega),if_neg hs]
  obtain⟨L,hL⟩:∃L,Nat.log2 V=L+53:=⟨Nat.log2 V-53,by omega⟩;have hr:=Sm.z3y hlen (by omega);rw[hL]at hr⊢
  rw[show L+53+1-53=L+1 by omega]at hr⊢
  rw[show L+53-52=L+1 by omega,zck];generalize Sm.z2k V (L+1)=d at*
  by_cases hd:d=2^53
  ·rw[if_pos hd,if_pos hd,hd];split<;>omega
  ·rw[if_neg hd,if_neg hd];split<;>omega
theorem xT(s:Bool)(V:Nat):double.nearest s V (-1074)=double.word s (Sm.zN V):=by
 by_cases h:V=0
 ·subst h;unfold Format.nearest;rw[if_pos rfl];rfl
 ·rw[z4k s V h]
  unfold Format.nearest;rw[if_neg h,Flt.fb,Flt.lp,Flt.bi,Flt.ir];simp only;generalize hlg:Nat.log2 V=g;by_cases hs:g<=52
  ·have e:max (-1074+(g:Int)-((52:Nat):Int)) (-1074)= -1074:=(by omega);rw[e,if_pos hs];rw[show((-1074:Int)- -1074).toNat=0 by decide,Flt.z2n];have:Flt.more Toward.even s (V <<< 0) (2^0)=false:=(by unfold Flt.more;simp only[Nat.pow_zero,Nat.mod_one];rfl);rw[this,show g-52=0 by omega];simp
  ·have e:max (-1074+(g:Int)-((52:Nat):Int)) (-1074)= -1074+((g-52:Nat):Int):=(by omega);rw[e,if_neg hs];rw[show(-1074+((g-52:Nat):Int)- -1074).toNat=g-52 by omega,show(-1074-(-1074+((g-52:Nat):Int))).toNat=0 by omega];simp
theorem z7Q(m k:Nat)(h:m≠0):Nat.log2 (m*2^k)=Nat.log2 m+k:=by
 have h1:=Nat.log2_self_le h;have h2:m<2^(m.log2+1):=Nat.lt_log2_self;have hp:=Nat.two_pow_pos k;have hn:m*2^k≠0:=Nat.mul_ne_zero h (by omega);have hL:Sm.Len (m*2^k) (m.log2+k+1):=by
  refine⟨?_,fun _=>?_⟩
  ·rw[show m.log2+k+1=m.log2+1+k by omega,Nat.pow_add];exact Nat.mul_lt_mul_of_pos_right h2 hp
  ·rw[Nat.add_sub_cancel,Nat.pow_add];exact Nat.mul_le_mul_right _ h1
 have:=Sm.z3l hL;unfold Sm.z1f at this;rw[if_neg hn]at this;omega
theorem z7M(s:Bool)(n g k:Nat):Flt.more Toward.even s (n*2^k) (g*2^k)=Flt.more Toward.even s n g:=by unfold Flt.more;simp only;have hp:=Nat.two_pow_pos k;rw[Nat.mul_mod_mul_right,Nat.mul_div_mul_right _ _ hp];have e1:2*(n%g*2^k)=2*(n%g)*2^k:=(Nat.mul_assoc ..).symm;rw[e1];have t1:decide (g*2^k<2*(n%g)*2^k)=decide (g<2*(n%g)):=(by rw[decide_eq_decide];exact Nat.mul_lt_mul_right hp);have t2:(g*2^k==2*(n%g)*2^k)=(g==2*(n%g)):=(by rw[Bool.eq_iff_iff,beq_iff_eq,beq_iff_eq];exact Nat.mul_left_inj (by omega));rw[t1,t2]
theorem z3U(s:Bool)(m:Nat)(e:Int)(h:-1074<=e):double.nearest s m e=double.nearest s (m*2^(e+1074).toNat) (-1074):=by
 by_cases hm:m=0
 ·subst hm;unfold Format.nearest;rw[Nat.zero_mul,if_pos rfl,if_pos rfl]
 ·generalize hk:(e+1074).toNat=k
  have hp:=Nat.two_pow_pos k;have hn:m*2^k≠0:=Nat.mul_ne_zero hm (by omega);unfold Format.nearest;rw[if_neg hm,if_neg hn,z7Q m k hm];simp only;rw[Flt.fb,Flt.lp,Flt.bi,Flt.ir];have e0:-1074+((Nat.log2 m+k:Nat):Int)-((52:Nat):Int)=e+(Nat.log2 m:Int)-((52:Nat):Int):=(by omega);rw[e0];generalize hl:max (e+(Nat.log2 m:Int)-((52:Nat):Int)) (-1074)=last;have hge:-1074<=last:=by omega
  congr 2
  congr 1
  rw[Flt.z2n,Flt.z2n,Nat.shiftLeft_eq,Nat.shiftLeft_eq,show(-1074-last).toNat=0 by omega,Nat.pow_zero,Nat.mul_one];by_cases hel:e<=last
  ·rw[show(e-last).toNat=0 by omega,Nat.pow_zero,Nat.mul_one];have e1:(last- -1074).toNat=(last-e).toNat+k:=(by omega);rw[e1,Nat.pow_add,z7M,Nat.mul_div_mul_right _ _ hp]
  ·have e1:k=(e-last).toNat+(last- -1074).toNat:=by omega
   rw[show(last-e).toNat=0 by omega,e1,Nat.pow_add,<-Nat.mul_assoc];have hq:=Nat.two_pow_pos (last- -1074).toNat;generalize 2^(last- -1074).toNat=Q at*
   generalize m*2^(e-last).toNat=M at*
   have t1:Flt.more Toward.even s M (2^0)=false:=(by unfold Flt.more;simp only[Nat.pow_zero,Nat.mod_one];rfl);have t2:Flt.more Toward.even s (M*Q) Q=false:=(by unfold Flt.more;simp only[Nat.mul_mod_left];rw[show decide (Q<2*0)=false by rw[decide_eq_false_iff_not];omega,show(Q==2*0)=false by rw[beq_eq_false_iff_ne];omega];rfl);rw[t1,t2,Nat.mul_div_cancel _ hq];simp
theorem z2s{d:Datum}{s:Bool}{M:Nat}(h:Flt.Num 1074 d s M):double.write d=double.word s (Sm.zN M):=by obtain⟨m,e,rfl,h1,rfl⟩:=h;show double.nearest s m e=_;rw[z3U s m e (by omega),xT];rfl
theorem zat{s:Bool}{a b:Nat}(ha:a<2^63)(hb:b<2^63)(h:double.word s a=double.word s b):a=b:=by have:=congrArg Flt.zR h;rwa[Flt.qi s ha,Flt.qi s hb]at this
theorem z9m{R:Nat}(h:R<=2047*2^52):Sm.zN (Flt.mag R)=R:=by have h1:Flt.z2r 1074 false (Flt.mag R) (double.nearest false (Flt.mag R) (-1074)):=(by have:=Flt.z0k false (Flt.mag R) (-1074) 1074 (Nat.le_refl _) (by decide);have e:((-1074:Int)+((1074:Nat):Int)).toNat=0:=(by decide);rw[e,Nat.pow_zero,Nat.mul_one]at this;exact this);have h2:=h1.exact h (by rw[Nat.sub_self,Nat.pow_zero,Nat.mul_one]);rw[xT]at h2;exact zat (Sm.z0Q _) (by omega) h2
theorem z4V(s:Bool)(r:Nat):double.word s r=if s=true then r+9223372036854775808 else r:=by
 unfold Format.word;rw[Flt.sw];cases s
 ·simp
 ·simp;omega
end Go.Proofs.YtkkecpamnnojoaaGreatDoor.Rn
namespace Go.Proofs.YtkkecpamnnojoaaGreatDoor.Us
theorem z5u{V q r k:Nat}(h:V=q*2^(k+1)+r)(hr:r<2^(k+1)):Sm.z2k V (k+1)=if 2^k<r\/(r=2^k/\q%2=1)then q+1 else q:=by
 have hp:=Nat.two_pow_pos k;have e1:2^(k+1)=2^k*2:=Nat.pow_succ ..;have hq:V/2^(k+1)=q:=Nat.div_eq_of_lt_le (by omega) (by rw[Nat.add_mul,Nat.one_mul];omega);unfold Sm.z2k;simp only;rw[Nat.shiftRight_eq_div_pow,Nat.add_sub_cancel,hq,Nat.testBit_eq_decide_div_mod_eq];have hk:V/2^k=2*q+r/2^k:=(by rw[h,e1,show q*(2^k*2)+r=r+2^k*(2*q) by rw[Nat.mul_left_comm,Nat.mul_comm q 2];omega,Nat.add_mul_div_left _ _ hp,Nat.add_comm]);have hm:V%2^k=r%2^k:=(by rw[h,e1,show q*(2^k*2)+r=r+2^k*(2*q) by rw[Nat.mul_left_comm,Nat.mul_comm q 2];omega,Nat.add_mul_mod_self_left]);rw[hk,hm];rw[e1]at hr;have e2:=Nat.div_add_mod r (2^k);have e3:=Nat.mod_lt r hp;have h2:r/2^k=0\/r/2^k=1:=(by have h3:r/2^k<2:=Nat.div_lt_of_lt_mul hr;generalize r/2^k=t at h3;omega);generalize 2^k=g at*
 rcases h2 with h2|h2
 ·rw[h2,Nat.mul_zero]at e2;rw[h2,if_neg (by simp<;>omega),if_neg (by omega)]
 ·rw[h2,Nat.mul_one]at e2
  rw[h2];by_cases hz:r%g=0
  ·by_cases hq2:q%2=1
   ·rw[if_pos (by simp<;>omega),if_pos (by omega)]
   ·rw[if_neg (by simp<;>omega),if_neg (by omega)]
  ·rw[if_pos (by simp<;>omega),if_pos (by omega)]
theorem z1z{m0 V w:Nat}{E:Int}{l:Nat}(F:Flo m0 E l)(hw:(w:Int)=E+1074)(h0:m0%2=0->(4*m0-l)*2^w<=4*V/\4*V<=(4*m0+2)*2^w)(h1:m0%2=1->(4*m0-l)*2^w<4*V/\4*V<(4*m0+2)*2^w):
  Sm.zN V=w*4503599627370496+m0:=by
 have hm1:=F.m1;have hm2:=F.m2;have hE:=F.e1;have hl:l<=2/\1<=l:=(by rcases F.l2 with h|⟨h,-⟩<;>omega);have hle:(4*m0-l)*2^w<=4*V/\4*V<=(4*m0+2)*2^w:=by
  rcases Nat.mod_two_eq_zero_or_one m0 with h|h
  ·exact h0 h
  ·exact⟨Nat.le_of_lt (h1 h).1,Nat.le_of_lt (h1 h).2⟩
 have small:V<2^53->Sm.zN V=V:=(by intro h;unfold Sm.zN;simp only;rw[if_pos];have hL:=Sm.z0D V;refine Nat.le_of_not_lt fun hlt=>?_;have h2:=hL.2 (by omega);have h3:2^53<=2^(Sm.z1f V-1):=Nat.pow_le_pow_right (by decide) (by omega);omega);by_cases hw0:w=0
 ·subst hw0;rw[Nat.pow_zero,Nat.mul_one,Nat.mul_one]at hle;have hV:V=m0:=(by omega);rw[small (by omega),hV];omega
 ·obtain⟨k,rfl⟩:∃k,w=k+1:=⟨w-1,by omega⟩
  have hm52:4503599627370496<=m0:=(by rcases F.nor with h|h<;>omega);have hp:=Nat.two_pow_pos k;have e1:2^(k+1)=2^k*2:=Nat.pow_succ ..;have b1:m0*2^(k+1)<=V+2^k/\V<=m0*2^(k+1)+2^k/\(m0%2=1->m0*2^(k+1)<V+2^k/\V<m0*2^(k+1)+2^k):=(by have a1:(4*m0-2)*2^(k+1)<=(4*m0-l)*2^(k+1):=Nat.mul_le_mul_right _ (by omega);have a2:(4*m0-2)*2^(k+1)+2*2^(k+1)=4*(m0*2^(k+1)):=(by rw[<-Nat.add_mul,show 4*m0-2+2=4*m0 by omega,Nat.mul_assoc]);have a3:(4*m0+2)*2^(k+1)=4*(m0*2^(k+1))+2*2^(k+1):=(by rw[Nat.add_mul,Nat.mul_assoc]);refine⟨by omega,by omega,fun h=>?_⟩;have:=h1 h;omega);have fin:Sm.z1f V=53+(k+1)->Sm.zN V=(k+1)*4503599627370496+m0:=by
   intro hn;have hd:Sm.z2k V (k+1)=m0:=by
    by_cases hV:m0*2^(k+1)<=V
    ·obtain⟨r,hr⟩:∃r,V=m0*2^(k+1)+r:=⟨V-m0*2^(k+1),by omega⟩
     rw[z5u hr (by omega),if_neg];rintro(h|⟨h,h2⟩)
     ·omega
     ·have:=(b1.2.2 h2).2;omega
    ·have hx:(m0-1)*2^(k+1)+2^(k+1)=m0*2^(k+1):=by
      have:=Nat.add_mul (m0-1) 1 (2^(k+1));rw[Nat.one_mul,show m0-1+1=m0 by omega]at this;exact this.symm
     obtain⟨r,hr⟩:∃r,V=(m0-1)*2^(k+1)+r:=⟨V-(m0-1)*2^(k+1),by omega⟩;rw[z5u hr (by omega),if_pos]
     ·omega
     ·rcases Nat.lt_or_ge (2^k) r with h|h
      ·exact .inl h
      ·right
       refine⟨by omega,?_⟩;rcases Nat.mod_two_eq_zero_or_one m0 with h3|h3
       ·omega
       ·have:=(b1.2.2 h3).1;omega
   unfold Sm.zN;simp only;rw[hn,if_neg (by omega),show 53+(k+1)-53=k+1 by omega,hd];have hne:¬m0=2^53:=(by omega);rw[if_neg hne,if_neg hne,if_neg (by omega)];omega
  have hup:V<2^(53+(k+1)):=(by have e53:2^(53+(k+1))=9007199254740992*2^(k+1):=(by rw[Nat.pow_add]);rw[e53];have:(m0+1)*2^(k+1)<=9007199254740992*2^(k+1):=Nat.mul_le_mul_right _ (by omega);rw[Nat.add_mul,Nat.one_mul]at this;omega);by_cases hlow:4503599627370496*2^(k+1)<=V
  ·refine fin (Sm.z3l ⟨hup,fun _=>?_⟩);rw[show 53+(k+1)-1=52+(k+1) by omega,Nat.pow_add];exact hlow
  ·--just below a power of two
   have hm:m0=4503599627370496:=(by refine Nat.le_antisymm (Nat.le_of_not_lt fun h=>hlow ?_) hm52;have:4503599627370497*2^(k+1)<=m0*2^(k+1):=Nat.mul_le_mul_right _ h;have e:4503599627370497*2^(k+1)=4503599627370496*2^(k+1)+2^(k+1):=(by rw[Nat.add_mul 4503599627370496 1,Nat.one_mul]);omega);have hl1:l=1:=F.lp (by omega) hm;rw[hm,hl1]at hle;have c1:(4*4503599627370496-1)*2^(k+1)+2^(k+1)=4*(4503599627370496*2^(k+1)):=(by rw[<-Nat.mul_assoc,show(4*4503599627370496-1:Nat)=18014398509481983 by decide,show(4*4503599627370496:Nat)=18014398509481983+1 by decide,Nat.add_mul,Nat.one_mul]);rcases k with _|j
   ·have e2:(2:Nat)^(0+1)=2:=(by decide);rw[e2]at hle hlow c1;omega
   ·have e3:2^(j+1+1)=4*2^j:=by rw[Nat.pow_succ,Nat.pow_succ];omega
    have e4:2^(j+1)=2*2^j:=(by rw[Nat.pow_succ,Nat.mul_comm]);have hj:=Nat.two_pow_pos j;have hn:Sm.z1f V=53+(j+1):=by
     refine Sm.z3l ⟨?_,fun _=>?_⟩
     ·rw[Nat.pow_add,e4,show(2:Nat)^53=9007199254740992 by decide];rw[e3]at hlow;omega
     ·rw[show 53+(j+1)-1=52+(j+1) by omega,Nat.pow_add,e4,show(2:Nat)^52=4503599627370496 by decide];rw[e3]at hle c1;omega
    obtain⟨r,hr⟩:∃r,V=9007199254740991*2^(j+1)+r:=⟨V-9007199254740991*2^(j+1),by rw[e4];rw[e3]at hle c1;omega⟩;have hd:Sm.z2k V (j+1)=9007199254740992:=by
     rw[z5u hr (by rw[e4];rw[e4]at hr;rw[e3]at hlow;omega),if_pos];rw[e4]at hr;rw[e3]at hle c1;rcases Nat.lt_or_ge (2^j) r with h|h
     ·exact .inl h
     ·exact .inr ⟨by omega,by decide⟩
    unfold Sm.zN;simp only;rw[hn,if_neg (by omega),show 53+(j+1)-53=j+1 by omega,hd];have he:(9007199254740992:Nat)=2^53:=(by decide);rw[if_pos he,if_pos he,if_neg (by omega),hm];omega
end Go.Proofs.YtkkecpamnnojoaaGreatDoor.Us
namespace Go.Proofs.YtkkecpamnnojoaaGreatDoor.Re
open Go.Proofs.YtkkecpamnnojoaaGreatDoor
end Go.Proofs.YtkkecpamnnojoaaGreatDoor.Re
namespace Go.Proofs.YtkkecpamnnojoaaGreatDoor.Rn
open Go Go.Proofs.YtkkecpamnnojoaaGreatDoor Ieee
open Go.ChangeShapes Go.WideShapes Go.ChangeAt Go.RowKit
open Go.Proofs.YtkkecpamnnojoaaGreatDoor.Sm
end Go.Proofs.YtkkecpamnnojoaaGreatDoor.Rn
namespace Go.Proofs.YtkkecpamnnojoaaGreatDoor.Rn
open Go Go.Proofs.YtkkecpamnnojoaaGreatDoor Ieee
open Go.ChangeShapes Go.WideShapes Go.ChangeAt Go.RowKit
open Go.Proofs.YtkkecpamnnojoaaGreatDoor.Sm
theorem zb3(V:Nat):zN V<=2047*2^52:=by
 by_cases h:V=0
 ·subst h;decide+kernel
 ·rw[z4k false V h];exact Nat.min_le_right _ _
theorem z4W(s:Bool)(V:Nat):Flt.nan (double.word s (zN V))=false:=by have h:=zb3 V;unfold Flt.nan;rw[Flt.qi s (by omega),decide_eq_false_iff_not];omega
end Go.Proofs.YtkkecpamnnojoaaGreatDoor.Rn
namespace Go.Proofs.YtkkecpamnnojoaaGreatDoor.Us
open Go Go.Proofs.YtkkecpamnnojoaaGreatDoor Ieee
theorem z1r:∃P:Nat,P=1074/\Flt.U=2^P:=by have key:∀e:Nat,e=1074->∃P:Nat,P=1074/\Flt.U=2^P:=fun e h=>⟨e,h,Flt.ze9 h⟩;exact key 1074 rfl
theorem qY{a x:Nat}(fa:Flt.Fin a)(ha:Flt.mag (Flt.zR a)=x*Flt.U)(hx:1<=x):∃(m:Nat) (e:Int),double.read a=.number (Flt.neg a) m e/\ -53<=e/\m*2^(e+1074).toNat=x*Flt.U/\m<2^53:=by obtain⟨m,e,h1,h2,h3,h4⟩:=Flt.z9s fa;obtain⟨P,hP,hU⟩:=z1r;rw[show((1074:Nat):Int)=1074 from rfl]at h2 h3;rw[ha]at h3;refine⟨m,e,h1,?_,h3,h4⟩;refine Int.le_of_not_gt fun hlt=>?_;rw[hU]at h3;have c1:m*2^(e+1074).toNat<2^53*2^(e+1074).toNat:=Nat.mul_lt_mul_of_pos_right h4 (Nat.two_pow_pos _);rw[<-Nat.pow_add]at c1;have c2:2^(53+(e+1074).toNat)<=2^P:=Nat.pow_le_pow_right (by decide) (by omega);have c3:1*2^P<=x*2^P:=Nat.mul_le_mul_right _ hx;omega
theorem z6i{a b x y:Nat}(fa:Flt.Fin a)(fb:Flt.Fin b)(ha:Flt.mag (Flt.zR a)=x*Flt.U)(hb:Flt.mag (Flt.zR b)=y*Flt.U)(hx:1<=x)(hy:1<=y):
  double.mul a b=some (double.word (Flt.neg a^^Flt.neg b) (Sm.zN (x*y*Flt.U))):=by
 obtain⟨m,i,r1,i1,v1,-⟩:=qY fa ha hx;obtain⟨n,j,r2,j1,v2,-⟩:=qY fb hb hy;have hU:=Flt.z6X;obtain⟨P,hP,hUP⟩:=z1r;unfold Format.mul;rw[r1,r2];refine congrArg some (Rn.z2s ⟨m*n,i+j,rfl,by omega,?_⟩);refine Nat.eq_of_mul_eq_mul_right hU ?_;generalize Flt.U=UU at*
 have e1:(i+j+((1074:Nat):Int)).toNat+P=(i+1074).toNat+(j+1074).toNat:=by omega
 calc m*n*2^(i+j+((1074:Nat):Int)).toNat*UU=m*n*(2^(i+j+((1074:Nat):Int)).toNat*2^P):=by rw[hUP,Nat.mul_assoc]
  _=m*n*(2^(i+1074).toNat*2^(j+1074).toNat):=by rw[<-Nat.pow_add,e1,Nat.pow_add]
  _=(m*2^(i+1074).toNat)*(n*2^(j+1074).toNat):=by ac_rfl
  _=x*UU*(y*UU):=by rw[v1,v2]
  _=x*y*UU*UU:=by ac_rfl
theorem z1p{u d k:Nat}(hk:exb u<2047)(hm:Sm.zt u≠0)(W:zV (Sm.zt u) (E0 u) (lw u) d k):Sm.zN (d*10^k*Flt.U)=u%9223372036854775808:=by
 have F:=z5n hk hm;obtain⟨P,hP,hU⟩:=z1r;have hE0:=F.e0;generalize Flt.U=UU at*
 obtain⟨w,hw⟩:∃w:Nat,(w:Int)=E0 u+1074:=⟨(E0 u+1074).toNat,by omega⟩;have hnum:num (k:Int) (2-E0 u)*2^w*1=4*(10^k*UU)*den (k:Int) (2-E0 u):=by
  unfold num den;rw[Int.toNat_natCast,show(-(k:Int)).toNat=0 by omega,Nat.pow_zero,Nat.one_mul,Nat.mul_one,hU];have e:2^(2-E0 u).toNat*2^w=2^2*2^P*2^(-(2-E0 u)).toNat:=by
   rw[<-Nat.pow_add,<-Nat.pow_add,<-Nat.pow_add]
   congr 1
   omega
  have e4:(2:Nat)^2=4:=(by decide);rw[e4]at e;generalize 10^k=T
  calc T*2^(2-E0 u).toNat*2^w=T*(2^(2-E0 u).toNat*2^w):=Nat.mul_assoc ..
   _=T*(4*2^P*2^(-(2-E0 u)).toNat):=by rw[e]
   _=4*(T*2^P)*2^(-(2-E0 u)).toNat:=by ac_rfl
 rw[Nat.mul_one]at hnum;have hB:=yE (k:Int) (2-E0 u);have h2w:=Nat.two_pow_pos w;have hV:d*num (k:Int) (2-E0 u)*2^w=4*(d*10^k*UU)*den (k:Int) (2-E0 u):=(by rw[Nat.mul_assoc,hnum];ac_rfl);have key:∀c,(c*den (k:Int) (2-E0 u)<=d*num (k:Int) (2-E0 u)↔c*2^w<=4*(d*10^k*UU))/\(d*num (k:Int) (2-E0 u)<=c*den (k:Int) (2-E0 u)↔4*(d*10^k*UU)<=c*2^w):=by
  intro c;have s:c*den (k:Int) (2-E0 u)*2^w=c*2^w*den (k:Int) (2-E0 u):=Nat.mul_right_comm ..;constructor
  ·exact(Nat.mul_le_mul_right_iff h2w).symm.trans ((by rw[s,hV]:c*den (k:Int) (2-E0 u)*2^w<=d*num (k:Int) (2-E0 u)*2^w↔c*2^w*den (k:Int) (2-E0 u)<=4*(d*10^k*UU)*den (k:Int) (2-E0 u)).trans (Nat.mul_le_mul_right_iff hB))
  ·exact(Nat.mul_le_mul_right_iff h2w).symm.trans ((by rw[s,hV]:d*num (k:Int) (2-E0 u)*2^w<=c*den (k:Int) (2-E0 u)*2^w↔4*(d*10^k*UU)*den (k:Int) (2-E0 u)<=c*2^w*den (k:Int) (2-E0 u)).trans (Nat.mul_le_mul_right_iff hB))
 have R:=z1z (V:=d*10^k*UU) F hw (fun h=>⟨(key _).1.1 (W.1 h).1,(key _).2.1 (W.1 h).2⟩) (fun h=>by
  have a:=W.2 h;refine⟨Nat.lt_of_not_le fun h3=>?_,Nat.lt_of_not_le fun h3=>?_⟩
  ·have:=(key _).2.2 h3;omega
  ·have:=(key _).1.2 h3;omega)
 rw[R];unfold E0 at hw;unfold Sm.zt exb at*
 by_cases h0:u/2^52%2048=0
 ·rw[if_pos h0]at hw⊢
  omega
 ·rw[if_neg h0]at hw⊢
  omega
end Go.Proofs.YtkkecpamnnojoaaGreatDoor.Us
namespace Go.Proofs.YtkkecpamnnojoaaGreatDoor.Us
open Go Go.Proofs.YtkkecpamnnojoaaGreatDoor Ieee
def two(D n:Nat):Nat:=2*(D/n)+(D%n != 0).toNat
theorem zaD{D n:Nat}(hn:0<n)(Z:Nat):(Z*n<=D->2*Z<=two D n)/\(Z*n<D->2*Z<two D n)/\(D<=Z*n->two D n<=2*Z)/\(D<Z*n->two D n<2*Z):=by
 have e:=Nat.div_add_mod D n;have l:=Nat.mod_lt D hn;rw[Nat.mul_comm]at e;unfold two;have hb:(D%n != 0).toNat<=1:=(by cases(D%n != 0)<;>simp);have hb1:D%n≠0->(D%n != 0).toNat=1:=fun h=>(by have:(D%n != 0)=true:=(by rw[bne_iff_ne];exact h);rw[this];rfl);have hb0:D%n=0->(D%n != 0).toNat=0:=fun h=>(by rw[h];rfl);generalize(D%n != 0).toNat=s at*
 generalize D%n=r at*
 generalize D/n=q at*
 refine⟨fun h=>?_,fun h=>?_,fun h=>?_,fun h=>?_⟩
 ·have:Z<=q:=by
   refine Nat.le_of_not_lt fun h2=>?_;have:=Nat.mul_le_mul_right n (show q+1<=Z from h2);rw[Nat.add_mul,Nat.one_mul]at this;omega
  omega
 ·have h1:Z<=q:=by
   refine Nat.le_of_not_lt fun h2=>?_;have:=Nat.mul_le_mul_right n (show q+1<=Z from h2);rw[Nat.add_mul,Nat.one_mul]at this;omega
  by_cases h2:Z=q
  ·subst h2;have:=hb1 (by omega);omega
  ·omega
 ·have h1:q<=Z:=by
   refine Nat.le_of_not_lt fun h2=>?_;have:=Nat.mul_le_mul_right n (show Z+1<=q from h2);rw[Nat.add_mul,Nat.one_mul]at this;omega
  by_cases h2:q=Z
  ·subst h2;have:=hb0 (by omega);omega
  ·omega
 ·have h1:q<Z:=by
   refine Nat.lt_of_not_le fun h2=>?_;have:=Nat.mul_le_mul_right n h2;omega
  omega
theorem zco{a b u d k:Nat}(fa:Flt.Fin a)(fb:Flt.Fin b)(ha:Flt.mag (Flt.zR a)=d*Flt.U)(hb:Flt.mag (Flt.zR b)=10^k*Flt.U)(hd:1<=d)
  (hk:exb u<2047)(hm:Sm.zt u≠0)(W:zV (Sm.zt u) (E0 u) (lw u) d (-(k:Int)))(hk22:10^k<2^80):double.div a b=some (double.word (Flt.neg a^^Flt.neg b) (u%9223372036854775808)):=by
 have F:=z5n hk hm;have hT:1<=10^k:=Nat.one_le_iff_ne_zero.2 (by have:=Nat.pow_pos (a:=10) (n:=k) (by decide);omega);obtain⟨m,i,r1,i1,v1,m1⟩:=qY fa ha hd;obtain⟨n,j,r2,j1,v2,n1⟩:=qY fb hb hT;obtain⟨P,hP,hUP⟩:=z1r;have hE0:=F.e0;have hm2:=F.m2;obtain⟨w,hw⟩:∃w:Nat,(w:Int)=E0 u+1074:=⟨(E0 u+1074).toNat,by omega⟩;have hU:=Flt.z6X;have hmp:m≠0:=fun h=>(by rw[h,Nat.zero_mul]at v1;rcases Nat.mul_eq_zero.1 v1.symm with h2|h2<;>omega);have hnp:n≠0:=fun h=>(by rw[h,Nat.zero_mul]at v2;rcases Nat.mul_eq_zero.1 v2.symm with h2|h2<;>omega);have hj:j<=80:=(by refine Int.le_of_not_gt fun hlt=>?_;have c1:1*2^(j+1074).toNat<=n*2^(j+1074).toNat:=Nat.mul_le_mul_right _ (by omega);rw[v2,Nat.one_mul,hUP]at c1;have c2:10^k*2^P<2^80*2^P:=Nat.mul_lt_mul_of_pos_right hk22 (Nat.two_pow_pos P);rw[<-Nat.pow_add]at c2;have c3:2^(80+P)<=2^(j+1074).toNat:=Nat.pow_le_pow_right (by decide) (by omega);omega);have lm1:2^Nat.log2 m<=m:=Nat.log2_self_le hmp;have lm2:m<2^(Nat.log2 m+1):=Nat.lt_log2_self;have ln1:2^Nat.log2 n<=n:=Nat.log2_self_le hnp;have ln2:n<2^(Nat.log2 n+1):=Nat.lt_log2_self;have hlm:Nat.log2 m<=52:=(by refine Nat.le_of_not_lt fun h=>?_;have:2^53<=2^Nat.log2 m:=Nat.pow_le_pow_right (by decide) (by omega);omega);have hln:Nat.log2 n<=52:=(by refine Nat.le_of_not_lt fun h=>?_;have:2^53<=2^Nat.log2 n:=Nat.pow_le_pow_right (by decide) (by omega);omega);have hdiv:double.div a b=some (double.write (.number (Flt.neg a^^Flt.neg b) (two (m*2^(54+Nat.log2 n-Nat.log2 m)) n) (i-j-((54+Nat.log2 n-Nat.log2 m:Nat):Int)-1))):=(by unfold Format.div;rw[r1,r2,Flt.fb];unfold Datum.quotient;simp only;rw[if_neg hnp,Nat.shiftLeft_eq];rfl);rw[hdiv];have hD1:2^(54+Nat.log2 n)<=m*2^(54+Nat.log2 n-Nat.log2 m):=(by have:=Nat.mul_le_mul_right (2^(54+Nat.log2 n-Nat.log2 m)) lm1;rw[<-Nat.pow_add,show Nat.log2 m+(54+Nat.log2 n-Nat.log2 m)=54+Nat.log2 n by omega]at this;exact this);generalize hmo:54+Nat.log2 n-Nat.log2 m=more at*
 have hmo2:more<=106:=(by omega);obtain⟨t,ht⟩:∃t:Nat,(t:Int)=i-j-(more:Int)-1+1074:=⟨(i-j-(more:Int)-1+1074).toNat,by omega⟩;rw[Rn.z2s (s:=Flt.neg a^^Flt.neg b) (M:=two (m*2^more) n*2^t) ⟨_,_,rfl,by omega,by rw[show(i-j-(more:Int)-1+((1074:Nat):Int)).toNat=t by omega]⟩]
 congr 2
 have hDn:2^53*n<m*2^more:=(by have:2^53*n<2^53*2^(Nat.log2 n+1):=Nat.mul_lt_mul_of_pos_left ln2 (by decide);rw[<-Nat.pow_add,show 53+(Nat.log2 n+1)=54+Nat.log2 n by omega]at this;omega);have hval:m*2^more*2^(t+1)*10^k=n*(d*Flt.U):=by
  refine Nat.eq_of_mul_eq_mul_right (Nat.two_pow_pos (j+1074).toNat) ?_;have e1:2^more*2^(t+1)*2^(j+1074).toNat=2^P*2^(i+1074).toNat:=by
   rw[<-Nat.pow_add,<-Nat.pow_add,<-Nat.pow_add]
   congr 1
   omega
  rw[<-v1];have v2':n*2^(j+1074).toNat=10^k*2^P:=(by rw[v2,hUP]);generalize 2^(j+1074).toNat=J at*
  generalize 2^(i+1074).toNat=I at*
  generalize 2^more=M at*
  generalize 2^(t+1)=T at*
  generalize 2^P=PP at*
  generalize 10^k=K at*
  calc m*M*T*K*J=m*K*(M*T*J):=by ac_rfl
   _=m*K*(PP*I):=by rw[e1]
   _=K*PP*(m*I):=by ac_rfl
   _=n*J*(m*I):=by rw[v2']
   _=n*(m*I)*J:=by ac_rfl
 have hkey:∀c,(c*den (-(k:Int)) (2-E0 u)<=d*num (-(k:Int)) (2-E0 u)↔c*(10^k*2^w)<=d*(4*Flt.U))/\(d*num (-(k:Int)) (2-E0 u)<=c*den (-(k:Int)) (2-E0 u)↔d*(4*Flt.U)<=c*(10^k*2^w)):=by
  have hx:d*num (-(k:Int)) (2-E0 u)*(10^k*2^w)=d*(4*Flt.U)*den (-(k:Int)) (2-E0 u):=by
   unfold num den;rw[Int.neg_neg,Int.toNat_natCast,show(-(k:Int)).toNat=0 by omega,Nat.pow_zero,Nat.one_mul,hUP];have e:2^(2-E0 u).toNat*2^w=2^2*2^P*2^(-(2-E0 u)).toNat:=by
    rw[<-Nat.pow_add,<-Nat.pow_add,<-Nat.pow_add]
    congr 1
    omega
   have e4:(2:Nat)^2=4:=(by decide);rw[e4]at e;generalize 2^(2-E0 u).toNat=A at*
   generalize 2^(-(2-E0 u)).toNat=B at*
   generalize 2^w=C at*
   generalize 2^P=PP at*
   generalize 10^k=K at*
   calc d*A*(K*C)=d*K*(A*C):=by ac_rfl
    _=d*K*(4*PP*B):=by rw[e]
    _=d*(4*PP)*(K*B):=by ac_rfl
  intro c;have q:=z5i (x:=d) (y:=d) (yE (-(k:Int)) (2-E0 u)) (Nat.mul_pos hT (Nat.two_pow_pos w)) hx c;exact⟨q.1,q.2.1⟩
 generalize m*2^more=Dv at*
 have hn0:0<n:=(by omega);have h2t:=Nat.two_pow_pos t;have hval2:∀c,(c*(10^k*2^w)<=d*(4*Flt.U)↔c*2^w*n<=8*Dv*2^t)/\(d*(4*Flt.U)<=c*(10^k*2^w)↔8*Dv*2^t<=c*2^w*n):=by
  intro c;have e1:c*(10^k*2^w)*n=c*2^w*n*10^k:=(by ac_rfl);have e2:d*(4*Flt.U)*n=8*Dv*2^t*10^k:=by
   have e3:2^(t+1)=2^t*2:=Nat.pow_succ ..;rw[e3]at hval;generalize Flt.U=UU at*
   generalize 2^t=T at*
   generalize 10^k=K at*
   calc d*(4*UU)*n=4*(n*(d*UU)):=by ac_rfl
    _=4*(Dv*(T*2)*K):=by rw[<-hval]
    _=4*2*Dv*T*K:=by ac_rfl
    _=8*Dv*T*K:=rfl
  have hK:0<10^k:=hT;constructor
  ·exact(Nat.mul_le_mul_right_iff hn0).symm.trans ((by rw[e1,e2]:c*(10^k*2^w)*n<=d*(4*Flt.U)*n↔c*2^w*n*10^k<=8*Dv*2^t*10^k).trans (Nat.mul_le_mul_right_iff hK))
  ·exact(Nat.mul_le_mul_right_iff hn0).symm.trans ((by rw[e1,e2]:d*(4*Flt.U)*n<=c*(10^k*2^w)*n↔8*Dv*2^t*10^k<=c*2^w*n*10^k).trans (Nat.mul_le_mul_right_iff hK))
 have lo:∀c,c*den (-(k:Int)) (2-E0 u)<=d*num (-(k:Int)) (2-E0 u)↔c*2^w*n<=8*Dv*2^t:=fun c=>(hkey c).1.trans (hval2 c).1;have up:∀c,d*num (-(k:Int)) (2-E0 u)<=c*den (-(k:Int)) (2-E0 u)↔8*Dv*2^t<=c*2^w*n:=fun c=>(hkey c).2.trans (hval2 c).2;have hupper:d*num (-(k:Int)) (2-E0 u)<=(4*Sm.zt u+2)*den (-(k:Int)) (2-E0 u):=by
  rcases Nat.mod_two_eq_zero_or_one (Sm.zt u)with h|h
  ·exact(W.1 h).2
  ·exact Nat.le_of_lt (W.2 h).2
 obtain⟨g,hg⟩:∃g,w=t+2+g:=by
  refine⟨w-t-2,?_⟩
  suffices t+2<=w by omega
  refine Nat.le_of_not_lt fun hlt=>?_;have q1:=(up _).1 hupper;have q2:2^w<=2^(t+1):=Nat.pow_le_pow_right (by decide) (by omega);have e3:2^(t+1)=2^t*2:=Nat.pow_succ ..;have q3:(4*Sm.zt u+2)*2^w*n<=36028797018963968*(2^t*2)*n:=Nat.mul_le_mul_right _ (Nat.mul_le_mul (by omega) (by omega));have q4:8*(2^53*n)*2^t<8*Dv*2^t:=Nat.mul_lt_mul_of_pos_right (by omega) h2t;have q5:36028797018963968*(2^t*2)*n=8*(2^53*n)*2^t:=by
   have e53:(2:Nat)^53=9007199254740992:=(by decide);rw[e53]
   calc 36028797018963968*(2^t*2)*n=36028797018963968*2*n*2^t:=by ac_rfl
    _=8*9007199254740992*n*2^t:=rfl
    _=8*(9007199254740992*n)*2^t:=by rw[Nat.mul_assoc 8]
  omega
 have ew:2^w=4*2^t*2^g:=(by rw[hg,Nat.pow_add,Nat.pow_add,Nat.mul_comm (2^t)]);have ev:∀c',(2*c'*2^w*n<=8*Dv*2^t↔c'*2^g*n<=Dv)/\(8*Dv*2^t<=2*c'*2^w*n↔Dv<=c'*2^g*n)/\(2*c'*2^w=4*(2*(c'*2^g)*2^t)):=by
  intro c';have e1:2*c'*2^w*n=8*2^t*(c'*2^g*n):=by
   rw[ew]
   calc 2*c'*(4*2^t*2^g)*n=2*4*2^t*(c'*2^g*n):=by ac_rfl
    _=8*2^t*(c'*2^g*n):=rfl
  have e2:8*Dv*2^t=8*2^t*Dv:=Nat.mul_right_comm ..;have h8:0<8*2^t:=(by omega);refine⟨?_,?_,?_⟩
  ·rw[e1,e2];exact Nat.mul_le_mul_left_iff h8
  ·rw[e1,e2];exact Nat.mul_le_mul_left_iff h8
  ·rw[ew];ac_rfl
 have S:=fun Z=>zaD (D:=Dv) hn0 Z;have sc:∀x y:Nat,(4*(x*2^t)<=4*(y*2^t)↔x<=y):=fun x y=>(by rw[Nat.mul_le_mul_left_iff (by decide:0<4),Nat.mul_le_mul_right_iff h2t]);have hm1:=F.m1;have c2:4*Sm.zt u-2=2*(2*Sm.zt u-1):=(by omega);have c3:4*Sm.zt u+2=2*(2*Sm.zt u+1):=(by omega);have hR:=z1z (V:=two Dv n*2^t) F hw (fun h=>?_) (fun h=>?_)
 ·rw[hR]
  unfold E0 at hw;unfold Sm.zt exb at*
  by_cases h0:u/2^52%2048=0
  ·rw[if_pos h0]at hw⊢
   omega
  ·rw[if_neg h0]at hw⊢
   omega
 ·have a:=W.1 h
  refine⟨?_,?_⟩
  ·have al:=(lo _).1 a.1
   rcases F.l2 with hl|⟨hl,hmm,-⟩
   ·rw[hl,c2]at al⊢
    rw[(ev _).2.2,sc];exact(S _).1 ((ev _).1.1 al)
   ·rcases g with _|g'
    ·have q:=(S (2^53)).2.1 hDn;rw[hl,hmm,ew,Nat.pow_zero,Nat.mul_one];have e53:(2:Nat)^53=9007199254740992:=(by decide);rw[e53]at q;have:=Nat.mul_le_mul_right (2^t) (Nat.le_of_lt q);omega
    ·have e5:2^(g'+1)=2^g'*2:=Nat.pow_succ ..
     have e6:(4*Sm.zt u-lw u)*2^w=4*(2*((4*Sm.zt u-lw u)*2^g')*2^t):=(by rw[ew,e5];generalize 4*Sm.zt u-lw u=cc;ac_rfl);rw[e6,sc];refine(S _).1 ?_;rw[e6]at al;have e7:4*(2*((4*Sm.zt u-lw u)*2^g')*2^t)*n=8*2^t*((4*Sm.zt u-lw u)*2^g'*n):=by
      generalize 4*Sm.zt u-lw u=cc
      calc 4*(2*(cc*2^g')*2^t)*n=4*2*2^t*(cc*2^g'*n):=by ac_rfl
       _=8*2^t*(cc*2^g'*n):=rfl
     rw[e7,show 8*Dv*2^t=8*2^t*Dv from Nat.mul_right_comm ..]at al;exact(Nat.mul_le_mul_left_iff (by omega)).1 al
  ·have au:=(up _).1 a.2
   rw[c3]at au⊢
   rw[(ev _).2.2,sc];exact(S _).2.2.1 ((ev _).2.1.1 au)
 ·have a:=W.2 h
  have hl:lw u=2:=by
   rcases F.l2 with hl|⟨-,hmm,-⟩
   ·exact hl
   ·omega
  rw[hl]at a⊢
  refine⟨Nat.lt_of_not_le fun hle=>?_,Nat.lt_of_not_le fun hle=>?_⟩
  ·rw[c2,(ev _).2.2,sc]at hle;have:¬(2*Sm.zt u-1)*2^g*n<Dv:=fun h3=>(by have:=(S _).2.1 h3;omega);have h4:=(ev (2*Sm.zt u-1)).2.1.2 (Nat.le_of_not_lt this);rw[<-c2]at h4;have:=(up _).2 h4;omega
  ·rw[c3,(ev _).2.2,sc]at hle;have:¬Dv<(2*Sm.zt u+1)*2^g*n:=fun h3=>(by have:=(S _).2.2.2 h3;omega);have h4:=(ev (2*Sm.zt u+1)).1.2 (Nat.le_of_not_lt this);rw[<-c3]at h4;have:=(lo _).2 h4;omega
end Go.Proofs.YtkkecpamnnojoaaGreatDoor.Us
namespace Go.Proofs.YtkkecpamnnojoaaGreatDoor.Sm
theorem zcX(x:Nat)(w:World):(Op.unary UnOp.neg (.float .f64 x)).run Tryz.prog w=.ok (.float .f64 (Op.negFloat .f64 x)) w:=rfl
theorem zbz{x:Nat}(h:x<9223372036854775808):Op.negFloat .f64 x=x+9223372036854775808:=by
 have h1:Op.negFloat .f64 x=x^^^2^63:=rfl;have h3:x|||2^63=x+2^63:=(by rw[Nat.or_comm,Nat.add_comm];have:=Nat.two_pow_add_eq_or_of_lt (i:=63) (b:=x) (by omega) 1;simpa using this.symm);have h4:x^^^2^63=x|||2^63:=by
  apply Nat.eq_of_testBit_eq;intro j;rw[Nat.testBit_xor,Nat.testBit_or,Nat.testBit_two_pow];by_cases hj:63=j
  ·subst hj;have:x.testBit 63=false:=Nat.testBit_lt_two_pow (by omega);simp[this]
  ·simp[hj]
 rw[h1,h4,h3]
end Go.Proofs.YtkkecpamnnojoaaGreatDoor.Sm
namespace Go.Proofs.YtkkecpamnnojoaaGreatDoor.Us
open Go Go.Proofs.YtkkecpamnnojoaaGreatDoor Ieee
def w10(k:Nat):Nat:=[4607182418800017408,4621819117588971520,4636737291354636288,4652007308841189376,4666723172467343360,4681608360884174848,4696837146684686336,4711630319722168320,4726483295884279808,4741671816366391296,4756540486875873280,4771362005757984768,4786511204640096256,4801453603149578240,4816244402031689728,4831355200913801216,4846369599423283200,4861130398305394688,4876203697187506176,4891288408196988160,4906019910204099648,4921056587992461136,4936209963552724370].getD k 0
theorem zcL:∀k:Fin 23,(decide (Flt.mag (Flt.zR (w10 k.val))=10^k.val*Flt.U)&&decide (Flt.zR (w10 k.val)<2047*2^52)&&(Flt.neg (w10 k.val)==false)&&decide (10^k.val<2^80))=true:=by decide+kernel
theorem z1q{k:Nat}(h:k<=22):Flt.mag (Flt.zR (w10 k))=10^k*Flt.U/\Flt.Fin (w10 k)/\Flt.neg (w10 k)=false/\10^k<2^80:=by have:=zcL ⟨k,by omega⟩;simp only[Bool.and_eq_true,decide_eq_true_eq,beq_iff_eq]at this;exact⟨this.1.1.1,this.1.1.2,this.1.2,this.2⟩
def fw(s:Bool)(d:Nat):Nat:=if s then Op.negFloat .f64 (floatOfInt .f64 (d:Int))else floatOfInt .f64 (d:Int)
theorem z0m{d:Nat}(s:Bool)(h:d<=2^53):Flt.mag (Flt.zR (fw s d))=d*Flt.U/\Flt.Fin (fw s d)/\Flt.neg (fw s d)=s/\fw s d=double.word s (Sm.zN (d*Flt.U)):=by
 obtain⟨R,h1,h2,h3⟩:=Flt.z9K h;have hR:Sm.zN (d*Flt.U)=R:=(by rw[<-h2,Rn.z9m (Nat.le_of_lt h1)]);have hw:double.word false R=R:=(by rw[Rn.z4V];rfl);have hlt:R<9223372036854775808:=(by omega);have hfw:fw s d=double.word s R:=by
  unfold fw;rw[h3,hw];cases s
  ·rw[hw];rfl
  ·rw[if_pos rfl,Sm.zbz hlt,Rn.z4V,if_pos rfl]
 rw[hfw,Flt.qi s (by omega),h2,hR];refine⟨rfl,?_,Flt.z2N s (by omega),rfl⟩;unfold Flt.Fin;rw[Flt.qi s (by omega)];exact h1
theorem z71{u:Nat}(hu:u<18446744073709551616):double.word (Sm.yv u) (u%9223372036854775808)=u:=by
 rw[Rn.z4V];unfold Sm.yv;have e63:(2:Nat)^63=9223372036854775808:=(by decide);rw[e63];by_cases h:9223372036854775808<=u
 ·rw[if_pos (decide_eq_true h)];omega
 ·rw[if_neg (by rw[decide_eq_true_eq];exact h)];omega
theorem z7X{u d:Nat}(hu:u<18446744073709551616)(hk:exb u<2047)(hm:Sm.zt u≠0)(W:zV (Sm.zt u) (E0 u) (lw u) d 0)(h:d<=2^53):fw (Sm.yv u) d=u:=by rw[(z0m (Sm.yv u) h).2.2.2];have:=z1p (k:=0) hk hm W;rw[Nat.pow_zero,Nat.mul_one]at this;rw[this,z71 hu]
theorem z4M{u d k:Nat}(hu:u<18446744073709551616)(hk:exb u<2047)(hm:Sm.zt u≠0)(W:zV (Sm.zt u) (E0 u) (lw u) d (k:Int))(h:d<=2^53)(h1:1<=d)(hk22:k<=22):
  double.mul (fw (Sm.yv u) d) (w10 k)=some u:=by
 obtain⟨a1,a2,a3,-⟩:=z0m (Sm.yv u) h;obtain⟨b1,b2,b3,-⟩:=z1q hk22;have hT:1<=10^k:=Nat.one_le_iff_ne_zero.2 (by have:=Nat.pow_pos (a:=10) (n:=k) (by decide);omega);rw[z6i a2 b2 a1 b1 h1 hT,a3,b3,Bool.xor_false,z1p hk hm W,z71 hu]
theorem za7{u d k:Nat}(hu:u<18446744073709551616)(hk:exb u<2047)(hm:Sm.zt u≠0)(W:zV (Sm.zt u) (E0 u) (lw u) d (-(k:Int)))(h:d<=2^53)(h1:1<=d)(hk22:k<=22):
  double.div (fw (Sm.yv u) d) (w10 k)=some u:=by
 obtain⟨a1,a2,a3,-⟩:=z0m (Sm.yv u) h;obtain⟨b1,b2,b3,b4⟩:=z1q hk22;rw[zco a2 b2 a1 b1 h1 hk hm W b4,a3,b3,Bool.xor_false,z71 hu]
theorem z2h{d j:Nat}(s:Bool)(h:d<=2^53)(h1:1<=d)(hj:j<=22):double.mul (fw s d) (w10 j)=some (double.word s (Sm.zN (d*10^j*Flt.U))):=by obtain⟨a1,a2,a3,-⟩:=z0m s h;obtain⟨b1,b2,b3,-⟩:=z1q hj;have hT:1<=10^j:=Nat.one_le_iff_ne_zero.2 (by have:=Nat.pow_pos (a:=10) (n:=j) (by decide);omega);rw[z6i a2 b2 a1 b1 h1 hT,a3,b3,Bool.xor_false]
end Go.Proofs.YtkkecpamnnojoaaGreatDoor.Us
namespace Go.Proofs.YtkkecpamnnojoaaGreatDoor
open Go.ChangeShapes Go.WideShapes Go.ChangeAt Go.RowKit
open Bt
structure P10 (w:World):Prop where
 bits:w.cell? ⟨9,0,none⟩=some (.int .u64 52)
 row:∃ad cap,w.cell? ⟨14,0,none⟩=some (.slice (some ad) 23 cap)/\∀i,i<23->w.cell? (ad.add i)=some (.float .f64 (Us.w10 i))
def Exa(d:Nat)(p:Int)(s:Bool)(r:Nat):Prop:=∀u,u<18446744073709551616->Us.exb u<2047->Sm.zt u≠0->Sm.yv u=s->Us.zV (Sm.zt u) (Us.E0 u) (Us.lw u) d p->r=u
theorem ze3(d:Nat)(p:Int)(s:Bool)(w:World)(h0:4503599627370496<=d)(h1:d<18446744073709551616)(hP:P10 w):
  Calls Tryz.prog 191 #[.int .u64 (d:Int),.int .i64 p,.bool s] w fun e w'=>e=.returned (.tuple #[.float .f64 0,.bool false])/\w=w':=by
 have c0:=hP.bits;have hq:((d:Int)/4503599627370496==0)=false:=Qb (by omega);have hq2:(((d/4503599627370496:Nat):Int)==0)=false:=Qb (by omega);clear hP;go_in;go_wp2_with fail;go_ret2;exact⟨rfl,rfl⟩
theorem z6A(d:Nat):Us.fw false d=floatOfInt .f64 (d:Int):=by unfold Us.fw;simp only[Bool.false_eq_true,if_false]
theorem zdC(d:Nat):Us.fw true d=Op.negFloat .f64 (Us.fw false d):=by rw[z6A];unfold Us.fw;simp only[if_true]
theorem z32(s:Bool)(d:Nat):(∀w:World,(convert 109 30 (.int .u64 (d:Int))).run Tryz.prog w=.ok (.float .f64 (Us.fw false d)) w)/\(∀w:World,(Op.unary UnOp.neg (.float .f64 (Us.fw false d))).run Tryz.prog w=.ok (.float .f64 (Us.fw true d)) w):=
 ⟨fun w=>by rw[z6A];exact run_convert_int_float w _ _ _ _ _ (by kernel_rfl) Tryz.underlying30,fun w=>by rw[zdC,Sm.zcX]⟩
theorem zci(d:Nat)(s:Bool)(w:World)(h1:d<4503599627370496)(hP:P10 w):
  Calls Tryz.prog 191 #[.int .u64 (d:Int),.int .i64 0,.bool s] w fun e w'=>e=.returned (.tuple #[.float .f64 (Us.fw s d),.bool true])/\w=w':=by
 have c0:=hP.bits;have hq:(d:Int)/4503599627370496=0:=(by omega);obtain⟨f1,f2⟩:=z32 s d;clear hP h1;cases s
 ·generalize Us.fw false d=fa at*
  go_in;go_wp2_with fail;go_ret2;exact⟨rfl,rfl⟩
 ·generalize Us.fw true d=fb at*
  generalize Us.fw false d=fa at*
  go_in;go_wp2_with fail;go_ret2;exact⟨rfl,rfl⟩
theorem zdH(d:Nat)(p:Int)(s:Bool)(w:World)(h1:d<4503599627370496)(hp:p< -22\/37<p)(hP:P10 w):
  Calls Tryz.prog 191 #[.int .u64 (d:Int),.int .i64 p,.bool s] w fun e w'=>e=.returned (.tuple #[.float .f64 (Us.fw s d),.bool false])/\w=w':=by
 have c0:=hP.bits;have hq:(d:Int)/4503599627370496=0:=(by omega);obtain⟨f1,f2⟩:=z32 s d;have p0:(p==0)=false:=Qb (by omega);rcases hp with hp|hp
 ·have p1:decide (0<p)=false:=by rw[decide_eq_false_iff_not];omega
  have p2:decide (p<0)=true:=(by rw[decide_eq_true_eq];omega);have p3:decide (-22<=p)=false:=(by rw[decide_eq_false_iff_not];omega);clear hP h1;cases s
  ·generalize Us.fw false d=fa at*
   go_in;go_wp2_with fail;go_ret2;exact⟨rfl,rfl⟩
  ·generalize Us.fw true d=fb at*
   generalize Us.fw false d=fa at*
   go_in;go_wp2_with fail;go_ret2;exact⟨rfl,rfl⟩
 ·have p1:decide (0<p)=true:=by rw[decide_eq_true_eq];omega
  have p2:decide (p<=37)=false:=(by rw[decide_eq_false_iff_not];omega);have p3:decide (p<0)=false:=(by rw[decide_eq_false_iff_not];omega);clear hP h1;cases s
  ·generalize Us.fw false d=fa at*
   go_in;go_wp2_with fail;go_ret2;exact⟨rfl,rfl⟩
  ·generalize Us.fw true d=fb at*
   generalize Us.fw false d=fa at*
   go_in;go_wp2_with fail;go_ret2;exact⟨rfl,rfl⟩
theorem zdJ(d k:Nat)(s:Bool)(r:Nat)(w:World)(h1:d<4503599627370496)(hk1:1<=k)(hk2:k<=22)(hP:P10 w)(hr:Ieee.double.div (Us.fw s d) (Us.w10 k)=some r):
  Calls Tryz.prog 191 #[.int .u64 (d:Int),.int .i64 (-(k:Int)),.bool s] w fun e w'=>e=.returned (.tuple #[.float .f64 r,.bool true])/\∃n,w'=w.drewN n:=by
 have c0:=hP.bits;obtain⟨ad,cap,c1,c2⟩:=hP.row;have ck:=c2 k (by omega);have hq:(d:Int)/4503599627370496=0:=(by omega);obtain⟨f1,f2⟩:=z32 s d;have p0:(-(k:Int)==0)=false:=Qb (by omega);have p1:decide (0< -(k:Int))=false:=(by rw[decide_eq_false_iff_not];omega);have p2:decide (-(k:Int)<0)=true:=(by rw[decide_eq_true_eq];omega);have p3:decide (-22<= -(k:Int))=true:=(by rw[decide_eq_true_eq];omega);have hrun:∀w:World,(binOp .quo 30 (.float .f64 (Us.fw s d)) (.float .f64 (Us.w10 k))).run Tryz.prog w=.ok (.float .f64 r) w:=fun w=>run_float_arith w .quo 30 .f64 _ _ r hr;have hk23:k<23:=(by omega);clear hP h1 c2 hr;generalize Us.w10 k=wk at*
 cases s
 ·generalize Us.fw false d=fa at*
  go_in;go_wp2_with fail;go_ret2;exact⟨rfl,0,rfl⟩
 ·generalize Us.fw true d=fb at*
  generalize Us.fw false d=fa at*
  go_in;go_wp2_with fail;go_ret2;exact⟨rfl,0,rfl⟩
end Go.Proofs.YtkkecpamnnojoaaGreatDoor
namespace Go.Proofs.YtkkecpamnnojoaaGreatDoor
open Go.ChangeShapes Go.WideShapes Go.ChangeAt Go.RowKit
open Bt
def far(f:Nat):Bool:=(FloatKind.f64.format.order f 4831355200913801216==some .gt)||(FloatKind.f64.format.order f 14054727237768577024==some .lt)
theorem zdI(d k:Nat)(s:Bool)(r:Nat)(w:World)(h1:d<4503599627370496)(hk1:1<=k)(hk2:k<=22)(hP:P10 w)(hr:Ieee.double.mul (Us.fw s d) (Us.w10 k)=some r):
  Calls Tryz.prog 191 #[.int .u64 (d:Int),.int .i64 (k:Int),.bool s] w fun e w'=>e=.returned (.tuple #[.float .f64 (if far (Us.fw s d)=true then Us.fw s d else r),.bool (!far (Us.fw s d))])/\∃n,w'=w.drewN n:=by
 have c0:=hP.bits;obtain⟨ad,cap,c1,c2⟩:=hP.row;have ck:=c2 k (by omega);have hq:(d:Int)/4503599627370496=0:=(by omega);obtain⟨f1,f2⟩:=z32 s d;have p0:((k:Int)==0)=false:=Qb (by omega);have p0':(k==0)=false:=Qb (by omega);have p1:decide (0<(k:Int))=true:=(by rw[decide_eq_true_eq];omega);have p1':decide (0<k)=true:=(by rw[decide_eq_true_eq];omega);have p2:decide ((k:Int)<=37)=true:=(by rw[decide_eq_true_eq];omega);have p2':decide (k<=37)=true:=(by rw[decide_eq_true_eq];omega);have p3:decide (22<(k:Int))=false:=(by rw[decide_eq_false_iff_not];omega);have p3':decide (22<k)=false:=(by rw[decide_eq_false_iff_not];omega);have hrun:∀w:World,(binOp .mul 30 (.float .f64 (Us.fw s d)) (.float .f64 (Us.w10 k))).run Tryz.prog w=.ok (.float .f64 r) w:=fun w=>run_float_arith w .mul 30 .f64 _ _ r hr;have hk23:k<23:=(by omega);unfold far;clear hP h1 c2 hr;generalize Us.w10 k=wk at*
 cases s
 ·generalize Us.fw false d=fa at*
  cases g1:(FloatKind.f64.format.order fa 4831355200913801216==some .gt)
  ·cases g2:(FloatKind.f64.format.order fa 14054727237768577024==some .lt)
   ·go_in;go_wp2_with fail;go_ret2;exact⟨rfl,0,rfl⟩
   ·go_in;go_wp2_with fail;go_ret2;exact⟨rfl,0,rfl⟩
  ·go_in;go_wp2_with fail;go_ret2;exact⟨rfl,0,rfl⟩
 ·generalize Us.fw true d=fb at*
  generalize Us.fw false d=fa at*
  cases g1:(FloatKind.f64.format.order fb 4831355200913801216==some .gt)
  ·cases g2:(FloatKind.f64.format.order fb 14054727237768577024==some .lt)
   ·go_in;go_wp2_with fail;go_ret2;exact⟨rfl,0,rfl⟩
   ·go_in;go_wp2_with fail;go_ret2;exact⟨rfl,0,rfl⟩
  ·go_in;go_wp2_with fail;go_ret2;exact⟨rfl,0,rfl⟩
theorem zcj(d j:Nat)(s:Bool)(f r:Nat)(w:World)(h1:d<4503599627370496)(hj1:1<=j)(hj2:j<=15)(hP:P10 w)(hf:Ieee.double.mul (Us.fw s d) (Us.w10 j)=some f)(hr:far f=false->Ieee.double.mul f (Us.w10 22)=some r):
  Calls Tryz.prog 191 #[.int .u64 (d:Int),.int .i64 ((22+j:Nat):Int),.bool s] w fun e w'=>e=.returned (.tuple #[.float .f64 (if far f=true then f else r),.bool (!far f)])/\∃n,w'=w.drewN n:=by
 have c0:=hP.bits;obtain⟨ad,cap,c1,c2⟩:=hP.row;have ck:=c2 j (by omega);have c22:=c2 22 (by omega);have hq:(d:Int)/4503599627370496=0:=(by omega);obtain⟨f1,f2⟩:=z32 s d;have hsub:wrap64 (((22+j:Nat):Int)-22)=(j:Int):=(by unfold wrap64;omega);obtain⟨k,hk⟩:∃k:Nat,k=22+j:=⟨_,rfl⟩;rw[<-hk]at hsub⊢
 have p0:((k:Int)==0)=false:=Qb (by omega);have p0':(k==0)=false:=Qb (by omega);have p1:decide (0<(k:Int))=true:=(by rw[decide_eq_true_eq];omega);have p1':decide (0<k)=true:=(by rw[decide_eq_true_eq];omega);have p2:decide ((k:Int)<=37)=true:=(by rw[decide_eq_true_eq];omega);have p2':decide (k<=37)=true:=(by rw[decide_eq_true_eq];omega);have p3:decide (22<(k:Int))=true:=(by rw[decide_eq_true_eq];omega);have p3':decide (22<k)=true:=(by rw[decide_eq_true_eq];omega);have hsub2:(k:Int)-22=(j:Int):=(by omega);have hrun:∀w:World,(binOp .mul 30 (.float .f64 (Us.fw s d)) (.float .f64 (Us.w10 j))).run Tryz.prog w=.ok (.float .f64 f) w:=fun w=>run_float_arith w .mul 30 .f64 _ _ f hf;have hrun2:far f=false->∀w:World,(binOp .mul 30 (.float .f64 f) (.float .f64 (Us.w10 22))).run Tryz.prog w=.ok (.float .f64 r) w:=fun h w=>run_float_arith w .mul 30 .f64 _ _ r (hr h);have hj23:j<23:=(by omega);have HR2:=Qh hrun2;unfold far at HR2⊢
 clear hP h1 c2 hr hf hk hsub hrun2;generalize Us.w10 j=wj at*
 generalize Us.w10 22=wk at*
 have c22':w.cell? ⟨ad.block,ad.off+22,none⟩=some (.float .f64 wk):=(by simpa[Addr.add]using c22);cases g1:(FloatKind.f64.format.order f 4831355200913801216==some .gt)
 ·cases g2:(FloatKind.f64.format.order f 14054727237768577024==some .lt)
  ·have hrun3:=HR2.out (by rw[g1,g2];rfl)
   clear HR2;cases s
   ·generalize Us.fw false d=fa at*
    go_in;go_wp2_with fail;go_ret2;exact⟨rfl,0,rfl⟩
   ·generalize Us.fw true d=fb at*
    generalize Us.fw false d=fa at*
    go_in;go_wp2_with fail;go_ret2;exact⟨rfl,0,rfl⟩
  ·clear HR2
   cases s
   ·generalize Us.fw false d=fa at*
    go_in;go_wp2_with fail;go_ret2;exact⟨rfl,0,rfl⟩
   ·generalize Us.fw true d=fb at*
    generalize Us.fw false d=fa at*
    go_in;go_wp2_with fail;go_ret2;exact⟨rfl,0,rfl⟩
 ·clear HR2
  cases s
  ·generalize Us.fw false d=fa at*
   go_in;go_wp2_with fail;go_ret2;exact⟨rfl,0,rfl⟩
  ·generalize Us.fw true d=fb at*
   generalize Us.fw false d=fa at*
   go_in;go_wp2_with fail;go_ret2;exact⟨rfl,0,rfl⟩
end Go.Proofs.YtkkecpamnnojoaaGreatDoor
