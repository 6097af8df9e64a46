/- A part of the proof of ScriptParses: nothing is assumed. By an AI agent. -/
import Derived.OwnWalk
import Derived.Test.YtkkecpamnnojoaaGreatDoorBz02
set_option linter.unusedVariables false
set_option linter.unusedSimpArgs false
set_option maxRecDepth 100000
set_option maxHeartbeats 32000000
namespace Go.Proofs.YtkkecpamnnojoaaGreatDoor.Us
structure Rs where
 us:Bool
 dot:Bool
 saw:Bool
 tr:Bool
 nd:Nat
 nm:Nat
 m:Nat
 dp:Int
def rs0:Rs:=⟨false,false,false,false,0,0,0,0⟩
def yh(c:Nat):Nat:=c|||32
def bse(h:Bool):Nat:=if h then 16 else 10
def mxd(h:Bool):Nat:=if h then 16 else 19
def isD(c:Nat):Bool:=decide (48<=c/\c<=57)
def isX(h:Bool)(c:Nat):Bool:=h&&decide (97<=yh c/\yh c<=102)
def brk(h:Bool)(σ:Rs)(c:Nat):Bool:=if c=95 then false else if c=46 then σ.dot else if isD c then false else !isX h c
def stp(h:Bool)(σ:Rs)(c:Nat):Rs:=
 if c=95 then{σ with us:=true}
 else if c=46 then{σ with dot:=true,dp:=(σ.nd:Int)}
 else if isD c then
  if c=48/\σ.nd=0 then{σ with saw:=true,dp:=σ.dp-1}
  else if σ.nm<mxd h then{σ with saw:=true,nd:=σ.nd+1,m:=bse h*σ.m+(c-48),nm:=σ.nm+1}
  else{σ with saw:=true,nd:=σ.nd+1,tr:=σ.tr|| !decide (c=48)}
 else if σ.nm<mxd h then{σ with saw:=true,nd:=σ.nd+1,m:=bse h*σ.m+(yh c-87),nm:=σ.nm+1}
 else{σ with saw:=true,nd:=σ.nd+1,tr:=true}
def zW(h:Bool)(σ:Rs):List Nat->Rs×List Nat
 |[]=>(σ,[])
 |c::t=>if brk h σ c then(σ,c::t)else zW h (stp h σ c) t
def xj(e:Nat)(us:Bool):List Nat->Nat×Bool×List Nat
 |[]=>(e,us,[])
 |c::t=>if c=95 then xj e true t else if isD c then xj (if e<10000 then 10*e+(c-48)else e) us t else(e,us,c::t)
def qW:List Nat->Bool×List Nat
 |43::t=>(false,t)
 |45::t=>(true,t)
 |t=>(false,t)
def hxL(t:List Nat):Bool:=decide (2<t.length)&&decide (t[0]! =48)&&decide (yh t[1]! =120)
def z3x(h:Bool):Nat:=if h then 112 else 101
def z1X(h:Bool):List Nat->Option (Int×Bool×List Nat)
  |[]=>if h then none else some (0,false,[])
  |c::t=>if yh c=z3x h then
      (let r:=qW t
       if r.2≠[]/\isD r.2[0]! =true then
         let q:=xj 0 false r.2
         some ((if r.1 then-(q.1:Int)else(q.1:Int)),q.2.1,q.2.2)
       else none)
    else if h then none else some (0,false,c::t)
structure Ro where
 m:Nat
 p:Int
 neg:Bool
 tr:Bool
 hex:Bool
 i:Nat
 us:Bool
def dpS(h:Bool)(σ:Rs):Int:=if h then(if σ.dot then σ.dp else(σ.nd:Int))*4 else(if σ.dot then σ.dp else(σ.nd:Int))
def nmS(h:Bool)(σ:Rs):Nat:=if h then σ.nm*4 else σ.nm
def rdT(n:Nat)(neg h:Bool)(R:Rs×List Nat):Option Ro:=
 if R.1.saw=false then none else
 match z1X h R.2 with
 |none=>none
 |some (e,us,rest)=>some ⟨R.1.m,if R.1.m=0 then 0 else dpS h R.1+e-nmS h R.1,neg,R.1.tr,h,n-rest.length,R.1.us||us⟩
def rdF(s:List Nat):Option Ro:=
 if s=[]then none else
 let r:=qW s
 let h:=hxL r.2
 rdT s.length r.1 h (zW h rs0 (if h then r.2.drop 2 else r.2))
structure RsOk (h:Bool) (k:Nat) (σ:Rs):Prop where
 nm:σ.nm<=mxd h
 nd:σ.nm<=σ.nd
 kk:σ.nd<=k
 m:σ.m<bse h^σ.nm
 lo:-(k:Int)<=σ.dp
 hi:σ.dp<=k
theorem z7o(h:Bool):RsOk h 0 rs0:=⟨Nat.zero_le _,Nat.le_refl _,Nat.le_refl _,by show(0:Nat)<_;simp[rs0],by decide,by decide⟩
theorem zaL{h:Bool}{k c:Nat}{σ:Rs}(H:RsOk h k σ)(hb:brk h σ c=false):RsOk h (k+1) (stp h σ c):=by
 have h1:=H.nm;have h2:=H.nd;have h3:=H.kk;have h4:=H.m;have h5:=H.lo;have h6:=H.hi;have hpow:bse h^(σ.nm+1)=bse h*bse h^σ.nm:=Nat.pow_succ';have key:∀d,d<bse h->bse h*σ.m+d<bse h^(σ.nm+1):=(by intro d hd;rw[hpow];have:bse h*(σ.m+1)<=bse h*bse h^σ.nm:=Nat.mul_le_mul_left _ h4;rw[Nat.mul_succ]at this;omega);have hb10:10<=bse h:=(by unfold bse;split<;>omega);unfold brk at hb;unfold stp;by_cases c1:c=95
 ·rw[if_pos c1];exact⟨h1,h2,by show σ.nd<=k+1;omega,h4,by show-((k+1:Nat):Int)<=σ.dp;omega,by show σ.dp<=((k+1:Nat):Int);omega⟩
 rw[if_neg c1]at hb⊢
 by_cases c2:c=46
 ·rw[if_pos c2];exact⟨h1,h2,by show σ.nd<=k+1;omega,h4,by show-((k+1:Nat):Int)<=(σ.nd:Int);omega,by show(σ.nd:Int)<=((k+1:Nat):Int);omega⟩
 rw[if_neg c2]at hb⊢
 by_cases c3:isD c=true
 ·rw[if_pos c3]
  have hd:48<=c/\c<=57:=(by unfold isD at c3;exact of_decide_eq_true c3);by_cases c4:c=48/\σ.nd=0
  ·rw[if_pos c4];exact⟨h1,h2,by show σ.nd<=k+1;omega,h4,by show-((k+1:Nat):Int)<=σ.dp-1;omega,by show σ.dp-1<=((k+1:Nat):Int);omega⟩
  rw[if_neg c4];by_cases c5:σ.nm<mxd h
  ·rw[if_pos c5];exact⟨c5,by show σ.nm+1<=σ.nd+1;omega,by show σ.nd+1<=k+1;omega,key _ (by omega),by show-((k+1:Nat):Int)<=σ.dp;omega,by show σ.dp<=((k+1:Nat):Int);omega⟩
  ·rw[if_neg c5];exact⟨h1,by show σ.nm<=σ.nd+1;omega,by show σ.nd+1<=k+1;omega,h4,by show-((k+1:Nat):Int)<=σ.dp;omega,by show σ.dp<=((k+1:Nat):Int);omega⟩
 ·rw[if_neg c3]at hb⊢
  unfold isX at hb;have hx:h=true/\97<=yh c/\yh c<=102:=by
   cases h<;>simp at hb⊢
   exact hb
  by_cases c5:σ.nm<mxd h
  ·rw[if_pos c5];have:bse h=16:=(by rw[hx.1];rfl);exact⟨c5,by show σ.nm+1<=σ.nd+1;omega,by show σ.nd+1<=k+1;omega,key _ (by omega),by show-((k+1:Nat):Int)<=σ.dp;omega,by show σ.dp<=((k+1:Nat):Int);omega⟩
  ·rw[if_neg c5];exact⟨h1,by show σ.nm<=σ.nd+1;omega,by show σ.nd+1<=k+1;omega,h4,by show-((k+1:Nat):Int)<=σ.dp;omega,by show σ.dp<=((k+1:Nat):Int);omega⟩
theorem z5W{h:Bool}:∀(s:List Nat) {k:Nat} {σ:Rs},RsOk h k σ->RsOk h (k+(s.length-(zW h σ s).2.length)) (zW h σ s).1/\(zW h σ s).2.length<=s.length
 |[],k,σ,H=>⟨by simpa[zW]using H,by simp[zW]⟩
 |c::t,k,σ,H=>by
  unfold zW;by_cases hb:brk h σ c=true
  ·rw[if_pos hb];exact⟨by simpa using H,Nat.le_refl _⟩
  ·rw[if_neg hb];have hb':brk h σ c=false:=(by simpa using hb);obtain⟨a,b⟩:=z5W t (zaL H hb');refine⟨?_,by rw[List.length_cons];omega⟩;rw[List.length_cons,show k+(t.length+1-(zW h (stp h σ c) t).2.length)=k+1+(t.length-(zW h (stp h σ c) t).2.length) by omega];exact a
theorem z8E{h:Bool}{k:Nat}{σ:Rs}(H:RsOk h k σ):σ.m<18446744073709551616:=by have h1:=H.m;have h2:=H.nm;have hb:bse h^σ.nm<=bse h^mxd h:=Nat.pow_le_pow_right (by unfold bse;split<;>omega) h2;have:bse h^mxd h<=18446744073709551616:=(by cases h<;>decide);omega
def val(D:List Nat):Nat:=D.foldl (fun a c=>10*a+(c-48)) 0
theorem z7I{c:Nat}(h:48<=c/\c<=57):c≠95/\c≠46/\isD c=true:=⟨by omega,by omega,by unfold isD;exact decide_eq_true h⟩
theorem qX:∀(D rest:List Nat) (us dot saw tr:Bool) (nd nm m:Nat) (dp:Int),(∀c∈D,48<=c/\c<=57)->(D.head? ≠some 48\/0<nd)->nm+D.length<=19->
  zW false ⟨us,dot,saw,tr,nd,nm,m,dp⟩ (D++rest)=zW false ⟨us,dot,saw|| !D.isEmpty,tr,nd+D.length,nm+D.length,D.foldl (fun a c=>10*a+(c-48)) m,dp⟩ rest
 |[],rest,us,dot,saw,tr,nd,nm,m,dp,_,_,_=>by simp
 |c::t,rest,us,dot,saw,tr,nd,nm,m,dp,h,h0,hl=>by
  obtain⟨n1,n2,n3⟩:=z7I (h c (List.mem_cons_self ..));rw[List.length_cons]at hl;have hb:brk false ⟨us,dot,saw,tr,nd,nm,m,dp⟩ c=false:=(by unfold brk;rw[if_neg n1,if_neg n2,if_pos n3]);have hz:¬(c=48/\nd=0):=by
   rintro⟨a,b⟩;rcases h0 with h0|h0
   ·exact h0 (by rw[a];rfl)
   ·omega
  have hs:stp false ⟨us,dot,saw,tr,nd,nm,m,dp⟩ c=⟨us,dot,true,tr,nd+1,nm+1,10*m+(c-48),dp⟩:=(by unfold stp;rw[if_neg n1,if_neg n2,if_pos n3,if_neg hz,if_pos (show nm<mxd false by show nm<19;omega)];rfl);rw[List.cons_append];show(if brk false ⟨us,dot,saw,tr,nd,nm,m,dp⟩ c then _ else _)=_;rw[hb,hs];show zW false _ (t++rest)=_;rw[qX t rest us dot true tr (nd+1) (nm+1) _ dp (fun x hx=>h x (List.mem_cons_of_mem _ hx)) (Or.inr (by omega)) (by omega)];simp only[List.length_cons,List.foldl_cons,List.isEmpty_cons,Bool.not_false,Bool.or_true,Bool.true_or];rw[show nd+1+t.length=nd+(t.length+1) by omega,show nm+1+t.length=nm+(t.length+1) by omega]
theorem z1x:∀(k:Nat) (rest:List Nat) (us dot saw tr:Bool) (nm m:Nat) (dp:Int),
  zW false ⟨us,dot,saw,tr,0,nm,m,dp⟩ (List.replicate k 48++rest)=zW false ⟨us,dot,saw||decide (0<k),tr,0,nm,m,dp-k⟩ rest
 |0,rest,us,dot,saw,tr,nm,m,dp=>by simp
 |k+1,rest,us,dot,saw,tr,nm,m,dp=>by rw[List.replicate_succ,List.cons_append];show zW false ⟨us,dot,true,tr,0,nm,m,dp-1⟩ (List.replicate k 48++rest)=_;rw[z1x k rest us dot true tr nm m (dp-1),show dp-1-(k:Int)=dp-((k+1:Nat):Int) by omega];simp
theorem z5V(rest:List Nat)(us saw tr:Bool)(nd nm m:Nat)(dp:Int):zW false ⟨us,false,saw,tr,nd,nm,m,dp⟩ (46::rest)=zW false ⟨us,true,saw,tr,nd,nm,m,nd⟩ rest:=rfl
theorem zaV(rest:List Nat)(σ:Rs):zW false σ (101::rest)=(σ,101::rest):=rfl
theorem z2Y(σ:Rs):zW false σ []=(σ,[]):=rfl
theorem z2Z:∀(D:List Nat) (e:Nat),(∀c∈D,48<=c/\c<=57)->e<10^(4-D.length)->D.length<=4->xj e false D=(D.foldl (fun a c=>10*a+(c-48)) e,false,[])
 |[],e,_,_,_=>rfl
 |c::t,e,h,he,hl=>by obtain⟨n1,n2,n3⟩:=z7I (h c (List.mem_cons_self ..));have hc:=h c (List.mem_cons_self ..);rw[List.length_cons]at hl he;have hp:10^(4-t.length)=10*10^(4-(t.length+1)):=(by rw[<-Nat.pow_succ'];congr 1;omega);have h4:10^(4-(t.length+1))<=10^4:=Nat.pow_le_pow_right (by omega) (by omega);unfold xj;rw[if_neg n1,if_pos n3,if_pos (by omega)];rw[z2Z t _ (fun x hx=>h x (List.mem_cons_of_mem _ hx)) (by rw[hp];omega) (by omega)];rfl
theorem z4L{e:Int}(h1:-1000<e)(h2:e<1000):z1X false (101::z3w e)=some (e,false,[]):=by
 obtain⟨c,D,hE,hs,hD,h0,hl,hv⟩:∃c D,z3w e=c::D/\(c=if e<0 then 45 else 43)/\(∀x∈D,48<=x/\x<=57)/\D≠[]/\D.length<=3/\D.foldl (fun a c=>10*a+(c-48)) 0=e.natAbs:=by
  refine⟨_,_,rfl,rfl,?_,?_,?_,?_⟩
  ·intro x hx
   split at hx
   ·simp at hx;omega
   ·split at hx<;>simp at hx<;>omega
  ·split
   ·simp
   ·split<;>simp
  ·split
   ·simp
   ·split<;>simp
  ·split
   ·simp
   ·split
    ·simp;omega
    ·simp;omega
 rw[hE];have hsg:qW (c::D)=(decide (e<0),D):=by
  rw[hs];by_cases hn:e<0
  ·rw[if_pos hn,decide_eq_true hn];rfl
  ·rw[if_neg hn,decide_eq_false hn];rfl
 have hd0:isD D[0]! =true:=by
  cases D with
  |nil=>exact absurd rfl h0
  |cons a t=>exact(z7I (hD a (List.mem_cons_self ..))).2.2
 unfold z1X;simp only[hsg];rw[if_pos (show yh 101=z3x false by decide)];rw[if_pos ⟨h0,hd0⟩,z2Z D 0 hD (Nat.pow_pos (by omega)) (by omega),hv];by_cases hn:e<0
 ·simp only[decide_eq_true hn,if_true]
  congr 2;omega
 ·simp only[decide_eq_false hn,if_false,Bool.false_eq_true]
  congr 2;omega
theorem z3V(k:Nat):∀m,(List.replicate k 48).foldl (fun a c=>10*a+(c-48)) m=10^k*m:=by
 induction k with
 |zero=>intro m;simp
 |succ k ih=>intro m;rw[List.replicate_succ,List.foldl_cons,ih,Nat.pow_succ,Nat.mul_assoc];simp
theorem z6B:∀(D:List Nat) (m:Nat),m<=D.foldl (fun a c=>10*a+(c-48)) m
 |[],m=>Nat.le_refl _
 |c::t,m=>Nat.le_trans (by omega) (z6B t (10*m+(c-48)))
theorem z8g{D:List Nat}(hD:∀c∈D,48<=c/\c<=57)(h0:D.head? ≠some 48)(hne:D≠[]):1<=val D:=by
 cases D with
 |nil=>exact absurd rfl hne
 |cons c t=>
  have h1:=hD c (List.mem_cons_self ..);have h2:c≠48:=fun e=>h0 (by rw[e];rfl);have:=z6B t (10*0+(c-48));unfold val;rw[List.foldl_cons];omega
theorem zev{neg:Bool}{c:Nat}{t:List Nat}(hc:48<=c):qW ((if neg then[45]else[])++c::t)=(neg,c::t):=by
 cases neg
 ·show qW (c::t)=_
  unfold qW;split
  ·next h=>injection h with h1 _;omega
  ·next h=>injection h with h1 _;omega
  ·rfl
 ·rfl
theorem z38{neg:Bool}{c:Nat}{t:List Nat}(hc:48<=c)(hx:hxL (c::t)=false):
  rdF ((if neg then[45]else[])++c::t)=rdT ((if neg then[45]else[])++c::t).length neg false (zW false rs0 (c::t)):=by
 unfold rdF;rw[if_neg (by cases neg<;>simp),zev hc];simp only[hx];rfl
theorem zc0{c:Nat}{t:List Nat}(hc:c≠48):hxL (c::t)=false:=by unfold hxL;simp[hc]
theorem z7A(neg:Bool)(dp:Int):rdF (qG neg [] dp)=some ⟨0,0,neg,false,false,(qG neg [] dp).length,false⟩:=by unfold qG;rw[if_pos rfl,z38 (by omega) (by decide)];rfl
theorem z0z{n m nd nm:Nat}{neg us dot saw tr:Bool}{dp:Int}{rest:List Nat}{e:Int}(hs:saw=true)(hm:m≠0)(he:z1X false rest=some (e,false,[])):
  rdT n neg false (⟨us,dot,saw,tr,nd,nm,m,dp⟩,rest)=some ⟨m,(if dot then dp else(nd:Int))+e-nm,neg,tr,false,n,us||false⟩:=by
 subst hs;unfold rdT;rw[if_neg (by simp)];simp only[he,if_neg hm];rfl
theorem zbg(neg:Bool){D:List Nat}{dp:Int}(hD:∀c∈D,48<=c/\c<=57)(hne:D≠[])(h0:D.head? ≠some 48)(hl:D.length<=19)(h1:-900<dp)(h2:dp<900):
  ∃j:Nat,rdF (qG neg D dp)=some ⟨10^j*val D,dp-D.length-j,neg,false,false,(qG neg D dp).length,false⟩/\(j=0\/D.length+j<=6):=by
 have hv:=z8g hD h0 hne;obtain⟨c,t,rfl⟩:∃c t,D=c::t:=by cases D with
  |nil=>exact absurd rfl hne
  |cons c t=>exact⟨c,t,rfl⟩
 have hc:=hD c (List.mem_cons_self ..);have hc48:c≠48:=fun e=>h0 (by rw[e];rfl);have e0:z1X false []=some (0,false,[]):=rfl;rw[List.length_cons]at hl;unfold qG;rw[if_neg hne];by_cases hE:dp-1< -4\/6<=dp-1
 ·rw[if_pos hE]
  refine⟨0,?_,Or.inl rfl⟩;have hf:za0 (c::t) dp=c::((if 1<(c::t).length then 46::t else[])++101::z3w (dp-1)):=rfl;rw[hf,z38 hc.1 (zc0 hc48)];have s1:=qX [c] ((if 1<(c::t).length then 46::t else[])++101::z3w (dp-1)) false false false false 0 0 0 0 (by intro x hx;rw[List.mem_singleton]at hx;rw[hx];exact hc) (Or.inl (by simpa using hc48)) (by simp);show rdT _ neg false (zW false ⟨false,false,false,false,0,0,0,0⟩ ([c]++((if 1<(c::t).length then 46::t else[])++101::z3w (dp-1))))=_;rw[s1];by_cases ht:1<(c::t).length
  ·rw[if_pos ht,List.cons_append,z5V,qX t _ _ _ _ _ _ _ _ _ (fun x hx=>hD x (List.mem_cons_of_mem _ hx)) (Or.inr (by simp)) (by simp;omega),zaV,z0z (e:=dp-1) (by simp) (by unfold val at hv;rw[List.foldl_cons]at hv;simpa using Nat.ne_of_gt hv) (z4L (by omega) (by omega))]
   unfold val;rw[List.foldl_cons];simp only[if_true,List.foldl_cons,List.foldl_nil,List.length_cons,List.length_nil,Nat.pow_zero,Nat.one_mul,Bool.or_self]
   congr 2
   omega
  ·rw[if_neg ht,List.nil_append,zaV,z0z (e:=dp-1) (by simp) (by simp;omega) (z4L (by omega) (by omega))]
   have htn:t=[]:=by
    cases t with
    |nil=>rfl
    |cons a b=>simp at ht
   subst htn;unfold val;simp only[List.foldl_cons,List.foldl_nil,List.length_cons,List.length_nil,Nat.pow_zero,Nat.one_mul,Bool.or_self]
   congr 2
   simp;omega
 ·rw[if_neg hE]
  unfold z5m;by_cases hp:0<dp
  ·rw[if_pos hp]
   by_cases hlt:dp.toNat<(c::t).length
   ·refine⟨0,?_,Or.inl rfl⟩
    obtain⟨k,hk⟩:∃k,dp.toNat=k+1:=⟨dp.toNat-1,by omega⟩;have hz:dp.toNat-(c::t).length=0:=(by omega);have htl:(t.take k).length=k:=(by rw[List.length_take];simp at hlt;omega);have hdl:(t.drop k).length=t.length-k:=List.length_drop ..;rw[if_pos hlt,hz,hk,List.replicate_zero,List.append_nil,List.take_succ_cons,List.drop_succ_cons,List.cons_append,z38 hc.1 (zc0 hc48)];show rdT _ neg false (zW false ⟨false,false,false,false,0,0,0,0⟩ ((c::t.take k)++46::t.drop k))=_;have d1:∀x∈t.take k,48<=x/\x<=57:=fun x hx=>hD x (List.mem_cons_of_mem _ (List.mem_of_mem_take hx));have d2:∀x∈t.drop k,48<=x/\x<=57:=fun x hx=>hD x (List.mem_cons_of_mem _ (List.mem_of_mem_drop hx));rw[qX (c::t.take k) _ _ _ _ _ _ _ _ _ (by intro x hx;rcases List.mem_cons.1 hx with rfl|hx;exact hc;exact d1 x hx) (Or.inl (by simpa using hc48)) (by rw[List.length_cons,htl];simp at hlt;omega),z5V];have:=qX (t.drop k) [] false true (false|| !(c::t.take k).isEmpty) false (0+(c::t.take k).length) (0+(c::t.take k).length) ((c::t.take k).foldl (fun a c=>10*a+(c-48)) 0) ((0+(c::t.take k).length:Nat):Int) d2 (Or.inr (by simp)) (by rw[List.length_cons,htl,hdl];simp at hlt;omega);rw[List.append_nil]at this;rw[this,z2Y];have hval:(t.drop k).foldl (fun a c=>10*a+(c-48)) ((c::t.take k).foldl (fun a c=>10*a+(c-48)) 0)=val (c::t):=(by rw[<-List.foldl_append,List.cons_append,List.take_append_drop];rfl);rw[hval,z0z (e:=0) (by simp) (by omega) e0,Nat.pow_zero,Nat.one_mul];simp only[if_true,Bool.or_self]
    congr 2
    rw[List.length_cons,htl,hdl,List.length_cons];simp at hlt;omega
   ·refine⟨dp.toNat-(c::t).length,?_,by right;omega⟩
    rw[if_neg hlt,List.append_nil,List.take_of_length_le (by omega),List.cons_append,z38 hc.1 (zc0 hc48)];show rdT _ neg false (zW false ⟨false,false,false,false,0,0,0,0⟩ ((c::t)++List.replicate (dp.toNat-(c::t).length) 48))=_;generalize hj:dp.toNat-(c::t).length=j;have:=qX ((c::t)++List.replicate j 48) [] false false false false 0 0 0 0 (by
     intro x hx;rcases List.mem_append.1 hx with hx|hx
     ·exact hD x hx
     ·have:=List.eq_of_mem_replicate hx;omega) (Or.inl (by simpa using hc48)) (by rw[List.length_append,List.length_replicate];omega)
    rw[List.append_nil]at this;rw[this,z2Y,List.foldl_append,z3V];have hval:(c::t).foldl (fun a c=>10*a+(c-48)) 0=val (c::t):=rfl;have hm:10^j*val (c::t)≠0:=Nat.ne_of_gt (Nat.mul_pos (Nat.pow_pos (by omega)) hv);rw[hval,z0z (e:=0) (by simp) hm e0];simp only[Bool.or_self]
    congr 2
    rw[List.length_append,List.length_replicate];simp;simp at hj hlt;omega
  ·rw[if_neg hp]
   refine⟨0,?_,Or.inl rfl⟩;rw[List.cons_append,List.cons_append,z38 (by omega) (by unfold hxL;simp[yh])];show rdT _ neg false (zW false ⟨false,true,true,false,0,0,0,0⟩ (List.replicate (-dp).toNat 48++(c::t)))=_;rw[z1x];have:=qX (c::t) [] false true (true||decide (0<(-dp).toNat)) false 0 0 0 (0-((-dp).toNat:Int)) hD (Or.inl (by simpa using hc48)) (by rw[List.length_cons];omega);rw[List.append_nil]at this;rw[this,z2Y,z0z (e:=0) (by simp) (by unfold val at hv;omega) e0,Nat.pow_zero,Nat.one_mul];unfold val;simp only[if_true,Bool.or_self]
   congr 2
   simp;omega
end Go.Proofs.YtkkecpamnnojoaaGreatDoor.Us
namespace Go.Proofs.YtkkecpamnnojoaaGreatDoor
open Go.ChangeShapes Go.WideShapes Go.ChangeAt Go.RowKit
open Bt
def ch(s:ByteArray)(i:Int):Nat:=(s.data[i.toNat]!).toNat
theorem yU(s:ByteArray)(i:Int):ch s i<256:=UInt8.toNat_lt _
def Bs(s:ByteArray):List Nat:=s.data.toList.map UInt8.toNat
theorem xc(s:ByteArray):(Bs s).length=s.size:=by unfold Bs;rw[List.length_map];rfl
theorem qF(s:ByteArray)(k:Nat)(h:k<s.size):(Bs s).drop k=ch s (k:Int)::(Bs s).drop (k+1):=by
 have hl:k<(Bs s).length:=(by rw[xc];exact h);have hk:k<s.data.size:=h;rw[List.drop_eq_getElem_cons hl]
 congr 1
 have e:(Bs s)[k]?=some (ch s (k:Int)):=(by unfold Bs ch;rw[List.getElem?_map,Array.getElem?_toList,Array.getElem?_eq_getElem hk,Int.toNat_natCast,getElem!_pos s.data k hk];rfl);rw[List.getElem?_eq_getElem hl]at e;exact Option.some.inj e
@[go_sem high] theorem z1y {P:Program} {w:World} (t:TypeId) (s:ByteArray) (k:IntKind) (i:Int) (h:P.underlying t=some .string) (h0:0<=i) (h1:i<s.size):
  (Instr.index t (.string s) (.int k i)).run P w=.ok (.int .u8 ((ch s i:Nat):Int)) w:=by
 rw[run_index_string (t:=t) (h:=h),dif_pos ⟨h0,h1⟩];have hk:i.toNat<s.data.size:=(by have:s.data.size=s.size:=rfl;omega);unfold ch;rw[getElem!_pos s.data i.toNat hk];rfl
theorem z7P(c:Nat)(hc:c<256):bits BinOp.or IntKind.u8 (c:Int) 32=((Us.yh c:Nat):Int):=by have:∀c:Fin 256,bits BinOp.or IntKind.u8 (c.val:Int) 32=((Us.yh c.val:Nat):Int):=(by decide+kernel);exact this ⟨c,hc⟩
theorem z9P(c:Nat)(w:World)(hc:c<256):Calls Tryz.prog 151 #[.int .u8 (c:Int)] w fun e w'=>e=.returned (.int .u8 ((Us.yh c:Nat):Int))/\w'=w:=by have h:=Tryz.internal_strconv_lower (c:Int) w;rw[z7P c hc]at h;exact h
def Dg0(s:ByteArray):Prop:=0<s.size/\48<=ch s 0/\ch s 0<=57
theorem z3a(s p:ByteArray)(w:World)(hs:s.size<=1152921504606846976)(hp:p.size<=100)(hp0:97<=ch p 0)(hpn:0<p.size):Calls Tryz.prog 193 #[.string s,.string p] w fun e w'=>(∃n:Nat,e=.returned (.int .i64 (n:Int))/\RowKit.Hid (n<=p.size/\n<=s.size/\(Dg0 s->n=0)))/\∃n,w'=w.drewN n:=by
  have HS:=Qh (Qa hs (Qa hp (Qa hp0 hpn)));obtain⟨N,hN⟩:∃N:Nat,N=min p.size s.size:=⟨_,rfl⟩;have hmin:min (p.size:Int) (s.size:Int)=(N:Int):=(by omega);have HN:=Qh hN;clear hs hp hp0 hpn hN;go_in;go_wp2_with fail;go_loopg[6] N (fun g s6 wx=>∃k:Nat,g+k=N/\s6=.int .i64 (k:Int)/\RowKit.Hid ((0<k->¬Dg0 s)/\∃n,wx=w.drewN n))
  case atStart=>exact⟨0,by omega,rfl,⟨fun h=>absurd h (by omega),0,rfl⟩⟩
  case round=>
    obtain⟨k,hgk,rfl,HR⟩:=hrel;have hNp:N<=p.size/\N<=s.size:=(by have:=HN.out;omega);by_cases hk:k<N
    · have hks:k<s.size:=by omega
      have hkp:k<p.size:=(by omega);have hw1:wrap64 ((k:Int)+1)=((k+1:Nat):Int):=(by have:=HS.1;unfold wrap64;omega);have hc:=yU s (k:Int);have HD:RowKit.Hid (k=0->Dg0 s->48<=ch s (k:Int)/\ch s (k:Int)<=57):=Qh (fun h hd=>by subst h;exact hd.2);have HP:RowKit.Hid (k=0->97<=ch p (k:Int)):=Qh (fun h=>by subst h;exact HS.2.2.1);have hsk:(k:Int)<(s.size:Int):=(by omega);have hpk:(k:Int)<(p.size:Int):=(by omega);have HK:=Qh (Qa hks (Qa hNp.1 hNp.2));clear hks hkp hNp;go_wp2_with fail
      all_goals first
        |(go_ret;refine⟨⟨k,rfl,⟨by have:=HK.2;omega,by have:=HK.2;omega,fun hd=>?_⟩⟩,HR.2⟩;refine Classical.byContradiction fun h0=>HR.1 (by omega) hd)
        |(
           go_roundg(gk-1)
           case measure=>omega
           case rel=>
             refine⟨k+1,by omega,by first|rfl|rw[hw1],⟨fun _ hd=>?_,HR.2⟩⟩;have hk0:k=0:=Classical.byContradiction fun h0=>HR.1 (by omega) hd;have h1:=HD.out hk0 hd;have h2:=HP.out hk0;simp only[bne_eq_false_iff_eq]at*
             omega)
    · obtain rfl:k=N:=by omega
      have HK:=Qh hNp;clear hNp;go_wp2_with fail;go_ret;refine⟨⟨k,rfl,⟨HK.1,HK.2,fun hd=>?_⟩⟩,HR.2⟩;refine Classical.byContradiction fun h0=>HR.1 (by omega) hd
theorem zdz(z:Int)(w:World):Calls Tryz.prog 194 #[.int .i64 z] w fun e w'=>(∃f:Nat,e=.returned (.float .f64 f)/\f<18446744073709551616)/\w'=w:=by
 (have f1:∀w:World,(callFunc 190 #[.int .u64 9218868437227405312]).run Tryz.prog w=.ok (.value (.float .f64 9218868437227405312)) w:=fun w=>qn 9218868437227405312 w;have f2:∀w:World,(callFunc 190 #[.int .u64 18442240474082181120]).run Tryz.prog w=.ok (.value (.float .f64 18442240474082181120)) w:=fun w=>qn 18442240474082181120 w;go_in;go_wp2_with fail;all_goals go_ret);all_goals exact⟨⟨_,rfl,by omega⟩,rfl⟩
theorem zbA(w:World):Calls Tryz.prog 195 #[] w fun e w'=>(∃f:Nat,e=.returned (.float .f64 f)/\f<18446744073709551616)/\w'=w:=by have f1:∀w:World,(callFunc 190 #[.int .u64 9221120237041090561]).run Tryz.prog w=.ok (.value (.float .f64 9221120237041090561)) w:=fun w=>qn 9221120237041090561 w;go_in;go_wp2_with fail;go_ret;exact⟨⟨_,rfl,by omega⟩,rfl⟩
theorem zf0(s:ByteArray)(h:1<s.size):ch (s.extract 1 s.size) 0=ch s 1:=by
 have h2:(s.extract 1 s.size).size=s.size-1:=(by rw[ByteArray.size_extract];omega);have a0:0<(s.extract 1 s.size).data.size:=(by show 0<(s.extract 1 s.size).size;omega);have a1:1<s.data.size:=h;unfold ch;rw[show((0:Int).toNat)=0 from rfl,show((1:Int).toNat)=1 from rfl,getElem!_pos _ 0 a0,getElem!_pos s.data 1 a1]
 congr 1
 have:(s.extract 1 s.size).data=s.data.extract 1 s.size:=ByteArray.data_extract;simp only[this,Array.getElem_extract]
theorem z3v(s:ByteArray)(h:1<=s.size):(s.extract 1 s.size).size=s.size-1:=by rw[ByteArray.size_extract];omega
def xY(s:ByteArray):Prop:=Dg0 s\/(ch s 0=45/\1<s.size/\48<=ch s 1/\ch s 1<=57)
def SpQ(s:ByteArray)(w:World)(e:Ending)(w':World):Prop:=(∃(f:Nat) (n:Int) (b:Bool),e=.returned (.tuple #[.float .f64 f,.int .i64 n,.bool b])/\RowKit.Hid (f<18446744073709551616/\(xY s->b=false)))/\∃n,w'=w.drewN n
theorem SpQ.no(s:ByteArray)(w:World){e:Ending}(n:Nat)(he:e=.returned (.tuple #[.float .f64 0,.int .i64 0,.bool false])):SpQ s w e (w.drewN n):=⟨⟨0,0,false,he,⟨by omega,fun _=>rfl⟩⟩,n,rfl⟩
theorem SpQ.yes(s:ByteArray)(w:World){e:Ending}(n f:Nat)(z:Int)(hf:f<18446744073709551616)(h:¬xY s)(he:e=.returned (.tuple #[.float .f64 f,.int .i64 z,.bool true])):SpQ s w e (w.drewN n):=⟨⟨f,z,true,he,⟨hf,fun h'=>absurd h' h⟩⟩,n,rfl⟩
theorem z5R(s:ByteArray)(w:World)(hs:s.size<=1073741824):Calls Tryz.prog 181 #[.string s] w (SpQ s w):=by
 have HS:=Qh hs;have HI:=Qh (fun(t:ByteArray) (w:World) (h:t.size<=1073741824)=>z3a t ⟨#[105,110,102,105,110,105,116,121]⟩ w (by omega) (by decide) (by decide) (by decide));have HN:=Qh (fun(t:ByteArray) (w:World) (h:t.size<=1073741824)=>z3a t ⟨#[110,97,110]⟩ w (by omega) (by decide) (by decide) (by decide));have HInf:=Qh zdz;have HNan:=Qh zbA;clear hs;by_cases h0:s.size=0
 ·have h0':((s.size:Nat):Int)=0:=(by omega);have HZ:=Qh h0;clear h0;go_in;go_wp2_with fail;go_ret3;exact SpQ.no s w 0 rfl
 have h0':0<((s.size:Nat):Int):=(by omega);have h0n:0<s.size:=(by omega);have h0b:(((s.size:Nat):Int)==0)=false:=Qb (by omega);have HZ:=Qh h0;clear h0;by_cases hc1:ch s 0=43\/ch s 0=45
 ·have hsz:(1:Int)<=((s.size:Nat):Int):=by omega
  have HT:RowKit.Hid ((s.extract 1 s.size).size<=1073741824/\(xY s->Dg0 (s.extract 1 s.size))):=by
   have hz:=HZ.out;have hss:=HS.out;refine⟨by rw[z3v s (by omega)];omega,?_⟩;rintro(⟨a,b⟩|⟨a,b,c⟩)
   ·omega
   ·exact⟨by rw[z3v s (by omega)];omega,by rw[zf0 s b];exact c⟩
  generalize hx:s.extract 1 s.size=x at*
  go_in;rcases hc1 with e1|e1
  all_goals
   generalize hc:ch s 0=c at*
   subst e1;go_wp2_with fail;refine(HI.out x _ HT.1).mono ?_;rintro e w1 ⟨⟨n,rfl,hn⟩,m,rfl⟩;have hn8:n<=8:=hn.out.1;have hnz:RowKit.Hid (xY s->n=0):=Qh (fun h=>hn.out.2.2 (HT.2 h));clear hn;by_cases h38:3<n
   ·by_cases h8:n=8
    ·subst h8;have hno:RowKit.Hid (¬xY s):=Qh (fun h=>by have:=hnz.out h;omega);clear hnz;go_wp2_with fail;refine(HInf.out _ _).mono ?_;rintro e w2 ⟨⟨f,rfl,hf⟩,rfl⟩;have HF:=Qh hf;clear hf;go_wp2_with fail;go_ret3;exact SpQ.yes s w m f _ HF.out hno.out rfl
    ·have h38':decide ((n:Int)<8)=true:=(by simp;omega);have hno:RowKit.Hid (¬xY s):=Qh (fun h=>by have:=hnz.out h;omega);clear hnz;go_wp2_with fail;refine(HInf.out _ _).mono ?_;rintro e w2 ⟨⟨f,rfl,hf⟩,rfl⟩;have HF:=Qh hf;clear hf;go_wp2_with fail;go_ret3;exact SpQ.yes s w m f _ HF.out hno.out rfl
   ·by_cases h3:n=3
    ·subst h3;have hno:RowKit.Hid (¬xY s):=Qh (fun h=>by have:=hnz.out h;omega);clear hnz;go_wp2_with fail;refine(HInf.out _ _).mono ?_;rintro e w2 ⟨⟨f,rfl,hf⟩,rfl⟩;have HF:=Qh hf;clear hf;go_wp2_with fail;go_ret3;exact SpQ.yes s w m f _ HF.out hno.out rfl
    ·have h3n:((n:Int)==3)=false:=Qb (by omega);have h8n:((n:Int)==8)=false:=Qb (by omega);clear hnz;go_wp2_with fail;go_ret3;exact SpQ.no s w m rfl
 by_cases hc2:ch s 0=105\/ch s 0=73
 ·have HT:RowKit.Hid (s.size<=1073741824/\(xY s->Dg0 s)):=by
   refine⟨HS.out,?_⟩;rintro(a|⟨a,-⟩)
   ·exact a
   ·omega
  go_in;rcases hc2 with e1|e1
  all_goals
   generalize hc:ch s 0=c at*
   subst e1;clear hc1;go_wp2_with fail;refine(HI.out s _ HT.1).mono ?_;rintro e w1 ⟨⟨n,rfl,hn⟩,m,rfl⟩;have hn8:n<=8:=hn.out.1;have hnz:RowKit.Hid (xY s->n=0):=Qh (fun h=>hn.out.2.2 (HT.2 h));clear hn;by_cases h38:3<n
   ·by_cases h8:n=8
    ·subst h8;have hno:RowKit.Hid (¬xY s):=Qh (fun h=>by have:=hnz.out h;omega);clear hnz;go_wp2_with fail;refine(HInf.out _ _).mono ?_;rintro e w2 ⟨⟨f,rfl,hf⟩,rfl⟩;have HF:=Qh hf;clear hf;go_wp2_with fail;go_ret3;exact SpQ.yes s w m f _ HF.out hno.out rfl
    ·have h38':decide ((n:Int)<8)=true:=(by simp;omega);have hno:RowKit.Hid (¬xY s):=Qh (fun h=>by have:=hnz.out h;omega);clear hnz;go_wp2_with fail;refine(HInf.out _ _).mono ?_;rintro e w2 ⟨⟨f,rfl,hf⟩,rfl⟩;have HF:=Qh hf;clear hf;go_wp2_with fail;go_ret3;exact SpQ.yes s w m f _ HF.out hno.out rfl
   ·by_cases h3:n=3
    ·subst h3;have hno:RowKit.Hid (¬xY s):=Qh (fun h=>by have:=hnz.out h;omega);clear hnz;go_wp2_with fail;refine(HInf.out _ _).mono ?_;rintro e w2 ⟨⟨f,rfl,hf⟩,rfl⟩;have HF:=Qh hf;clear hf;go_wp2_with fail;go_ret3;exact SpQ.yes s w m f _ HF.out hno.out rfl
    ·have h3n:((n:Int)==3)=false:=Qb (by omega);have h8n:((n:Int)==8)=false:=Qb (by omega);clear hnz;go_wp2_with fail;go_ret3;exact SpQ.no s w m rfl
 by_cases hc3:ch s 0=110\/ch s 0=78
 ·have hno:RowKit.Hid (¬xY s):=by
   refine Qh ?_;rintro(⟨-,a⟩|⟨a,-⟩)<;>omega
  go_in;rcases hc3 with e1|e1
  all_goals
   generalize hc:ch s 0=c at*
   subst e1;clear hc1 hc2;go_wp2_with fail;refine(HN.out s _ HS.out).mono ?_;rintro e w1 ⟨⟨n,rfl,hn⟩,m,rfl⟩;by_cases h3:n=3
   ·subst h3;clear hn;go_wp2_with fail;refine(HNan.out _).mono ?_;rintro e w2 ⟨⟨f,rfl,hf⟩,rfl⟩;have HF:=Qh hf;clear hf;go_wp2_with fail;go_ret3;exact SpQ.yes s w m f _ HF.out hno.out rfl
   ·have h3n:((n:Int)==3)=false:=Qb (by omega);clear hn h3;go_wp2_with fail;go_ret3;exact SpQ.no s w m rfl
 ·have n1:(((ch s 0:Nat):Int)==43)=false:=Qb (by omega);have n2:(((ch s 0:Nat):Int)==45)=false:=Qb (by omega);have n3:(((ch s 0:Nat):Int)==105)=false:=Qb (by omega);have n4:(((ch s 0:Nat):Int)==73)=false:=Qb (by omega);have n5:(((ch s 0:Nat):Int)==110)=false:=Qb (by omega);have n6:(((ch s 0:Nat):Int)==78)=false:=Qb (by omega);clear hc1 hc2 hc3;go_in;go_wp2_with fail;go_ret3;exact SpQ.no s w 0 rfl
end Go.Proofs.YtkkecpamnnojoaaGreatDoor
namespace Go.Proofs.YtkkecpamnnojoaaGreatDoor.Dc
def dv(D:Nat->Nat):Nat->Nat
 |0=>0
 |n+1=>10*dv D n+(D n-48)
theorem xt(D:Nat->Nat)(n:Nat):dv D (n+1)=10*dv D n+(D n-48):=rfl
structure Good (D:Nat->Nat) (n:Nat):Prop where
 dig:∀i,i<n->48<=D i/\D i<=57
 one:1<=n
 lead:D 0≠48
theorem zcn{D:Nat->Nat}{n:Nat}(h:∀i,i<n->48<=D i/\D i<=57):∀i,i<=n->dv D i<10^i
 |0,_=>by simp[dv]
 |i+1,hi=>by have ih:=zcn h i (by omega);have:=h i (by omega);rw[xt,Nat.pow_succ];omega
theorem xX{D:Nat->Nat}{n:Nat}(h:∀i,i<n->48<=D i/\D i<=57):∀k i,i+k<=n->dv D i*10^k<=dv D (i+k)/\dv D (i+k)<(dv D i+1)*10^k
 |0,i,_=>by simp
 |k+1,i,hk=>by obtain⟨a,b⟩:=xX h k i (by omega);have:=h (i+k) (by omega);rw[show i+(k+1)=(i+k)+1 by omega,xt,Nat.pow_succ,<-Nat.mul_assoc,<-Nat.mul_assoc];omega
theorem zdQ{D:Nat->Nat}{n:Nat}(H:Good D n):10^(n-1)<=dv D n:=by have h1:=H.one;have hd:=H.dig 0 (by omega);have hl:=H.lead;have:=(xX H.dig (n-1) 1 (by omega)).1;rw[show 1+(n-1)=n by omega,show dv D 1=D 0-48 from by simp[dv]]at this;exact Nat.le_trans (Nat.le_mul_of_pos_left _ (by omega)) this
structure Cheat (k L:Nat) (d:Nat) (S:Nat->Nat):Prop where
 dig:∀i,i<L->48<=S i/\S i<=57
 five:dv S L=5^k
 sum:L+d=k+1
 low:10^(L-1)<=5^k
 pos:1<=L
 k1:1<=k
theorem Cheat.high{k L d:Nat}{S:Nat->Nat}(h:Cheat k L d S):5^k<10^L:=by rw[<-h.five];exact zcn h.dig L (Nat.le_refl _)
theorem z6E:∀k,1<=k->5^k%10=5
 |0,h=>by omega
 |1,_=>by decide
 |k+2,_=>by have:=z6E (k+1) (by omega);rw[Nat.pow_succ];omega
structure Less (res:Bool) (V n k L:Nat):Prop where
 yes:res=true->V*10^L<5^k*10^n
 no:res=false->5^k*10^n<=V*10^L
theorem zbi{a b:Nat}(h:a<=b):10^b=10^a*10^(b-a):=by rw[<-Nat.pow_add];congr 1;omega
theorem zbH{D S:Nat->Nat}{n k L d:Nat}(hD:∀i,i<n->48<=D i/\D i<=57)(C:Cheat k L d S)(hn:n<L)(he:dv D n=dv S n):Less true (dv D n) n k L:=by refine⟨fun _=>?_,fun h=>by cases h⟩;obtain⟨a,b⟩:=xX C.dig (L-n) n (by omega);rw[show n+(L-n)=L by omega,C.five]at a;have ho:=z6E k C.k1;have hlt:dv S n*10^(L-n)<5^k:=(by refine Nat.lt_of_le_of_ne a fun e=>?_;rw[show L-n=(L-n-1)+1 by omega,Nat.pow_succ,<-Nat.mul_assoc]at e;omega);rw[he,zbi (Nat.le_of_lt hn),Nat.mul_left_comm,Nat.mul_comm];exact Nat.mul_lt_mul_of_pos_right hlt (Nat.pow_pos (by omega))
theorem zdr{D S:Nat->Nat}{n k L d i:Nat}(hD:∀i,i<n->48<=D i/\D i<=57)(C:Cheat k L d S)(hi:i<n)(hi2:i<L)(he:dv D i=dv S i)(hlt:D i<S i):Less true (dv D n) n k L:=by
 refine⟨fun _=>?_,fun h=>by cases h⟩;have h1:=hD i hi;have h2:=C.dig i hi2;have a:=(xX hD (n-(i+1)) (i+1) (by omega)).2;have b:=(xX C.dig (L-(i+1)) (i+1) (by omega)).1;rw[show i+1+(n-(i+1))=n by omega]at a;rw[show i+1+(L-(i+1))=L by omega,C.five]at b;have hle:dv D (i+1)+1<=dv S (i+1):=(by rw[xt,xt,he];omega);have p1:10^n=10^(n-(i+1))*10^(i+1):=(by rw[<-Nat.pow_add];congr 1;omega);have p2:10^L=10^(L-(i+1))*10^(i+1):=(by rw[<-Nat.pow_add];congr 1;omega);rw[p1,p2,<-Nat.mul_assoc,<-Nat.mul_assoc];refine Nat.mul_lt_mul_of_pos_right ?_ (Nat.pow_pos (by omega));have hp:0<10^(L-(i+1)):=Nat.pow_pos (by omega)
 calc dv D n*10^(L-(i+1))<(dv D (i+1)+1)*10^(n-(i+1))*10^(L-(i+1)):=Nat.mul_lt_mul_of_pos_right a hp
  _<=dv S (i+1)*10^(n-(i+1))*10^(L-(i+1)):=Nat.mul_le_mul_right _ (Nat.mul_le_mul_right _ hle)
  _=dv S (i+1)*10^(L-(i+1))*10^(n-(i+1)):=Nat.mul_right_comm ..
  _<=5^k*10^(n-(i+1)):=Nat.mul_le_mul_right _ b
theorem zds{D S:Nat->Nat}{n k L d i:Nat}(hD:∀i,i<n->48<=D i/\D i<=57)(C:Cheat k L d S)(hi:i<n)(hi2:i<L)(he:dv D i=dv S i)(hlt:S i<D i):Less false (dv D n) n k L:=by
 refine⟨(fun h=>by cases h),fun _=>?_⟩;have h1:=hD i hi;have h2:=C.dig i hi2;have a:=(xX hD (n-(i+1)) (i+1) (by omega)).1;have b:=(xX C.dig (L-(i+1)) (i+1) (by omega)).2;rw[show i+1+(n-(i+1))=n by omega]at a;rw[show i+1+(L-(i+1))=L by omega,C.five]at b;have hle:dv S (i+1)+1<=dv D (i+1):=(by rw[xt,xt,he];omega);have p1:10^n=10^(n-(i+1))*10^(i+1):=(by rw[<-Nat.pow_add];congr 1;omega);have p2:10^L=10^(L-(i+1))*10^(i+1):=(by rw[<-Nat.pow_add];congr 1;omega);rw[p1,p2,<-Nat.mul_assoc,<-Nat.mul_assoc];refine Nat.mul_le_mul_right _ ?_
 calc 5^k*10^(n-(i+1))<=(dv S (i+1)+1)*10^(L-(i+1))*10^(n-(i+1)):=Nat.mul_le_mul_right _ (Nat.le_of_lt b)
  _<=dv D (i+1)*10^(L-(i+1))*10^(n-(i+1)):=Nat.mul_le_mul_right _ (Nat.mul_le_mul_right _ hle)
  _=dv D (i+1)*10^(n-(i+1))*10^(L-(i+1)):=Nat.mul_right_comm ..
  _<=dv D n*10^(L-(i+1)):=Nat.mul_le_mul_right _ a
theorem zbJ{D S:Nat->Nat}{n k L d:Nat}(hD:∀i,i<n->48<=D i/\D i<=57)(C:Cheat k L d S)(hn:L<=n)(he:dv D L=dv S L):Less false (dv D n) n k L:=by refine⟨(fun h=>by cases h),fun _=>?_⟩;have a:=(xX hD (n-L) L (by omega)).1;rw[show L+(n-L)=n by omega,he,C.five]at a;have p1:10^n=10^(n-L)*10^L:=(by rw[<-Nat.pow_add];congr 1;omega);rw[p1,<-Nat.mul_assoc];exact Nat.mul_le_mul_right _ a
theorem z9f{k L d n V:Nat}{S:Nat->Nat}{res:Bool}(C:Cheat k L d S)(hV:10^(n-1)<=V)(hV2:V<10^n)(hn:1<=n)(H:Less res V n k L):
  let e:=if res then d-1 else d
  1<=d/\2^k*V<10^(n+e)/\10^(n+e-1)<=2^k*V:=by
 have hs:=C.sum;have hhi:=C.high;have hlo:=C.low;have hp1:=C.pos;have h10:10^k=2^k*5^k:=(by rw[<-Nat.mul_pow]);have hd1:1<=d:=(by refine Nat.pos_of_ne_zero fun e=>?_;have hL:L-1=k:=(by omega);rw[hL,h10]at hlo;have h2:2^1<=2^k:=Nat.pow_le_pow_right (by omega) C.k1;have h5:0<5^k:=Nat.pow_pos (by omega);have:=Nat.mul_le_mul_right (5^k) h2;omega);refine⟨hd1,?_⟩;have h5:0<5^k:=Nat.pow_pos (by omega);cases res
 ·have h:=H.no rfl
  simp only[Bool.false_eq_true,if_false];constructor
  ·--2^k<=10^d
   have:2^k<=10^d:=by refine Nat.le_of_mul_le_mul_right (c:=5^k) ?_ h5;rw[<-h10,show k=d+(L-1) by omega,Nat.pow_add];rw[show d+(L-1)=k by omega];exact Nat.mul_le_mul_left _ hlo
   calc 2^k*V<=10^d*V:=Nat.mul_le_mul_right _ this
    _<10^d*10^n:=Nat.mul_lt_mul_of_pos_left hV2 (Nat.pow_pos (by omega))
    _=10^(n+d):=by rw[<-Nat.pow_add];congr 1;omega
  ·refine Nat.le_of_mul_le_mul_right (c:=10^L) ?_ (Nat.pow_pos (by omega));rw[<-Nat.pow_add,show n+d-1+L=k+n by omega,Nat.pow_add,h10,Nat.mul_assoc,Nat.mul_assoc];exact Nat.mul_le_mul_left _ h
 ·have h:=H.yes rfl
  simp only[if_true];constructor
  ·refine Nat.lt_of_mul_lt_mul_right (a:=10^L) ?_;rw[<-Nat.pow_add,show n+(d-1)+L=k+n by omega,Nat.pow_add,h10,Nat.mul_assoc,Nat.mul_assoc];exact Nat.mul_lt_mul_of_pos_left h (Nat.pow_pos (by omega))
  ·have:10^(d-1)<=2^k:=by
    refine Nat.le_of_mul_le_mul_right (c:=5^k) ?_ h5;rw[<-h10]
    calc 10^(d-1)*5^k<=10^(d-1)*10^L:=Nat.mul_le_mul_left _ (Nat.le_of_lt hhi)
     _=10^k:=by rw[<-Nat.pow_add];congr 1;omega
   calc 10^(n+(d-1)-1)=10^(d-1)*10^(n-1):=by rw[<-Nat.pow_add];congr 1;omega
    _<=2^k*V:=Nat.mul_le_mul this hV
theorem z9R{D:Nat->Nat}{n R K:Nat}(h:∀i,i<n->48<=D i/\D i<=57)(hR:R+1<=n)(c:Nat)(hc:c+K*dv D (R+1)=K*dv D n/10^(n-(R+1))):
  (c+K*(D R-48))/10+K*dv D R=K*dv D n/10^(n-R)/\(c+K*(D R-48))%10=K*dv D n/10^(n-(R+1))%10:=by
 have hp:10^(n-R)=10^(n-(R+1))*10:=(by rw[<-Nat.pow_succ];congr 1;omega);rw[hp,<-Nat.div_div_eq_div_mul,<-hc,xt];have e:c+K*(10*dv D R+(D R-48))=(c+K*(D R-48))+10*(K*dv D R):=(by rw[Nat.mul_add,Nat.mul_left_comm];omega);rw[e];omega
theorem z3m{D:Nat->Nat}{n R K:Nat}(h:∀i,i<n->48<=D i/\D i<=57)(hR:R<=n)(hK:0<K)(c:Nat)(hc:c+K*dv D R=K*dv D n/10^(n-R)):c<K:=by have a:=(xX h (n-R) R (by omega)).2;rw[show R+(n-R)=n by omega]at a;have hp:0<10^(n-R):=Nat.pow_pos (by omega);have:K*dv D n/10^(n-R)<K*(dv D R+1):=(by refine Nat.div_lt_of_lt_mul ?_;rw[Nat.mul_comm (10^(n-R)),Nat.mul_assoc];exact Nat.mul_lt_mul_of_pos_left a hK);rw[Nat.mul_add]at this;omega
def upd(D:Nat->Nat)(i v:Nat):Nat->Nat:=fun j=>if j=i then v else D j
theorem z18(D:Nat->Nat)(i v:Nat):upd D i v i=v:=by unfold upd;rw[if_pos rfl]
theorem z0d(D:Nat->Nat){i j:Nat}(v:Nat)(h:j≠i):upd D i v j=D j:=by unfold upd;rw[if_neg h]
structure LM (D D':Nat->Nat) (n e K W:Nat):Prop where
 same:∀i,i<800->i<W->D' i=D i
 set:∀j,j<800->W<=j->j<n+e->D' j=48+K*dv D n/10^(n+e-1-j)%10
theorem LM.start(D:Nat->Nat)(n e K:Nat):LM D D n e K (n+e):=⟨fun _ _ _=>rfl,fun j _ h1 h2=>by omega⟩
theorem LM.put{D D':Nat->Nat}{n e K W:Nat}(H:LM D D' n e K (W+1)):LM D (upd D' W (48+K*dv D n/10^(n+e-1-W)%10)) n e K W:=by
 refine⟨fun i hi hw=>?_,fun j hj hw hn=>?_⟩
 ·rw[z0d _ _ (by omega)];exact H.same i hi (by omega)
 ·by_cases h:j=W
  ·rw[h,z18]
  ·rw[z0d _ _ h];exact H.set j hj (by omega) hn
theorem LM.skip{D D':Nat->Nat}{n e K W:Nat}(H:LM D D' n e K (W+1))(hW:800<=W):LM D D' n e K W:=
 ⟨fun i hi hw=>H.same i hi (by omega),fun j hj hw hn=>H.set j hj (by omega) hn⟩
theorem LM.good{D D':Nat->Nat}{n e K:Nat}(H:LM D D' n e K 0)(G:Good D n)(hK:2<=K)(h1:K*dv D n<10^(n+e))(h2:10^(n+e-1)<=K*dv D n):Good D' (min 800 (n+e))/\(e=0->D 0<D' 0):=by
 have hn:=G.one;have hp:0<10^(n+e-1):=Nat.pow_pos (by omega);have e0:=H.set 0 (by omega) (Nat.zero_le _) (by omega);rw[Nat.sub_zero]at e0;have hq:K*dv D n/10^(n+e-1)<10:=(by refine Nat.div_lt_of_lt_mul ?_;rw[show n+e=(n+e-1)+1 by omega,Nat.pow_succ]at h1;exact h1);have hq1:1<=K*dv D n/10^(n+e-1):=(Nat.le_div_iff_mul_le hp).2 (by omega);refine⟨⟨fun i hi=>?_,by omega,by omega⟩,fun he=>?_⟩
 ·rw[H.set i (by omega) (Nat.zero_le _) (by omega)];omega
 ·subst he;have hc:=(xX G.dig (n-1) 1 (by omega)).1;rw[show 1+(n-1)=n by omega,show dv D 1=D 0-48 from by simp[dv]]at hc;have hd:=G.dig 0 (by omega);have hl:=G.lead;have:K*(D 0-48)<=K*dv D n/10^(n+0-1):=(by refine(Nat.le_div_iff_mul_le (Nat.pow_pos (by omega))).2 ?_;rw[Nat.mul_assoc];exact Nat.mul_le_mul_left _ hc);have h2':2*(D 0-48)<=K*(D 0-48):=Nat.mul_le_mul_right _ hK;omega
structure RM (D D':Nat->Nat) (w:Nat):Prop where
 dig:∀i,i<w->48<=D' i/\D' i<=57
 same:∀i,w<=i->D' i=D i
 lead:0<w->D' 0≠48
theorem RM.start(D:Nat->Nat):RM D D 0:=⟨fun i h=>by omega,fun _ _=>rfl,fun h=>by omega⟩
theorem RM.put{D D':Nat->Nat}{w x:Nat}(H:RM D D' w)(hx:x<=9)(h0:w=0->1<=x):RM D (upd D' w (48+x)) (w+1):=by
 refine⟨fun i hi=>?_,fun i hi=>?_,fun _=>?_⟩
 ·by_cases h:i=w
  ·rw[h,z18];omega
  ·rw[z0d _ _ h];exact H.dig i (by omega)
 ·rw[z0d _ _ (by omega)];exact H.same i (by omega)
 ·by_cases h:w=0
  ·subst h;rw[z18];have:=h0 rfl;omega
  ·rw[z0d _ _ (by omega)];exact H.lead (by omega)
theorem z9r{n k t:Nat}(ht:t<k)(h:2^t∣n):2^(t+1)∣n%2^k*10:=by obtain⟨q,hq⟩:=h;have hk:2^k=2^t*2^(k-t):=(by rw[<-Nat.pow_add];congr 1;omega);rw[hq,hk,Nat.mul_mod_mul_left,Nat.pow_succ];exact⟨q%2^(k-t)*5,by rw[Nat.mul_assoc,Nat.mul_assoc];congr 1;omega⟩
theorem zb9{n k:Nat}(h:2^k∣n):n%2^k*10=0:=by rw[Nat.mod_eq_zero_of_dvd h,Nat.zero_mul]
end Go.Proofs.YtkkecpamnnojoaaGreatDoor.Dc
namespace Go.Proofs.YtkkecpamnnojoaaGreatDoor
open Go.ChangeShapes Go.WideShapes Go.ChangeAt Go.RowKit
open Bt
namespace Dc
structure DS where
 d:Nat->Nat
 nd:Int
 dp:Int
 ng:Bool
 tr:Bool
def z0v(σ:DS)(i:Nat):Value:=if i<800 then .int .u8 ((σ.d i:Nat):Int)else if i=800 then .int .i64 σ.nd else if i=801 then .int .i64 σ.dp else if i=802 then .bool σ.ng else .bool σ.tr
def dA(σ:DS):Array Value:=((List.range 804).map (z0v σ)).toArray
theorem z3C(σ:DS)(i:Nat)(h:i<804):(dA σ)[i]?=some (z0v σ i):=by simp[dA,h]
theorem z3B(σ τ:DS)(i:Nat)(v:Value)(h1:∀j,j<804->j≠i->z0v τ j=z0v σ j)(h2:i<804->z0v τ i=v):(dA σ).setIfInBounds i v=dA τ:=by
 apply Array.ext_getElem?;intro j;rw[Array.getElem?_setIfInBounds];by_cases hj:j<804
 ·by_cases hij:i=j
  ·subst hij;simp[dA,hj,h2 hj]
  ·simp[dA,hj,hij,h1 j hj (fun e=>hij e.symm)]
 ·by_cases hij:i=j
  ·subst hij;simp[dA,hj]
  ·simp[dA,hj,hij]
def DAt(w:World)(b:Nat)(σ:DS):Prop:=w.heap[b]?=some (.cells (dA σ) 179 (0,0))
theorem DAt.digit{w:World}{b:Nat}{σ:DS}(h:DAt w b σ){i:Nat}(hi:i<800):w.cell? ⟨b,i,none⟩=some (.int .u8 ((σ.d i:Nat):Int)):=by rw[za h i,z3C σ i (by omega)];unfold z0v;rw[if_pos hi]
theorem DAt.cnd{w:World}{b:Nat}{σ:DS}(h:DAt w b σ):w.cell? ⟨b,800,none⟩=some (.int .i64 σ.nd):=by rw[za h 800,z3C σ 800 (by omega)];rfl
theorem DAt.cdp{w:World}{b:Nat}{σ:DS}(h:DAt w b σ):w.cell? ⟨b,801,none⟩=some (.int .i64 σ.dp):=by rw[za h 801,z3C σ 801 (by omega)];rfl
theorem DAt.cng{w:World}{b:Nat}{σ:DS}(h:DAt w b σ):w.cell? ⟨b,802,none⟩=some (.bool σ.ng):=by rw[za h 802,z3C σ 802 (by omega)];rfl
theorem DAt.ctr{w:World}{b:Nat}{σ:DS}(h:DAt w b σ):w.cell? ⟨b,803,none⟩=some (.bool σ.tr):=by rw[za h 803,z3C σ 803 (by omega)];rfl
theorem DAt.free{w:World}{b:Nat}{σ:DS}(h:DAt w b σ)(i:Nat):w.frozen? ⟨b,i,none⟩=false:=zd h i
theorem DAt.sd{w:World}{b:Nat}{σ:DS}(h:DAt w b σ){i v:Nat}(hi:i<800):DAt (w.setCell ⟨b,i,none⟩ (.int .u8 (v:Int))) b {σ with d:=upd σ.d i v}:=by have:=zg h i (.int .u8 (v:Int));rw[z3B σ {σ with d:=upd σ.d i v} i _ (fun j hj hne=>by unfold z0v;simp only[z0d _ _ hne]) (fun _=>by unfold z0v;rw[if_pos hi];simp only[z18])]at this;exact this
theorem DAt.snd{w:World}{b:Nat}{σ:DS}(h:DAt w b σ)(v:Int):DAt (w.setCell ⟨b,800,none⟩ (.int .i64 v)) b {σ with nd:=v}:=by have:=zg h 800 (.int .i64 v);rw[z3B σ {σ with nd:=v} 800 (.int .i64 v) (fun j hj hne=>by unfold z0v;simp only[if_neg hne]) (fun _=>rfl)]at this;exact this
theorem DAt.sdp{w:World}{b:Nat}{σ:DS}(h:DAt w b σ)(v:Int):DAt (w.setCell ⟨b,801,none⟩ (.int .i64 v)) b {σ with dp:=v}:=by have:=zg h 801 (.int .i64 v);rw[z3B σ {σ with dp:=v} 801 (.int .i64 v) (fun j hj hne=>by unfold z0v;simp only[if_neg hne]) (fun _=>rfl)]at this;exact this
theorem DAt.sng{w:World}{b:Nat}{σ:DS}(h:DAt w b σ)(v:Bool):DAt (w.setCell ⟨b,802,none⟩ (.bool v)) b {σ with ng:=v}:=by have:=zg h 802 (.bool v);rw[z3B σ {σ with ng:=v} 802 (.bool v) (fun j hj hne=>by unfold z0v;simp only[if_neg hne]) (fun _=>rfl)]at this;exact this
theorem DAt.str{w:World}{b:Nat}{σ:DS}(h:DAt w b σ)(v:Bool):DAt (w.setCell ⟨b,803,none⟩ (.bool v)) b {σ with tr:=v}:=by
 have:=zg h 803 (.bool v);rw[z3B σ {σ with tr:=v} 803 (.bool v) (fun j hj hne=>by
  unfold z0v;have:j=800\/j=801\/j=802\/j<800:=(by omega);rcases this with h|h|h|h<;>simp[h]) (fun _=>rfl)]at this
 exact this
structure Ok (σ:DS) (n:Nat):Prop where
 good:Good σ.d n
 nd:σ.nd=(n:Int)
 le:n<=800
end Dc
end Go.Proofs.YtkkecpamnnojoaaGreatDoor
namespace Go.Proofs.YtkkecpamnnojoaaGreatDoor
open Go.ChangeShapes Go.WideShapes Go.ChangeAt Go.RowKit
open Bt Dc
theorem Dc.DAt.drewN{w:World}{b:Nat}{σ:DS}(h:DAt w b σ)(n:Nat):DAt (w.drewN n) b σ:=h
theorem z5L(b:Nat)(σ:DS)(n:Nat)(w:World)(h:DAt w b σ)(ho:Dc.Ok σ n):
  Calls Tryz.prog 162 #[.pointer (some ⟨b,0,none⟩)] w fun e w'=>e=.returned (.tuple #[])/\RowKit.Hid ((∃n':Nat,DAt w' b {σ with nd:=(n':Int)}/\Dc.Good σ.d n'/\n'<=n)/\Keep (·=b) w w'):=by
 have H:=Qh (Qa h ho);clear h ho;go_in;go_wp2_with fail;go_loopg[] n (fun gq wx=>∃k:Nat,gq=k+1/\k+1<=n/\RowKit.Hid (DAt wx b {σ with nd:=((k+1:Nat):Int)}/\Dc.Good σ.d (k+1)/\Keep (·=b) w wx))
 case atStart=>
  have h1:=H.2.good.one;refine⟨n-1,by omega,by omega,?_⟩;rw[show n-1+1=n by omega,<-H.2.nd];exact⟨H.1,H.2.good,Keep.refl _ _⟩
 case round=>
  obtain⟨k,hgk,hkn,HR⟩:=hrel;have hle:=H.2.le;have c0:=HR.1.cnd;have c1:=HR.1.digit (i:=k) (by omega);have f0:=HR.1.free 800;simp only at c0 c1;have hw1:IntKind.i64.wrap (k:Int)=(k:Int):=(by rw[IntKind.wrap_i64];omega);have hk8:(k:Int)<800:=(by omega);clear hle;by_cases h0:σ.d k=48
  ·have hk1:1<=k:=Nat.pos_of_ne_zero fun e=>by subst e;exact HR.2.1.lead h0
   rw[h0]at c1;have HK:=Qh hk1;clear h0 hk1;go_wp2_with fail;go_quiet(fail);go_wp2_with fail;go_roundg(gk-1)
   case measure=>omega
   case rel=>
    obtain⟨j,rfl⟩:∃j,k=j+1:=⟨k-1,by have:=HK.out;omega⟩;refine⟨j,by omega,by omega,?_,⟨fun i hi=>HR.2.1.dig i (by omega),by omega,HR.2.1.lead⟩,Keep.setCell (HR.2.2.drewN _) (p:=⟨b,800,none⟩) (Or.inl rfl) _⟩;exact(HR.1.drewN _).snd _
  ·have h0':(((σ.d k:Nat):Int)==48)=false:=Qb (by omega);clear h0;go_wp2_with fail;go_quiet(fail);go_wp2_with fail;go_end0;exact⟨rfl,⟨k+1,HR.1,HR.2.1,hkn⟩,HR.2.2.drewN _⟩
end Go.Proofs.YtkkecpamnnojoaaGreatDoor
