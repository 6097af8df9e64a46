/- A part of the proof of ScriptParses: nothing is assumed. By an AI agent. -/
import Derived.Test.YtkkecpamnnojoaaGreatDoorRows
import Derived.WalkKit
import Derived.ProofKit
import Derived.OpenShut
import Derived.Carry
import Derived.Deep.Slices
import Derived.Deep.Fields
import Derived.WalkLawsBesides
import Derived.Outline
import Derived.Handy
import Derived.Deep.QuietTactic
import Derived.BigQuiet
import Derived.Lib.Hide
import Derived.RegionCalls
import Derived.Deep.RegionWith
import Derived.Deep.RegionHeld3
import Derived.Deep.DeepCutAuto
import Derived.Deep.CutBlock
import Derived.Deep.LoopGhost
import Derived.StillTailTactics
import Derived.Maps.AppendAt
import Derived.BigRegion
import Derived.Laws.BitsAllLaws
import Derived.Laws.Bits64
import Derived.WalkSpells
import Derived.Deep.AppendLies
import Derived.Deep.DeepMust
import Derived.Shelf.Small.Strs
import Derived.Shelf.Strconv.Itoa0
import Derived.Shelf.Strconv.Itoa1
import Derived.Shelf.LaysM
import Derived.Shelf.Strconv.Itoa2
import Derived.Shelf.Strconv.Itoa3
import Derived.Shelf.Strconv.Itoa4
import Derived.Shelf.Strconv.ParseIntEmpty
import Derived.Shelf.Strconv.Clone
import Derived.Shelf.Strconv.SyntaxError
import Derived.Shelf.LaysC
import Derived.Shelf.Strconv.ToError
import Derived.Shelf.Strconv.Lower
import Derived.Shelf.Strconv.ParseUint10
import Derived.Shelf.Strconv.ParseUint10Empty
import Derived.Shelf.Strconv.ParseUint10Any
import Derived.Shelf.Strconv.ParseInt10
import Derived.Shelf.Strconv.RangeError
import Derived.Shelf.Strconv.ToErrorRange
import Derived.Shelf.Strconv.ParseUintEmpty
import Derived.Shelf.Strconv.ParseUint10b64
import Derived.Shelf.Strconv.ParseUint10b32
import Derived.Shelf.Strconv.ParseUint10b16
import Derived.Shelf.Strconv.ParseUint10b8
import Derived.Shelf.Strconv.ParseUint10At
import Derived.Shelf.Strconv.ParseInt10At64
import Derived.Shelf.Strconv.ParseInt10At32
import Derived.Shelf.Strconv.ParseInt10At16
import Derived.Shelf.Strconv.ParseInt10At8
import Derived.Shelf.Strconv.ParseInt10All
import Derived.Shelf.Strconv.ParseIntPublic10
import Derived.Shelf.Strconv.ErrVarParseInt
import Derived.Shelf.Strings.Search1
import Derived.Shelf.Strings.Search2
import Derived.Shelf.Strings.Cut
import Derived.Shelf.Strings.Shaped
import Derived.Shelf.Bits.Mul64
import Derived.Test.YtkkecpamnnojoaaGreatDoorProg
import Derived.Deep.CutRange
set_option linter.unusedVariables false
set_option linter.unusedSimpArgs false
set_option maxRecDepth 100000
set_option maxHeartbeats 32000000
namespace Go.Proofs.YtkkecpamnnojoaaGreatDoor
open Go.ChangeShapes Go.WideShapes Go.ChangeAt Go.RowKit
theorem Qh{p:Prop}(h:p):Hid p:=h
theorem Qa{a b:Prop}(h:a)(k:b):a/\b:=⟨h,k⟩
theorem Qb{α:Type}[BEq α][LawfulBEq α]{a b:α}(h:a≠b):(a==b)=false:=by rw[beq_eq_false_iff_ne];exact h
theorem Qx{α:Sort _}(a:α):∃x,a=x:=⟨_,rfl⟩
section
variable {H:Type} {enc:TypeId × Value -> H} {P:Program}
theorem z10(hl:laidOutB P=true){W W':World}(hb:Below W.heap.size W W'):∀{ts:List TypeId} {vs:List Value} {ds:List (DataW H)} {ps:List MemPlace},
  (∀t∈ts,P.readableRec t=true/\t<P.types.size)->DataW.TrodAll enc P W 0 (fun _=>true) true ts vs ds ps->(∀x∈ps,x.block<W.heap.size)->
  DataW.TrodAll enc P W' 0 (fun b=>decide (b<W.heap.size)) true ts vs ds ps
 |[],vs,ds,ps,_,h,_=>by obtain⟨rfl,rfl,rfl⟩:=trodAll_nil h;exact trodAll_mk0
 |t::ts,vs,ds,ps,ht,h,hlt=>by obtain⟨v,vs',d,ds',p,q,rfl,rfl,rfl,h1,h2⟩:=trodAll_cons h;have a:=ht t (by simp);exact trodAll_cons_mk (Below.trod hl a.1 a.2 h1 hb (fun x hx=>hlt x (by simp[hx]))) (z10 hl hb (fun t' h'=>ht t' (by simp[h'])) h2 (fun x hx=>hlt x (by simp[hx])))
theorem zeV{f:Func}(h:(f.params.toList.all fun t=>P.readableRec t&&decide (t<P.types.size))=true):∀t∈f.params.toList,P.readableRec t=true/\t<P.types.size:=by intro t ht;have:=List.all_eq_true.1 h t ht;simpa using this
theorem zbM(hl:laidOutB P=true){f:Func}{s:ChangeSpec}{fresh handsOn:Bool}{W W':World}{args:Array Value}{ds gs:List (DataW H)}{before:List MemPlace}{T:TypeId}
  (hts:∀t∈f.params.toList,P.readableRec t=true/\t<P.types.size)(hW:DataW.Whole enc P f.params.toList s.vars false W args.toList ds gs before)(hvars:s.vars=[])
  (hfn:s.fn H ds={results:=[.lit (.bool true)],args:=ds})(hres:f.resultTypes=#[T])(hT:P.underlying T=some .bool)(hb:Below W.heap.size W W'):
  s.post enc P f false fresh handsOn false W args (.bool true) W':=by
 have hW':=hW;obtain⟨p,q,h1,h2,rfl,h3,h4⟩:=hW;rw[hvars]at h2;obtain⟨rfl,rfl⟩:=trodVars_none h2;have hlt:∀x∈p,x.block<W.heap.size:=fun x hx=>hW'.lt x (by simp[hx]);refine⟨ds,[],p++[],[],p,[],hW',?_,?_,?_,?_,fun h=>by cases h⟩
 ·rw[List.append_nil,hfn,hres];exact trodAll_mk1 (shut_bool hT true)
 ·rw[List.append_nil,hfn];exact z10 hl hb hts h1 hlt
 ·rw[hvars,List.append_nil,hfn];rfl
 ·exact World.keptBut_mono (fun x hx=>⟨hx,Or.inr (Or.inl (by simpa using hx))⟩) (hb.frame (·∈p++[]))
theorem qg(B off n:Nat):(⟨B,off,none⟩:Addr).add n=⟨B,off+n,none⟩:=by
 unfold Addr.add;by_cases h:n=0
 ·subst h;rfl
 ·rw[if_neg h]
end
end Go.Proofs.YtkkecpamnnojoaaGreatDoor
namespace Go.Proofs.YtkkecpamnnojoaaGreatDoor.Us
def lgp(p:Int):Int:=p*108853/32768
def lg2(x:Int):Int:=x*78913/262144
def skw(e:Int):Int:=(e*631305-261663)/2097152
def num(p k:Int):Nat:=10^p.toNat*2^k.toNat
def den(p k:Int):Nat:=10^(-p).toNat*2^(-k).toNat
theorem yE(p k:Int):0<den p k:=Nat.mul_pos (Nat.pow_pos (by omega)) (Nat.pow_pos (by omega))
theorem zdg(p k:Int):0<num p k:=Nat.mul_pos (Nat.pow_pos (by omega)) (Nat.pow_pos (by omega))
def pm(p:Int):Nat:=(num p (127-lgp p)+den p (127-lgp p)-1)/den p (127-lgp p)
def yK(p:Int):Nat:=(pm p+18446744073709551615)/18446744073709551616
def qO(p:Int):Nat:=yK p*18446744073709551616-pm p
def stk(q:Nat)(b:Bool):Nat:=if b then q/2*2+1 else q
def usc(x s hi lo:Nat):Nat:=
 let h:=x*hi/18446744073709551616
 let m:=x*hi%18446744073709551616
 if h%2^s≠0 then stk (h/2^s) true
 else
  let m2:=x*lo/18446744073709551616
  let h2:=if m<m2 then(h+18446744073709551615)%18446744073709551616 else h
  stk (h2/2^s) (decide (1<(m+18446744073709551616-m2)%18446744073709551616))
def unr(n d:Nat):Nat:=stk (n/d) (decide (n%d≠0))
theorem zep{x s hi lo A B:Nat}(hx:x<18446744073709551616)(hx1:0<x)(hhi:hi<18446744073709551616)(hlo:lo<18446744073709551616)(hle:lo<=hi*18446744073709551616)
  (hB:0<B)(hs:s<64)(hA:A<=(hi*18446744073709551616-lo)*B)(hA2:(hi*18446744073709551616-lo)*B<A+B)(hh:0<x*hi/18446744073709551616)
  (gap:∀n,x*A=n*(B*2^(128+s))\/x*A+B*36893488147419103232<=n*(B*2^(128+s))\/n*(B*2^(128+s))+B*36893488147419103232<=x*A):
  usc x s hi lo=unr (x*A) (B*2^(128+s)):=by
 have e1:=Nat.div_add_mod (x*hi) 18446744073709551616;have e2:=Nat.div_add_mod (x*lo) 18446744073709551616;have l1:=Nat.mod_lt (x*hi) (y:=18446744073709551616) (by omega);have l2:=Nat.mod_lt (x*lo) (y:=18446744073709551616) (by omega);have u2:x*lo<=18446744073709551615*18446744073709551615:=Nat.mul_le_mul (by omega) (by omega);have u1:x*hi<=18446744073709551615*18446744073709551615:=Nat.mul_le_mul (by omega) (by omega);unfold usc;generalize hH:x*hi/18446744073709551616=h at*
 generalize hM:x*hi%18446744073709551616=m at*
 generalize hM2:x*lo/18446744073709551616=m2 at*
 generalize hL2:x*lo%18446744073709551616=r2 at*
 have hT:x*((hi*18446744073709551616-lo))+(m2*18446744073709551616+r2)=h*340282366920938463463374607431768211456+m*18446744073709551616:=(by have a:x*(hi*18446744073709551616-lo)+x*lo=x*hi*18446744073709551616:=(by rw[<-Nat.mul_add,Nat.sub_add_cancel hle,Nat.mul_assoc]);omega);have t1:x*A<=x*(hi*18446744073709551616-lo)*B:=(by rw[Nat.mul_assoc];exact Nat.mul_le_mul_left x hA);have t2:x*(hi*18446744073709551616-lo)*B<x*A+x*B:=(by rw[Nat.mul_assoc,<-Nat.mul_add];exact Nat.mul_lt_mul_of_pos_left hA2 hx1);generalize hTT:x*(hi*18446744073709551616-lo)=T at*
 generalize hX:x*A=X at*
 have key:∀c:Nat,T<=c->X<=c*B:=fun c hc=>Nat.le_trans t1 (Nat.mul_le_mul_right B hc);have key2:∀c:Nat,c+x<=T->c*B<X:=fun c hc=>(by have:=Nat.mul_le_mul_right B hc;rw[Nat.add_mul]at this;omega);have hP:2^(128+s)=2^s*340282366920938463463374607431768211456:=(by rw[Nat.pow_add,Nat.mul_comm]);have hS:=Nat.two_pow_pos s;rw[hP]at gap⊢
 have e3:=Nat.div_add_mod h (2^s);have l3:=Nat.mod_lt h hS
 have floor:∀q,q*(2^s*340282366920938463463374607431768211456)*B<X->X<(q+1)*(2^s*340282366920938463463374607431768211456)*B->
   unr X (B*(2^s*340282366920938463463374607431768211456))=stk q true:=by
  intro q h1 h2;have d0:B*(2^s*340282366920938463463374607431768211456)=2^s*340282366920938463463374607431768211456*B:=Nat.mul_comm _ _;have hpos:0<2^s*340282366920938463463374607431768211456*B:=Nat.mul_pos (Nat.mul_pos hS (by omega)) hB;unfold unr;rw[d0];rw[Nat.mul_assoc]at h1 h2;generalize 2^s*340282366920938463463374607431768211456*B=D at*
  have hq:X/D=q:=Nat.div_eq_of_lt_le (Nat.le_of_lt h1) h2;have hr:=Nat.div_add_mod X D;rw[hq]at hr;have:X%D≠0:=(by intro h0;rw[h0,Nat.mul_comm]at hr;omega);rw[hq,decide_eq_true this]
 by_cases hr:h%2^s≠0
 ·simp only[if_pos hr]
  generalize hq:h/2^s=q at*
  generalize hrr:h%2^s=r at*
  refine(floor q ?_ ?_).symm
  ·have a1:q*(2^s*340282366920938463463374607431768211456)<=(h-1)*340282366920938463463374607431768211456:=by
    rw[<-Nat.mul_assoc,Nat.mul_comm q];exact Nat.mul_le_mul_right _ (by omega)
   refine Nat.lt_of_le_of_lt (Nat.mul_le_mul_right B a1) (key2 _ ?_);have:1<=h:=(by omega);omega
  ·have a1:(h+1)*340282366920938463463374607431768211456<=(q+1)*(2^s*340282366920938463463374607431768211456):=by
    rw[<-Nat.mul_assoc];refine Nat.mul_le_mul_right _ ?_;rw[Nat.add_mul,Nat.one_mul,Nat.mul_comm q];omega
   refine Nat.lt_of_lt_of_le ?_ (Nat.mul_le_mul_right B a1);refine Nat.lt_of_le_of_lt (key ((h+1)*340282366920938463463374607431768211456-1) (by omega)) (Nat.mul_lt_mul_of_pos_right (by omega) hB)
 ·simp only[if_neg hr]
  have hr0:h%2^s=0:=(by omega);rw[hr0]at e3;generalize hq:h/2^s=q at*
  have hh2:h=q*2^s:=(by rw[Nat.mul_comm];omega);have hn:q*(B*(2^s*340282366920938463463374607431768211456))=h*340282366920938463463374607431768211456*B:=(by rw[hh2,Nat.mul_comm B,<-Nat.mul_assoc,<-Nat.mul_assoc]);have hn2:∀q,q*(2^s*340282366920938463463374607431768211456)=q*2^s*340282366920938463463374607431768211456:=fun q=>(by rw[Nat.mul_assoc]);by_cases hm:m<m2
  ·simp only[if_pos hm]
   have hq1:1<=q:=(by refine Nat.succ_le_of_lt (Nat.pos_of_ne_zero fun h0=>?_);rw[h0,Nat.zero_mul]at hh2;omega);have hqs:(q-1)*2^s+2^s=q*2^s:=(by have:=Nat.add_mul (q-1) 1 (2^s);rw[Nat.sub_add_cancel hq1,Nat.one_mul]at this;exact this.symm);have hhm:(h+18446744073709551615)%18446744073709551616=h-1:=(by omega);have hd1:(h-1)/2^s=q-1:=Nat.div_eq_of_lt_le (by omega) (by rw[Nat.sub_add_cancel hq1];omega);have hr1:1<(m+18446744073709551616-m2)%18446744073709551616:=(by have:m2<=18446744073709551614:=(by omega);omega);rw[hhm,hd1,decide_eq_true hr1];refine(floor (q-1) ?_ ?_).symm
   ·have a1:(q-1)*(2^s*340282366920938463463374607431768211456)<=(h-1)*340282366920938463463374607431768211456:=by
     rw[hn2];exact Nat.mul_le_mul_right _ (by omega)
    refine Nat.lt_of_le_of_lt (Nat.mul_le_mul_right B a1) (key2 _ ?_);omega
   ·rw[Nat.sub_add_cancel hq1,hn2,<-hh2];refine Nat.lt_of_le_of_lt (key (h*340282366920938463463374607431768211456-1) (by omega)) (Nat.mul_lt_mul_of_pos_right (by omega) hB)
  ·simp only[if_neg hm]
   rw[hq];by_cases hr1:1<(m+18446744073709551616-m2)%18446744073709551616
   ·rw[decide_eq_true hr1]
    refine(floor q ?_ ?_).symm
    ·rw[hn2,<-hh2];refine key2 _ ?_;omega
    ·have a1:(h+1)*340282366920938463463374607431768211456<=(q+1)*(2^s*340282366920938463463374607431768211456):=by
      rw[hn2];refine Nat.mul_le_mul_right _ ?_;rw[Nat.add_mul,Nat.one_mul];omega
     refine Nat.lt_of_lt_of_le ?_ (Nat.mul_le_mul_right B a1);refine Nat.lt_of_le_of_lt (key ((h+1)*340282366920938463463374607431768211456-1) (by omega)) (Nat.mul_lt_mul_of_pos_right (by omega) hB)
   ·rw[decide_eq_false hr1]
    have g:=gap q;rw[hn]at g;have hXe:X=h*340282366920938463463374607431768211456*B:=by
     rcases g with g|g|g
     ·exact g
     ·exfalso;have:=key2 (h*340282366920938463463374607431768211456-36893488147419103232) (by omega);rw[Nat.sub_mul]at this;have e:B*36893488147419103232=36893488147419103232*B:=Nat.mul_comm _ _;omega
     ·exfalso;have:=key (h*340282366920938463463374607431768211456+18446744073709551616) (by omega);rw[Nat.add_mul]at this;omega
    have hD:0<B*(2^s*340282366920938463463374607431768211456):=Nat.mul_pos hB (Nat.mul_pos hS (by omega));unfold unr;rw[<-hn]at hXe;rw[hXe,Nat.mul_div_cancel _ hD,Nat.mul_mod_left];rfl
def zz(e:Int):Nat:=if-1085<=e then 11 else(-1074-e).toNat
def qw(m:Nat)(e:Int):Bool:=decide (m=9223372036854775808)&&decide (-1085<e)
def pp(m:Nat)(e:Int):Int:=if qw m e then-skw (e+11)else-lg2 (e+zz e)
def mnv(m:Nat)(e:Int):Nat:=if qw m e then m-2^9 else m-2^(zz e-1)
def mxv(m:Nat)(e:Int):Nat:=m+2^(zz e-1)
def odd(m:Nat)(e:Int):Nat:=m/2^zz e%2
def sft(m:Nat)(e:Int):Nat:=(-(e+lgp (pp m e)+3)).toNat
def uu(m:Nat)(e:Int)(x:Nat):Nat:=usc x (sft m e) (yK (pp m e)) (qO (pp m e))
def dmn(m:Nat)(e:Int):Nat:=(uu m e (mnv m e)+odd m e+3)/4
def dmx(m:Nat)(e:Int):Nat:=(uu m e (mxv m e)-odd m e)/4
def rnd(u:Nat):Nat:=(u+1+u/4%2)/4
def shD(m:Nat)(e:Int):Nat:=if dmn m e<=dmx m e/10*10 then dmx m e/10 else if dmn m e<dmx m e then rnd (uu m e m)else dmn m e
def shP(m:Nat)(e:Int):Int:=if dmn m e<=dmx m e/10*10 then 1-pp m e else-pp m e
def z56(m:Nat)(e:Int):Nat×Int:=(shD m e,shP m e)
end Go.Proofs.YtkkecpamnnojoaaGreatDoor.Us
namespace Go.Proofs.YtkkecpamnnojoaaGreatDoor
open Go.ChangeShapes Go.WideShapes Go.ChangeAt Go.RowKit
@[go_sem] theorem run_store_float (P:Program) (w:World) (a:Addr) (m:Mode) (k:FloatKind) (b:Nat):(store a (.float k b) m).run P w=stored P w a (.float k b) m:=run_store P w a _ m rfl
theorem z1W(x:Nat)(w:World):(callFunc 56 #[.float .f64 x]).run Tryz.prog w=.ok (.value (.int .u64 x)) w:=by kernel_rfl
theorem z1V(x:Int)(w:World):(callFunc 58 #[.int .u64 x]).run Tryz.prog w=.ok (.value (.float .f64 x.toNat)) w:=by kernel_rfl
structure Keep (bs:Nat->Prop) (w w':World):Prop where
 os:w'.os=w.os
 tape:w'.tape=w.tape
 output:w'.output=w.output
 size:w.heap.size<=w'.heap.size
 block:∀k,k<w.heap.size->¬bs k->w'.heap[k]?=w.heap[k]?
theorem Keep.refl(bs:Nat->Prop)(w:World):Keep bs w w:=⟨rfl,rfl,rfl,Nat.le_refl _,fun _ _ _=>rfl⟩
theorem Keep.trans{bs:Nat->Prop}{a b c:World}(h:Keep bs a b)(k:Keep bs b c):Keep bs a c:=
 ⟨k.os.trans h.os,k.tape.trans h.tape,k.output.trans h.output,Nat.le_trans h.size k.size,fun i hi hn=>(k.block i (Nat.lt_of_lt_of_le hi h.size) hn).trans (h.block i hi hn)⟩
theorem Keep.mono{bs cs:Nat->Prop}{w w':World}(h:Keep bs w w')(hs:∀k,k<w.heap.size->bs k->cs k):Keep cs w w':=
 ⟨h.os,h.tape,h.output,h.size,fun k hk hn=>h.block k hk fun hb=>hn (hs k hk hb)⟩
theorem Keep.drewN{bs:Nat->Prop}{a w:World}(h:Keep bs a w)(n:Nat):Keep bs a (w.drewN n):=h.trans ⟨rfl,rfl,rfl,Nat.le_refl _,fun _ _ _=>rfl⟩
theorem Keep.drew{bs:Nat->Prop}{a w:World}(h:Keep bs a w):Keep bs a w.drew:=h.trans ⟨rfl,rfl,rfl,Nat.le_refl _,fun _ _ _=>rfl⟩
theorem Keep.alloc{bs:Nat->Prop}{a w:World}(h:Keep bs a w)(o:Obj):Keep bs a (w.alloc o):=
 h.trans ⟨rfl,rfl,rfl,by simp,fun k hk _=>Below.heap_alloc _ _ _ hk⟩
theorem Keep.setCell{bs:Nat->Prop}{a w:World}(h:Keep bs a w){p:Addr}(hp:bs p.block\/a.heap.size<=p.block)(u:Value):Keep bs a (w.setCell p u):=
 ⟨h.os,h.tape,h.output,by have:=h.size;simpa[World.setCell]using this,fun k hk hn=>(Below.heap_setCell _ _ _ _ (by rcases hp with hp|hp;(intro e;subst e;exact hn hp);omega)).trans (h.block k hk hn)⟩
theorem Keep.none{w w':World}(h:Keep (fun _=>False) w w'):Below w.heap.size w w':=⟨h.os,h.tape,h.output,h.size,fun k hk=>h.block k hk id⟩
theorem Keep.below{bs:Nat->Prop}{B:Nat}{w w':World}(h:Keep bs w w')(hB:B<=w.heap.size)(hs:∀k,bs k->B<=k):Below B w w':=
 ⟨h.os,h.tape,h.output,h.size,fun k hk=>h.block k (by omega) fun hb=>by have:=hs k hb;omega⟩
theorem Keep.of_below{w w':World}(h:Below w.heap.size w w'):Keep (fun _=>False) w w':=⟨h.os,h.tape,h.output,h.size,fun k hk _=>h.block k hk⟩
theorem Keep.same{bs:Nat->Prop}{w w':World}(h:Keep bs w w'){b:Nat}{o:Obj}(hb:w.heap[b]?=some o)(hn:¬bs b):w'.heap[b]?=some o:=
 (h.block b (lt_of_block hb) hn).trans hb
theorem Keep.cell{bs:Nat->Prop}{w w':World}(h:Keep bs w w'){p:Addr}(hp:p.block<w.heap.size)(hn:¬bs p.block):w'.cell? p=w.cell? p:=World.cell?_of_block (w:=w) (h.block p.block hp hn)
theorem Keep.frozen{bs:Nat->Prop}{w w':World}(h:Keep bs w w'){p:Addr}(hp:p.block<w.heap.size)(hn:¬bs p.block):w'.frozen? p=w.frozen? p:=World.frozen?_of_block (w:=w) (h.block p.block hp hn)
theorem za{w:World}{b:Nat}{c:Array Value}{t:TypeId}(h:w.heap[b]?=some (.cells c t (0,0)))(i:Nat):w.cell? ⟨b,i,none⟩=c[i]?:=by simp[World.cell?,h]
theorem zd{w:World}{b:Nat}{c:Array Value}{t:TypeId}(h:w.heap[b]?=some (.cells c t (0,0)))(i:Nat):w.frozen? ⟨b,i,none⟩=false:=by simp[World.frozen?,h]
theorem zg{w:World}{b:Nat}{c:Array Value}{t:TypeId}(h:w.heap[b]?=some (.cells c t (0,0)))(i:Nat)(u:Value):(w.setCell ⟨b,i,none⟩ u).heap[b]?=some (.cells (c.setIfInBounds i u) t (0,0)):=by have hlt:=lt_of_block h;have h':w.heap[b]=.cells c t (0,0):=(by simpa[Array.getElem?_eq_getElem hlt]using h);show(w.heap.modify b _)[b]?=_;rw[Array.getElem?_eq_getElem (by simpa using hlt),Array.getElem_modify_self,h'];rfl
theorem zm(w:World)(o:Obj):(w.alloc o).heap[w.heap.size]?=some o:=by show(w.heap.push o)[w.heap.size]?=_;simp
theorem zr{w:World}{b:Nat}{x:Obj}(h:w.heap[b]?=some x)(o:Obj):(w.alloc o).heap[b]?=some x:=by rw[Below.heap_alloc _ _ _ (lt_of_block h)];exact h
theorem zP(w:World)(o:Obj){n:Nat}(h:w.heap.size=n):(w.alloc o).heap[n]?=some o:=by subst h;exact zm w o
theorem Keep.own{bs cs:Nat->Prop}{a b c:World}(h:Keep cs a b)(k:Keep bs b c)(hb:∀i,bs i->cs i\/a.heap.size<=i):Keep cs a c:=
 ⟨k.os.trans h.os,k.tape.trans h.tape,k.output.trans h.output,Nat.le_trans h.size k.size,fun i hi hn=>(k.block i (Nat.lt_of_lt_of_le hi h.size) (fun hx=>by rcases hb i hx with h1|h1;(exact hn h1);omega)).trans (h.block i hi hn)⟩
theorem qL{P:Program}(w:World){ops:Array Oper}{rest:List Oper}{o:Oper}{a:Act}{Q:Exit->Act->World->Prop}(hgd:o.guard=none)(s x:Operand)(t:TypeId)
  (ho:o.op=.call {callee:=.builtin .append,args:=#[s,x],argTypes:=#[t,t]})
  (base:Nat)(e:TypeId)(i:TypeInfo)(z:Value)(bytes:Nat)(ht:P.underlying t=some (.slice e))(hi:P.info? e=some i)(hz:i.zero=some z)
  (hsize:i.size=1)(hby:i.bytes=bytes)(hzs:z.cells.size=1)
  (v:Value)(n:Nat)(xs:List Value)(hs:a.eval s=v)(hown:w.ownsRow base e 1 v n xs)
  (ad:Addr)(c:Nat)(u:Value)(hx:a.eval x=.slice (some ad) 1 c)(hu:w.cell? ad=some u)(h1:u.oneCell'=true)
  (h63:n+1<=maxLen)(hbytes:(n+1)*bytes<=140737488355328)(hbase:base<=w.heap.size)
  (h:∀g cap w',w'.ownsRow base e 1 (.slice (some ⟨g,0,none⟩) (n+1) cap) (n+1) (xs++[u])->w.grownBy w' v.ownBlock->(v.ownBlock=some g\/g=w.heap.size)->base<=g->wpList P ops Q rest (a.put o.dst (.slice (some ⟨g,0,none⟩) (n+1) cap)) w'):
  wpList P ops Q (o::rest) a w:=by
 refine wpList_append_own_at (P:=P) w hgd s x t ho base e i z 1 bytes ht hi hz hsize hby hzs (by omega) v n xs hs hown ad 1 c [u] hx rfl ?_ ?_ h63 hbytes hbase ?_
 ·intro j u' hj
  cases j with
  |zero=>simp at hj;subst hj;exact hu
  |succ j=>simp at hj
 ·intro u' hu';simp at hu';subst hu';exact h1
 ·intro v' w' h2 h3 _ h5
  rcases h2.2 with⟨-,hz0⟩|⟨g,cap,cells,hv,hg,-⟩
  ·omega
  ·subst hv
   refine h g cap w' h2 h3 ?_ hg;rcases h5 with h5|h5
   ·exact Or.inl (by rw[<-h5];rfl)
   ·exact Or.inr (by simpa[Value.ownBlock]using h5)
theorem Keep.grown{bs:Nat->Prop}{a w w':World}{row:Option Nat}(h:Keep bs a w)(hg:w.grownBy w' row)(hr:∀k,row=some k->bs k\/a.heap.size<=k):Keep bs a w':=
 ⟨hg.os.trans h.os,hg.tape.trans h.tape,hg.output.trans h.output,Nat.le_trans h.size hg.size,fun k hk hn=>(hg.block k (by have:=h.size;omega) (fun e=>by rcases hr k e.symm with h1|h1;(exact hn h1);omega)).trans (h.block k hk hn)⟩
end Go.Proofs.YtkkecpamnnojoaaGreatDoor
namespace Go.Proofs.YtkkecpamnnojoaaGreatDoor.Bt
end Go.Proofs.YtkkecpamnnojoaaGreatDoor.Bt
namespace Go.Proofs.YtkkecpamnnojoaaGreatDoor
open Go.ChangeShapes Go.WideShapes Go.ChangeAt Go.RowKit
open Bt
def u8s(B:List Nat):List Value:=B.map fun n:Nat=>Value.int .u8 (n:Int)
theorem z0f(B:List Nat):(u8s B).length=B.length:=by simp[u8s]
theorem z19(A B:List Nat):u8s (A++B)=u8s A++u8s B:=by simp[u8s]
theorem z4Z(B:List Nat)(i:Nat)(h:i<B.length):(u8s B)[i]?=some (.int .u8 (B.getD i 0:Nat)):=by simp[u8s,List.getD_eq_getElem?_getD,h]
theorem zdw:(Tryz.prog.info? 5).map (fun i=>(i.zero,i.size,i.bytes))=some (some (.int .u8 0),1,1):=by kernel_rfl
theorem zG{w:World}{a:Addr}{v:Value}(h:w.cell? a=some v):a.block<w.heap.size:=by refine Nat.lt_of_not_le fun hh=>?_;unfold World.cell? at h;rw[Array.getElem?_eq_none hh]at h;simp at h
theorem qM(us:List Nat)(i:Nat)(h:i<us.length):us.take (i+1)=us.take i++[us.getD i 0]:=by rw[List.take_succ_eq_append_getElem h,List.getD_eq_getElem?_getD,List.getElem?_eq_getElem h];rfl
end Go.Proofs.YtkkecpamnnojoaaGreatDoor
namespace Go.Proofs
open Go.Shelf
def Tryz.lays137_ren:Go.Shelf.Ren:=⟨fun|137=>115|217=>110|266=>138|n=>n,fun|9=>9|5=>5|3=>3|n=>n,fun|n=>n⟩
theorem Tryz.lays137:Go.Proofs.Lays.n137 Tryz.prog Tryz.lays137_ren:={
 mixed:=by kernel_rfl
 f137:=Tryz.func115.trans (congrArg some (by kernel_rfl))
 f217:=Tryz.func110.trans (congrArg some (by kernel_rfl))
 f266:=Tryz.func138.trans (congrArg some (by kernel_rfl))
 t3:=Tryz.underlying3
 a3:=Tryz.isAgg3
 z3:=Tryz.sizeOf3
 v3:=Tryz.zeroValue3
 t5:=Tryz.underlying5
 a5:=Tryz.isAgg5
 z5:=Tryz.sizeOf5
 v5:=Tryz.zeroValue5
 t9:=Tryz.underlying9
 a9:=Tryz.isAgg9
 z9:=Tryz.sizeOf9
 v9:=Tryz.zeroValue9}
open Go.RowKit in
theorem Tryz.strings_IndexByte(s:ByteArray)(c:Int)(w:World):
  Calls Tryz.prog 115 #[.string s,.int .u8 c] w fun e w'=>e=.returned (.int .i64 (Lib.indexByte s.data.toList c.toNat.toUInt8))/\w'=w:=Any.strings_IndexByte Tryz.lays137 s c w
def Tryz.lays129_ren:Go.Shelf.Ren:=⟨fun|129=>128|n=>n,fun|53=>109|3=>3|4=>4|46=>152|5=>5|9=>9|n=>n,fun|n=>n⟩
theorem Tryz.lays129:Go.Proofs.Lays.n129 Tryz.prog Tryz.lays129_ren:={
 mixed:=by kernel_rfl
 f129:=Tryz.func128.trans (congrArg some (by kernel_rfl))
 t3:=Tryz.underlying3
 a3:=Tryz.isAgg3
 z3:=Tryz.sizeOf3
 v3:=Tryz.zeroValue3
 t4:=Tryz.underlying4
 a4:=Tryz.isAgg4
 z4:=Tryz.sizeOf4
 v4:=Tryz.zeroValue4
 t5:=Tryz.underlying5
 a5:=Tryz.isAgg5
 z5:=Tryz.sizeOf5
 v5:=Tryz.zeroValue5
 t9:=Tryz.underlying9
 a9:=Tryz.isAgg9
 z9:=Tryz.sizeOf9
 v9:=Tryz.zeroValue9
 t46:=Tryz.underlying152
 a46:=Tryz.isAgg152
 z46:=Tryz.sizeOf152
 v46:=Tryz.zeroValue152
 t53:=Tryz.underlying109
 a53:=Tryz.isAgg109
 z53:=Tryz.sizeOf109
 v53:=Tryz.zeroValue109}
theorem Tryz.bits_Len64(x:Int)(w:World)(h0:0<=x)(h1:x<=18446744073709551615):
  Calls Tryz.prog 128 #[.int .u64 x] w fun e w'=>e=.returned (.int .i64 (Lib.bitLen x.toNat))/\w'=w:=Any.bits_Len64 Tryz.lays129 x w h0 h1
def Tryz.laysM284_ren:Go.Shelf.Ren:=⟨fun|284=>120|129=>128|317=>131|318=>146|n=>n,fun|53=>109|3=>3|212=>193|0=>0|4=>4|46=>152|5=>5|9=>9|n=>n,fun|17=>3|n=>n⟩
theorem Tryz.laysM284:Go.Proofs.LaysM.n284 Tryz.prog Tryz.laysM284_ren:={
 mixed:=by kernel_rfl
 f129:=Tryz.func128.trans (congrArg some (by kernel_rfl))
 f284:=Tryz.func120.trans (congrArg some (by kernel_rfl))
 f317:=Tryz.func131.trans (congrArg some (by kernel_rfl))
 f318:=Tryz.func146.trans (congrArg some (by kernel_rfl))
 t0:=Tryz.underlying0
 a0:=Tryz.isAgg0
 z0:=Tryz.sizeOf0
 v0:=Tryz.zeroValue0
 t3:=Tryz.underlying3
 a3:=Tryz.isAgg3
 z3:=Tryz.sizeOf3
 v3:=Tryz.zeroValue3
 t4:=Tryz.underlying4
 a4:=Tryz.isAgg4
 z4:=Tryz.sizeOf4
 v4:=Tryz.zeroValue4
 t5:=Tryz.underlying5
 a5:=Tryz.isAgg5
 z5:=Tryz.sizeOf5
 v5:=Tryz.zeroValue5
 t9:=Tryz.underlying9
 a9:=Tryz.isAgg9
 z9:=Tryz.sizeOf9
 v9:=Tryz.zeroValue9
 t46:=Tryz.underlying152
 a46:=Tryz.isAgg152
 z46:=Tryz.sizeOf152
 v46:=Tryz.zeroValue152
 t53:=Tryz.underlying109
 a53:=Tryz.isAgg109
 z53:=Tryz.sizeOf109
 v53:=Tryz.zeroValue109
 t212:=Tryz.underlying193
 a212:=Tryz.isAgg193
 z212:=Tryz.sizeOf193
 v212:=Tryz.zeroValue193
 g17:=by kernel_rfl
 i0:=by kernel_rfl
 i3:=by kernel_rfl
 i4:=by kernel_rfl
 i5:=by kernel_rfl
 i9:=by kernel_rfl
 i46:=by kernel_rfl
 i53:=by kernel_rfl
 i212:=by kernel_rfl
 m17:=by kernel_rfl}
open Go.Lib in
theorem Tryz.internal_strconv_numDigits(u:Nat)(h1:1<=u)(h2:u<18446744073709551616)(w:World)(htab:Lib.TabIs Tryz.prog w "internal/strconv.uint64pow10" .u64 Lib.pow10Tab):
  Calls Tryz.prog 120 #[.int .u64 u] w fun e w'=>e=.returned (.int .i64 (Lib.nDigits u))/\w'=w:=Any.internal_strconv_numDigits Tryz.laysM284 u h1 h2 w htab
def Tryz.lays285_ren:Go.Shelf.Ren:=⟨fun|285=>121|n=>n,fun|37=>53|53=>109|3=>3|4=>4|51=>165|9=>9|5=>5|0=>0|n=>n,fun|n=>n⟩
theorem Tryz.lays285:Go.Proofs.Lays.n285 Tryz.prog Tryz.lays285_ren:={
 mixed:=by kernel_rfl
 f285:=Tryz.func121.trans (congrArg some (by kernel_rfl))
 t0:=Tryz.underlying0
 a0:=Tryz.isAgg0
 z0:=Tryz.sizeOf0
 v0:=Tryz.zeroValue0
 t3:=Tryz.underlying3
 a3:=Tryz.isAgg3
 z3:=Tryz.sizeOf3
 v3:=Tryz.zeroValue3
 t4:=Tryz.underlying4
 a4:=Tryz.isAgg4
 z4:=Tryz.sizeOf4
 v4:=Tryz.zeroValue4
 t5:=Tryz.underlying5
 a5:=Tryz.isAgg5
 z5:=Tryz.sizeOf5
 v5:=Tryz.zeroValue5
 t9:=Tryz.underlying9
 a9:=Tryz.isAgg9
 z9:=Tryz.sizeOf9
 v9:=Tryz.zeroValue9
 t37:=Tryz.underlying53
 a37:=Tryz.isAgg53
 z37:=Tryz.sizeOf53
 v37:=Tryz.zeroValue53
 t51:=Tryz.underlying165
 a51:=Tryz.isAgg165
 z51:=Tryz.sizeOf165
 v51:=Tryz.zeroValue165
 t53:=Tryz.underlying109
 a53:=Tryz.isAgg109
 z53:=Tryz.sizeOf109
 v53:=Tryz.zeroValue109}
open Go.RowKit Go.Sort Go.Lib in
theorem Tryz.internal_strconv_formatBase10(blk off cap:Nat)(u:Nat)(d:Array UInt8)(w:World)(hH:Holds (fun(b:UInt8)=>Value.int .u8 (b.toNat:Int)) w blk off d)(hu:u<10^d.size)(hu64:u<18446744073709551616)(hsz:d.size<4611686018427387904):
  Calls Tryz.prog 121 #[.slice (some ⟨blk,off,none⟩) d.size cap,.int .u64 u] w fun e w'=>
   e=.returned (.tuple #[])/\∃(n v':Nat) (dk:Array UInt8),w'=(putRow (fun(b:UInt8)=>Value.int .u8 (b.toNat:Int)) w blk off dk).drewN n/\FmtInv d.size u 0 v' dk:=Any.internal_strconv_formatBase10 Tryz.lays285 blk off cap u d w hH hu hu64 hsz
def Tryz.laysM173_ren:Go.Shelf.Ren:=⟨fun|173=>91|246=>106|283=>119|284=>120|285=>121|286=>122|129=>128|317=>131|318=>146|319=>147|320=>148|337=>174|338=>175|n=>n,fun|2=>2|3=>3|9=>9|4=>4|171=>160|0=>0|53=>109|37=>53|5=>5|173=>163|212=>193|51=>165|20=>20|213=>194|46=>152|232=>170|233=>254|n=>n,fun|17=>3|18=>10|19=>11|n=>n⟩
theorem Tryz.laysM173:Go.Proofs.LaysM.n173 Tryz.prog Tryz.laysM173_ren:={
 mixed:=by kernel_rfl
 f129:=Tryz.func128.trans (congrArg some (by kernel_rfl))
 f173:=Tryz.func91.trans (congrArg some (by kernel_rfl))
 f246:=Tryz.func106.trans (congrArg some (by kernel_rfl))
 f283:=Tryz.func119.trans (congrArg some (by kernel_rfl))
 f284:=Tryz.func120.trans (congrArg some (by kernel_rfl))
 f285:=Tryz.func121.trans (congrArg some (by kernel_rfl))
 f286:=Tryz.func122.trans (congrArg some (by kernel_rfl))
 f317:=Tryz.func131.trans (congrArg some (by kernel_rfl))
 f318:=Tryz.func146.trans (congrArg some (by kernel_rfl))
 f319:=Tryz.func147.trans (congrArg some (by kernel_rfl))
 f320:=Tryz.func148.trans (congrArg some (by kernel_rfl))
 f337:=Tryz.func174.trans (congrArg some (by kernel_rfl))
 f338:=Tryz.func175.trans (congrArg some (by kernel_rfl))
 t0:=Tryz.underlying0
 a0:=Tryz.isAgg0
 z0:=Tryz.sizeOf0
 v0:=Tryz.zeroValue0
 t2:=Tryz.underlying2
 a2:=Tryz.isAgg2
 z2:=Tryz.sizeOf2
 v2:=Tryz.zeroValue2
 t3:=Tryz.underlying3
 a3:=Tryz.isAgg3
 z3:=Tryz.sizeOf3
 v3:=Tryz.zeroValue3
 t4:=Tryz.underlying4
 a4:=Tryz.isAgg4
 z4:=Tryz.sizeOf4
 v4:=Tryz.zeroValue4
 t5:=Tryz.underlying5
 a5:=Tryz.isAgg5
 z5:=Tryz.sizeOf5
 v5:=Tryz.zeroValue5
 t9:=Tryz.underlying9
 a9:=Tryz.isAgg9
 z9:=Tryz.sizeOf9
 v9:=Tryz.zeroValue9
 t20:=Tryz.underlying20
 a20:=Tryz.isAgg20
 z20:=Tryz.sizeOf20
 v20:=Tryz.zeroValue20
 t37:=Tryz.underlying53
 a37:=Tryz.isAgg53
 z37:=Tryz.sizeOf53
 v37:=Tryz.zeroValue53
 t46:=Tryz.underlying152
 a46:=Tryz.isAgg152
 z46:=Tryz.sizeOf152
 v46:=Tryz.zeroValue152
 t51:=Tryz.underlying165
 a51:=Tryz.isAgg165
 z51:=Tryz.sizeOf165
 v51:=Tryz.zeroValue165
 t53:=Tryz.underlying109
 a53:=Tryz.isAgg109
 z53:=Tryz.sizeOf109
 v53:=Tryz.zeroValue109
 t171:=Tryz.underlying160
 a171:=Tryz.isAgg160
 z171:=Tryz.sizeOf160
 v171:=Tryz.zeroValue160
 t173:=Tryz.underlying163
 a173:=Tryz.isAgg163
 z173:=Tryz.sizeOf163
 v173:=Tryz.zeroValue163
 t212:=Tryz.underlying193
 a212:=Tryz.isAgg193
 z212:=Tryz.sizeOf193
 v212:=Tryz.zeroValue193
 t213:=Tryz.underlying194
 a213:=Tryz.isAgg194
 z213:=Tryz.sizeOf194
 t232:=Tryz.underlying170
 a232:=Tryz.isAgg170
 z232:=Tryz.sizeOf170
 v232:=Tryz.zeroValue170
 t233:=Tryz.underlying254
 a233:=Tryz.isAgg254
 z233:=Tryz.sizeOf254
 v233:=Tryz.zeroValue254
 g17:=by kernel_rfl
 g18:=by kernel_rfl
 g19:=by kernel_rfl
 i0:=by kernel_rfl
 i2:=by kernel_rfl
 i3:=by kernel_rfl
 i4:=by kernel_rfl
 i5:=by kernel_rfl
 i9:=by kernel_rfl
 i20:=by kernel_rfl
 i37:=by kernel_rfl
 i46:=by kernel_rfl
 i51:=by kernel_rfl
 i53:=by kernel_rfl
 i171:=by kernel_rfl
 i173:=by kernel_rfl
 i212:=by kernel_rfl
 i232:=by kernel_rfl
 i233:=by kernel_rfl
 m17:=by kernel_rfl
 m18:=by kernel_rfl
 m19:=by kernel_rfl}
open Go.RowKit Go.Sort Go.Lib in
theorem Tryz.strconv_FormatInt_10(n:Int)(h0:-9223372036854775808<=n)(h1:n<=9223372036854775807)(w:World)(htab:Lib.TabIs Tryz.prog w "internal/strconv.uint64pow10" .u64 Lib.pow10Tab):
  Calls Tryz.prog 91 #[.int .i64 n,.int .i64 10] w fun e w'=>e=.returned (.string ⟨(Lib.itoa n).toArray⟩)/\∃k os,w'=grow (w.drewN k) os:=Any.strconv_FormatInt_10 Tryz.laysM173 n h0 h1 w htab
def Tryz.laysC245_ren:Go.Shelf.Ren:=⟨fun|245=>117|279=>141|280=>142|281=>143|282=>144|316=>169|171=>171|205=>170|243=>180|246=>106|283=>119|284=>120|285=>121|286=>122|129=>128|317=>131|318=>146|319=>147|320=>148|337=>174|338=>175|n=>n,fun|9=>9|3=>3|75=>145|167=>184|4=>4|168=>187|210=>214|37=>53|0=>0|127=>231|145=>234|143=>232|2=>2|171=>160|53=>109|5=>5|173=>163|212=>193|51=>165|20=>20|213=>194|46=>152|232=>170|233=>254|80=>259|n=>n,fun|15=>4|16=>5|17=>3|18=>10|19=>11|n=>n⟩
theorem Tryz.laysC245:Go.Proofs.LaysC.n245 Tryz.prog Tryz.laysC245_ren:={
 mixed:=by kernel_rfl
 f129:=Tryz.func128.trans (congrArg some (by kernel_rfl))
 f171:=Tryz.func171.trans (congrArg some (by kernel_rfl))
 f205:=Tryz.func170.trans (congrArg some (by kernel_rfl))
 f243:=Tryz.func180.trans (congrArg some (by kernel_rfl))
 f245:=Tryz.func117.trans (congrArg some (by kernel_rfl))
 f246:=Tryz.func106.trans (congrArg some (by kernel_rfl))
 f279:=Tryz.func141.trans (congrArg some (by kernel_rfl))
 f280:=Tryz.func142.trans (congrArg some (by kernel_rfl))
 f281:=Tryz.func143.trans (congrArg some (by kernel_rfl))
 f282:=Tryz.func144.trans (congrArg some (by kernel_rfl))
 f283:=Tryz.func119.trans (congrArg some (by kernel_rfl))
 f284:=Tryz.func120.trans (congrArg some (by kernel_rfl))
 f285:=Tryz.func121.trans (congrArg some (by kernel_rfl))
 f286:=Tryz.func122.trans (congrArg some (by kernel_rfl))
 f316:=Tryz.func169.trans (congrArg some (by kernel_rfl))
 f317:=Tryz.func131.trans (congrArg some (by kernel_rfl))
 f318:=Tryz.func146.trans (congrArg some (by kernel_rfl))
 f319:=Tryz.func147.trans (congrArg some (by kernel_rfl))
 f320:=Tryz.func148.trans (congrArg some (by kernel_rfl))
 f337:=Tryz.func174.trans (congrArg some (by kernel_rfl))
 f338:=Tryz.func175.trans (congrArg some (by kernel_rfl))
 t0:=Tryz.underlying0
 a0:=Tryz.isAgg0
 z0:=Tryz.sizeOf0
 v0:=Tryz.zeroValue0
 t2:=Tryz.underlying2
 a2:=Tryz.isAgg2
 z2:=Tryz.sizeOf2
 v2:=Tryz.zeroValue2
 t3:=Tryz.underlying3
 a3:=Tryz.isAgg3
 z3:=Tryz.sizeOf3
 v3:=Tryz.zeroValue3
 t4:=Tryz.underlying4
 a4:=Tryz.isAgg4
 z4:=Tryz.sizeOf4
 v4:=Tryz.zeroValue4
 t5:=Tryz.underlying5
 a5:=Tryz.isAgg5
 z5:=Tryz.sizeOf5
 v5:=Tryz.zeroValue5
 t9:=Tryz.underlying9
 a9:=Tryz.isAgg9
 z9:=Tryz.sizeOf9
 v9:=Tryz.zeroValue9
 t20:=Tryz.underlying20
 a20:=Tryz.isAgg20
 z20:=Tryz.sizeOf20
 v20:=Tryz.zeroValue20
 t37:=Tryz.underlying53
 a37:=Tryz.isAgg53
 z37:=Tryz.sizeOf53
 v37:=Tryz.zeroValue53
 t46:=Tryz.underlying152
 a46:=Tryz.isAgg152
 z46:=Tryz.sizeOf152
 v46:=Tryz.zeroValue152
 t51:=Tryz.underlying165
 a51:=Tryz.isAgg165
 z51:=Tryz.sizeOf165
 v51:=Tryz.zeroValue165
 t53:=Tryz.underlying109
 a53:=Tryz.isAgg109
 z53:=Tryz.sizeOf109
 v53:=Tryz.zeroValue109
 t75:=Tryz.underlying145
 a75:=Tryz.isAgg145
 z75:=Tryz.sizeOf145
 v75:=Tryz.zeroValue145
 t127:=Tryz.underlying231
 a127:=Tryz.isAgg231
 z127:=Tryz.sizeOf231
 v127:=Tryz.zeroValue231
 t143:=Tryz.underlying232
 a143:=Tryz.isAgg232
 z143:=Tryz.sizeOf232
 v143:=Tryz.zeroValue232
 t145:=Tryz.underlying234
 a145:=Tryz.isAgg234
 z145:=Tryz.sizeOf234
 v145:=Tryz.zeroValue234
 t167:=Tryz.underlying184
 a167:=Tryz.isAgg184
 z167:=Tryz.sizeOf184
 v167:=Tryz.zeroValue184
 t168:=Tryz.underlying187
 a168:=Tryz.isAgg187
 z168:=Tryz.sizeOf187
 v168:=Tryz.zeroValue187
 t171:=Tryz.underlying160
 a171:=Tryz.isAgg160
 z171:=Tryz.sizeOf160
 v171:=Tryz.zeroValue160
 t173:=Tryz.underlying163
 a173:=Tryz.isAgg163
 z173:=Tryz.sizeOf163
 v173:=Tryz.zeroValue163
 t210:=Tryz.underlying214
 a210:=Tryz.isAgg214
 z210:=Tryz.sizeOf214
 v210:=Tryz.zeroValue214
 t212:=Tryz.underlying193
 a212:=Tryz.isAgg193
 z212:=Tryz.sizeOf193
 v212:=Tryz.zeroValue193
 t213:=Tryz.underlying194
 a213:=Tryz.isAgg194
 z213:=Tryz.sizeOf194
 t232:=Tryz.underlying170
 a232:=Tryz.isAgg170
 z232:=Tryz.sizeOf170
 v232:=Tryz.zeroValue170
 t233:=Tryz.underlying254
 a233:=Tryz.isAgg254
 z233:=Tryz.sizeOf254
 v233:=Tryz.zeroValue254
 g15:=by kernel_rfl
 g16:=by kernel_rfl
 g17:=by kernel_rfl
 g18:=by kernel_rfl
 g19:=by kernel_rfl
 t80:=Tryz.underlying259
 a80:=Tryz.isAgg259
 z80:=Tryz.sizeOf259
 v80:=Tryz.zeroValue259
 i0:=by kernel_rfl
 i2:=by kernel_rfl
 i3:=by kernel_rfl
 i4:=by kernel_rfl
 i5:=by kernel_rfl
 i9:=by kernel_rfl
 i20:=by kernel_rfl
 i37:=by kernel_rfl
 i46:=by kernel_rfl
 i51:=by kernel_rfl
 i53:=by kernel_rfl
 i75:=by kernel_rfl
 i80:=by kernel_rfl
 i127:=by kernel_rfl
 i143:=by kernel_rfl
 i145:=by kernel_rfl
 i167:=by kernel_rfl
 i168:=by kernel_rfl
 i171:=by kernel_rfl
 i173:=by kernel_rfl
 i210:=by kernel_rfl
 i212:=by kernel_rfl
 i232:=by kernel_rfl
 i233:=by kernel_rfl
 m15:=by kernel_rfl
 m16:=by kernel_rfl
 m17:=by kernel_rfl
 m18:=by kernel_rfl
 m19:=by kernel_rfl
 c0:=by kernel_rfl
 c2:=by kernel_rfl
 c3:=by kernel_rfl
 c4:=by kernel_rfl
 c5:=by kernel_rfl
 c9:=by kernel_rfl
 c20:=by kernel_rfl
 c37:=by kernel_rfl
 c46:=by kernel_rfl
 c51:=by kernel_rfl
 c53:=by kernel_rfl
 c75:=by kernel_rfl
 c80:=by kernel_rfl
 c127:=by kernel_rfl
 c143:=by kernel_rfl
 c145:=by kernel_rfl
 c167:=by kernel_rfl
 c168:=by kernel_rfl
 c171:=by kernel_rfl
 c173:=by kernel_rfl
 c210:=by kernel_rfl
 c212:=by kernel_rfl
 c213:=by kernel_rfl
 c232:=by kernel_rfl
 c233:=by kernel_rfl}
open Go.RowKit in
theorem Tryz.strconv_toError_syntax(fn s:ByteArray)(base bits:Int)(ev:Value)(w:World)(hlim:s.size<=281474976710656)(hv:w.cell? ⟨4,0,none⟩=some ev)(hev:ev=.nilIface\/∃te pe,ev=.iface te pe):
  Calls Tryz.prog 117 #[.string fn,.string s,.int .i64 base,.int .i64 bits,.iface 184 (.int .i64 2)] w fun e w'=>∃N,e=.returned (.iface 187 (.pointer (some ⟨N,0,none⟩)))/\w.heap.size<=N/\w'.heap[N]?=some (.cells #[.string fn,.string s,ev] 214 (0,0))/\Below w.heap.size w w':=Any.strconv_toError_syntax Tryz.laysC245 fn s base bits ev w hlim hv hev
def Tryz.lays321_ren:Go.Shelf.Ren:=⟨fun|321=>151|n=>n,fun|5=>5|n=>n,fun|n=>n⟩
theorem Tryz.lays321:Go.Proofs.Lays.n321 Tryz.prog Tryz.lays321_ren:={
 mixed:=by kernel_rfl
 f321:=Tryz.func151.trans (congrArg some (by kernel_rfl))
 t5:=Tryz.underlying5
 a5:=Tryz.isAgg5
 z5:=Tryz.sizeOf5
 v5:=Tryz.zeroValue5}
open Go.RowKit in
theorem Tryz.internal_strconv_lower(c:Int)(w:World):
  Calls Tryz.prog 151 #[.int .u8 c] w fun e w'=>e=.returned (.int .u8 (bits .or .u8 c 32))/\w'=w:=Any.internal_strconv_lower Tryz.lays321 c w
open Go.RowKit in
theorem Tryz.strconv_toError_range(fn s:ByteArray)(base bits:Int)(ev:Value)(w:World)(hlim:s.size<=281474976710656)(hv:w.cell? ⟨5,0,none⟩=some ev)(hev:ev=.nilIface\/∃te pe,ev=.iface te pe):
  Calls Tryz.prog 117 #[.string fn,.string s,.int .i64 base,.int .i64 bits,.iface 184 (.int .i64 1)] w fun e w'=>∃N,e=.returned (.iface 187 (.pointer (some ⟨N,0,none⟩)))/\w.heap.size<=N/\w'.heap[N]?=some (.cells #[.string fn,.string s,ev] 214 (0,0))/\Below w.heap.size w w':=Any.strconv_toError_range Tryz.laysC245 fn s base bits ev w hlim hv hev
def Tryz.laysC174_ren:Go.Shelf.Ren:=⟨fun|174=>101|247=>116|245=>117|287=>140|279=>141|280=>142|281=>143|282=>144|321=>151|322=>168|316=>169|171=>171|205=>170|243=>180|246=>106|283=>119|284=>120|285=>121|286=>122|129=>128|317=>131|318=>146|319=>147|320=>148|337=>174|338=>175|n=>n,fun|9=>9|3=>3|2=>2|75=>145|85=>146|4=>4|167=>184|5=>5|53=>109|175=>185|46=>152|168=>187|37=>53|0=>0|210=>214|21=>21|127=>231|145=>234|143=>232|171=>160|173=>163|212=>193|51=>165|20=>20|213=>194|232=>170|233=>254|80=>259|n=>n,fun|15=>4|16=>5|17=>3|18=>10|19=>11|n=>n⟩
theorem Tryz.laysC174:Go.Proofs.LaysC.n174 Tryz.prog Tryz.laysC174_ren:={
 mixed:=by kernel_rfl
 f129:=Tryz.func128.trans (congrArg some (by kernel_rfl))
 f171:=Tryz.func171.trans (congrArg some (by kernel_rfl))
 f174:=Tryz.func101.trans (congrArg some (by kernel_rfl))
 f205:=Tryz.func170.trans (congrArg some (by kernel_rfl))
 f243:=Tryz.func180.trans (congrArg some (by kernel_rfl))
 f245:=Tryz.func117.trans (congrArg some (by kernel_rfl))
 f246:=Tryz.func106.trans (congrArg some (by kernel_rfl))
 f247:=Tryz.func116.trans (congrArg some (by kernel_rfl))
 f279:=Tryz.func141.trans (congrArg some (by kernel_rfl))
 f280:=Tryz.func142.trans (congrArg some (by kernel_rfl))
 f281:=Tryz.func143.trans (congrArg some (by kernel_rfl))
 f282:=Tryz.func144.trans (congrArg some (by kernel_rfl))
 f283:=Tryz.func119.trans (congrArg some (by kernel_rfl))
 f284:=Tryz.func120.trans (congrArg some (by kernel_rfl))
 f285:=Tryz.func121.trans (congrArg some (by kernel_rfl))
 f286:=Tryz.func122.trans (congrArg some (by kernel_rfl))
 f287:=Tryz.func140.trans (congrArg some (by kernel_rfl))
 f316:=Tryz.func169.trans (congrArg some (by kernel_rfl))
 f317:=Tryz.func131.trans (congrArg some (by kernel_rfl))
 f318:=Tryz.func146.trans (congrArg some (by kernel_rfl))
 f319:=Tryz.func147.trans (congrArg some (by kernel_rfl))
 f320:=Tryz.func148.trans (congrArg some (by kernel_rfl))
 f321:=Tryz.func151.trans (congrArg some (by kernel_rfl))
 f322:=Tryz.func168.trans (congrArg some (by kernel_rfl))
 f337:=Tryz.func174.trans (congrArg some (by kernel_rfl))
 f338:=Tryz.func175.trans (congrArg some (by kernel_rfl))
 t0:=Tryz.underlying0
 a0:=Tryz.isAgg0
 z0:=Tryz.sizeOf0
 v0:=Tryz.zeroValue0
 t2:=Tryz.underlying2
 a2:=Tryz.isAgg2
 z2:=Tryz.sizeOf2
 v2:=Tryz.zeroValue2
 t3:=Tryz.underlying3
 a3:=Tryz.isAgg3
 z3:=Tryz.sizeOf3
 v3:=Tryz.zeroValue3
 t4:=Tryz.underlying4
 a4:=Tryz.isAgg4
 z4:=Tryz.sizeOf4
 v4:=Tryz.zeroValue4
 t5:=Tryz.underlying5
 a5:=Tryz.isAgg5
 z5:=Tryz.sizeOf5
 v5:=Tryz.zeroValue5
 t9:=Tryz.underlying9
 a9:=Tryz.isAgg9
 z9:=Tryz.sizeOf9
 v9:=Tryz.zeroValue9
 t20:=Tryz.underlying20
 a20:=Tryz.isAgg20
 z20:=Tryz.sizeOf20
 v20:=Tryz.zeroValue20
 t21:=Tryz.underlying21
 a21:=Tryz.isAgg21
 z21:=Tryz.sizeOf21
 v21:=Tryz.zeroValue21
 t37:=Tryz.underlying53
 a37:=Tryz.isAgg53
 z37:=Tryz.sizeOf53
 v37:=Tryz.zeroValue53
 t46:=Tryz.underlying152
 a46:=Tryz.isAgg152
 z46:=Tryz.sizeOf152
 v46:=Tryz.zeroValue152
 t51:=Tryz.underlying165
 a51:=Tryz.isAgg165
 z51:=Tryz.sizeOf165
 v51:=Tryz.zeroValue165
 t53:=Tryz.underlying109
 a53:=Tryz.isAgg109
 z53:=Tryz.sizeOf109
 v53:=Tryz.zeroValue109
 t75:=Tryz.underlying145
 a75:=Tryz.isAgg145
 z75:=Tryz.sizeOf145
 v75:=Tryz.zeroValue145
 t85:=Tryz.underlying146
 a85:=Tryz.isAgg146
 z85:=Tryz.sizeOf146
 v85:=Tryz.zeroValue146
 t127:=Tryz.underlying231
 a127:=Tryz.isAgg231
 z127:=Tryz.sizeOf231
 v127:=Tryz.zeroValue231
 t143:=Tryz.underlying232
 a143:=Tryz.isAgg232
 z143:=Tryz.sizeOf232
 v143:=Tryz.zeroValue232
 t145:=Tryz.underlying234
 a145:=Tryz.isAgg234
 z145:=Tryz.sizeOf234
 v145:=Tryz.zeroValue234
 t167:=Tryz.underlying184
 a167:=Tryz.isAgg184
 z167:=Tryz.sizeOf184
 v167:=Tryz.zeroValue184
 t168:=Tryz.underlying187
 a168:=Tryz.isAgg187
 z168:=Tryz.sizeOf187
 v168:=Tryz.zeroValue187
 t171:=Tryz.underlying160
 a171:=Tryz.isAgg160
 z171:=Tryz.sizeOf160
 v171:=Tryz.zeroValue160
 t173:=Tryz.underlying163
 a173:=Tryz.isAgg163
 z173:=Tryz.sizeOf163
 v173:=Tryz.zeroValue163
 t175:=Tryz.underlying185
 a175:=Tryz.isAgg185
 z175:=Tryz.sizeOf185
 v175:=Tryz.zeroValue185
 t210:=Tryz.underlying214
 a210:=Tryz.isAgg214
 z210:=Tryz.sizeOf214
 v210:=Tryz.zeroValue214
 t212:=Tryz.underlying193
 a212:=Tryz.isAgg193
 z212:=Tryz.sizeOf193
 v212:=Tryz.zeroValue193
 t213:=Tryz.underlying194
 a213:=Tryz.isAgg194
 z213:=Tryz.sizeOf194
 t232:=Tryz.underlying170
 a232:=Tryz.isAgg170
 z232:=Tryz.sizeOf170
 v232:=Tryz.zeroValue170
 t233:=Tryz.underlying254
 a233:=Tryz.isAgg254
 z233:=Tryz.sizeOf254
 v233:=Tryz.zeroValue254
 g15:=by kernel_rfl
 g16:=by kernel_rfl
 g17:=by kernel_rfl
 g18:=by kernel_rfl
 g19:=by kernel_rfl
 t80:=Tryz.underlying259
 a80:=Tryz.isAgg259
 z80:=Tryz.sizeOf259
 v80:=Tryz.zeroValue259
 i0:=by kernel_rfl
 i2:=by kernel_rfl
 i3:=by kernel_rfl
 i4:=by kernel_rfl
 i5:=by kernel_rfl
 i9:=by kernel_rfl
 i20:=by kernel_rfl
 i21:=by kernel_rfl
 i37:=by kernel_rfl
 i46:=by kernel_rfl
 i51:=by kernel_rfl
 i53:=by kernel_rfl
 i75:=by kernel_rfl
 i80:=by kernel_rfl
 i85:=by kernel_rfl
 i127:=by kernel_rfl
 i143:=by kernel_rfl
 i145:=by kernel_rfl
 i167:=by kernel_rfl
 i168:=by kernel_rfl
 i171:=by kernel_rfl
 i173:=by kernel_rfl
 i175:=by kernel_rfl
 i210:=by kernel_rfl
 i212:=by kernel_rfl
 i232:=by kernel_rfl
 i233:=by kernel_rfl
 m15:=by kernel_rfl
 m16:=by kernel_rfl
 m17:=by kernel_rfl
 m18:=by kernel_rfl
 m19:=by kernel_rfl
 c0:=by kernel_rfl
 c2:=by kernel_rfl
 c3:=by kernel_rfl
 c4:=by kernel_rfl
 c5:=by kernel_rfl
 c9:=by kernel_rfl
 c20:=by kernel_rfl
 c21:=by kernel_rfl
 c37:=by kernel_rfl
 c46:=by kernel_rfl
 c51:=by kernel_rfl
 c53:=by kernel_rfl
 c75:=by kernel_rfl
 c80:=by kernel_rfl
 c85:=by kernel_rfl
 c127:=by kernel_rfl
 c143:=by kernel_rfl
 c145:=by kernel_rfl
 c167:=by kernel_rfl
 c168:=by kernel_rfl
 c171:=by kernel_rfl
 c173:=by kernel_rfl
 c175:=by kernel_rfl
 c210:=by kernel_rfl
 c212:=by kernel_rfl
 c213:=by kernel_rfl
 c232:=by kernel_rfl
 c233:=by kernel_rfl}
open Go.RowKit in
theorem Tryz.strconv_ParseInt_10_at64_ok(s:ByteArray)(hmax:s.size<=9223372036854775806)(v:Int)(h:Lib.parseIntB 64 s.data.toList=.ok v)(w:World):
  Calls Tryz.prog 101 #[.string s,.int .i64 10,.int .i64 64] w fun e w'=>e=.returned (.tuple #[.int .i64 v,.nilIface])/\(w'=w\/∃t,w'=Lib.bytesWorld w 5 t):=Any.strconv_ParseInt_10_at64_ok Tryz.laysC174 s hmax v h w
open Go.RowKit in
theorem Tryz.strconv_ParseInt_10_at64_syntax(s:ByteArray)(hlim:s.size<=281474976710656)(h:Lib.parseIntB 64 s.data.toList=Lib.parseIntB 64 [])(ev:Value)(w:World)(hv:w.cell? ⟨4,0,none⟩=some ev)(hev:ev=.nilIface\/∃te pe,ev=.iface te pe):
  Calls Tryz.prog 101 #[.string s,.int .i64 10,.int .i64 64] w fun e w'=>∃N,e=.returned (.tuple #[.int .i64 (0),.iface 187 (.pointer (some ⟨N,0,none⟩))])/\w.heap.size<=N/\w'.heap[N]?=some (.cells #[.string ⟨#[80,97,114,115,101,73,110,116]⟩,.string s,ev] 214 (0,0))/\Below w.heap.size w w':=Any.strconv_ParseInt_10_at64_syntax Tryz.laysC174 s hlim (h.trans rfl) ev w hv hev
open Go.RowKit in
theorem Tryz.strconv_ParseInt_10_at64_range(s:ByteArray)(hlim:s.size<=281474976710656)(h:Lib.parseIntB 64 s.data.toList=.range)(ev:Value)(w:World)(hv:w.cell? ⟨5,0,none⟩=some ev)(hev:ev=.nilIface\/∃te pe,ev=.iface te pe):
  Calls Tryz.prog 101 #[.string s,.int .i64 10,.int .i64 64] w fun e w'=>∃N,e=.returned (.tuple #[.int .i64 (Lib.intSat 64 s.data.toList),.iface 187 (.pointer (some ⟨N,0,none⟩))])/\w.heap.size<=N/\w'.heap[N]?=some (.cells #[.string ⟨#[80,97,114,115,101,73,110,116]⟩,.string s,ev] 214 (0,0))/\Below w.heap.size w w':=Any.strconv_ParseInt_10_at64_range Tryz.laysC174 s hlim h ev w hv hev
def Tryz.lays145_ren:Go.Shelf.Ren:=⟨fun|145=>41|220=>73|219=>97|217=>110|225=>111|224=>112|267=>113|266=>138|314=>139|n=>n,fun|9=>9|4=>4|59=>100|3=>3|5=>5|46=>152|146=>182|51=>165|n=>n,fun|1=>1|n=>n⟩
theorem Tryz.lays145:Go.Proofs.Lays.n145 Tryz.prog Tryz.lays145_ren:={
 mixed:=by kernel_rfl
 f145:=Tryz.func41.trans (congrArg some (by kernel_rfl))
 f217:=Tryz.func110.trans (congrArg some (by kernel_rfl))
 f219:=Tryz.func97.trans (congrArg some (by kernel_rfl))
 f220:=Tryz.func73.trans (congrArg some (by kernel_rfl))
 f224:=Tryz.func112.trans (congrArg some (by kernel_rfl))
 f225:=Tryz.func111.trans (congrArg some (by kernel_rfl))
 f266:=Tryz.func138.trans (congrArg some (by kernel_rfl))
 f267:=Tryz.func113.trans (congrArg some (by kernel_rfl))
 f314:=Tryz.func139.trans (congrArg some (by kernel_rfl))
 t3:=Tryz.underlying3
 a3:=Tryz.isAgg3
 z3:=Tryz.sizeOf3
 v3:=Tryz.zeroValue3
 t4:=Tryz.underlying4
 a4:=Tryz.isAgg4
 z4:=Tryz.sizeOf4
 v4:=Tryz.zeroValue4
 t5:=Tryz.underlying5
 a5:=Tryz.isAgg5
 z5:=Tryz.sizeOf5
 v5:=Tryz.zeroValue5
 t9:=Tryz.underlying9
 a9:=Tryz.isAgg9
 z9:=Tryz.sizeOf9
 v9:=Tryz.zeroValue9
 t46:=Tryz.underlying152
 a46:=Tryz.isAgg152
 z46:=Tryz.sizeOf152
 v46:=Tryz.zeroValue152
 t51:=Tryz.underlying165
 a51:=Tryz.isAgg165
 z51:=Tryz.sizeOf165
 v51:=Tryz.zeroValue165
 t59:=Tryz.underlying100
 a59:=Tryz.isAgg100
 z59:=Tryz.sizeOf100
 v59:=Tryz.zeroValue100
 t146:=Tryz.underlying182
 a146:=Tryz.isAgg182
 z146:=Tryz.sizeOf182
 v146:=Tryz.zeroValue182
 g1:=by kernel_rfl}
open Go.RowKit Go.Lib in
theorem Tryz.strings_Cut(s sep:ByteArray)(m:Int)(w:World)(hs:s.size<4294967281)(hm:w.cell? ⟨1,0,none⟩=some (.int .i64 m)):
  Calls Tryz.prog 41 #[.string s,.string sep] w fun e w'=>e=.returned (.tuple #[.string ⟨(Lib.cut s.data.toList sep.data.toList).1.toArray⟩,.string ⟨(Lib.cut s.data.toList sep.data.toList).2.1.toArray⟩,.bool (Lib.cut s.data.toList sep.data.toList).2.2])/\∃n,w'=w.drewN n:=Any.strings_Cut Tryz.lays145 s sep m w hs hm
def Tryz.lays264_ren:Go.Shelf.Ren:=⟨fun|264=>176|n=>n,fun|53=>109|46=>152|n=>n,fun|n=>n⟩
theorem Tryz.lays264:Go.Proofs.Lays.n264 Tryz.prog Tryz.lays264_ren:={
 mixed:=by kernel_rfl
 f264:=Tryz.func176.trans (congrArg some (by kernel_rfl))
 t46:=Tryz.underlying152
 a46:=Tryz.isAgg152
 z46:=Tryz.sizeOf152
 v46:=Tryz.zeroValue152
 t53:=Tryz.underlying109
 a53:=Tryz.isAgg109
 z53:=Tryz.sizeOf109
 v53:=Tryz.zeroValue109}
open Go.RowKit Go.Lib in
theorem Tryz.bits_Mul64(x y:Nat)(hx:x<18446744073709551616)(hy:y<18446744073709551616)(w:World):
  Calls Tryz.prog 176 #[.int .u64 x,.int .u64 y] w fun e w'=>e=.returned (.tuple #[.int .u64 ((x*y/18446744073709551616:Nat):Int),.int .u64 ((x*y%18446744073709551616:Nat):Int)])/\w'=w:=Any.bits_Mul64 Tryz.lays264 x y hx hy w
end Go.Proofs
namespace Go.Proofs.YtkkecpamnnojoaaGreatDoor.Sm
def Len(V n:Nat):Prop:=V<2^n/\(0<n->2^(n-1)<=V)
theorem z7S{V n m:Nat}(h:Len V n)(k:Len V m):n=m:=by
 rcases Nat.lt_trichotomy n m with hlt|h1|hlt
 ·have h2:=k.2 (by omega);have:2^n<=2^(m-1):=Nat.pow_le_pow_right (by omega) (by omega);have:=h.1;omega
 ·exact h1
 ·have h2:=h.2 (by omega);have:2^m<=2^(n-1):=Nat.pow_le_pow_right (by omega) (by omega);have:=k.1;omega
theorem z3k:Len 0 0:=⟨by simp,fun h=>absurd h (by omega)⟩
def z1f(V:Nat):Nat:=if V=0 then 0 else Nat.log2 V+1
theorem z0D(V:Nat):Len V (z1f V):=by
 unfold z1f;by_cases h:V=0
 ·rw[if_pos h,h];exact z3k
 ·rw[if_neg h];refine⟨Nat.lt_log2_self,fun _=>?_⟩;rw[Nat.add_sub_cancel];exact Nat.log2_self_le h
theorem z3l{V n:Nat}(h:Len V n):z1f V=n:=z7S (z0D V) h
def z2k(V by_:Nat):Nat:=let d:=V >>> by_;if V.testBit (by_-1)=true/\(d%2=1\/V%2^(by_-1)≠0)then d+1 else d
def zN(V:Nat):Nat:=
 let n:=z1f V
 if n<=53 then V else
  let by_:=n-53
  let d:=z2k V by_
  let d2:=if d=2^53 then 2^52 else d
  let b2:=if d=2^53 then by_+1 else by_
  if b2+1>=2047 then 2047*2^52 else(b2+1)*2^52+(d2-2^52)
theorem xA{V n:Nat}(h:Len V n)(hn:53<n):2^52<=V >>> (n-53)/\V >>> (n-53)<2^53:=by
 rw[Nat.shiftRight_eq_div_pow];have h1:=h.1;have h2:=h.2 (by omega);constructor
 ·rw[Nat.le_div_iff_mul_le (Nat.pow_pos (by omega)),<-Nat.pow_add,show 52+(n-53)=n-1 by omega];exact h2
 ·rw[Nat.div_lt_iff_lt_mul (Nat.pow_pos (by omega)),<-Nat.pow_add,show 53+(n-53)=n by omega];exact h1
theorem z3y{V n:Nat}(h:Len V n)(hn:53<n):2^52<=z2k V (n-53)/\z2k V (n-53)<=2^53:=by have:=xA h hn;unfold z2k;simp only;split<;>omega
def zt(u:Nat):Nat:=if u/2^52%2048=0 then u%2^52 else u%2^52+2^52
def yv(u:Nat):Bool:=decide (2^63<=u)
theorem z1M(u:Nat):zt u<2^53:=by unfold zt;split<;>omega
end Go.Proofs.YtkkecpamnnojoaaGreatDoor.Sm
namespace Go.Proofs.YtkkecpamnnojoaaGreatDoor.Sm
open Go.ChangeShapes Go.WideShapes Go.ChangeAt Go.RowKit
theorem z0L(x:Int)(h1:-9223372036854775808<=x)(h2:x<=9223372036854775807):wrap64 x=x:=by unfold wrap64;omega
theorem z0s(u:Nat)(hu:u<2^64):bits BinOp.and IntKind.i64 (wrap64 ((u:Int)/4503599627370496)) 2047=((u/2^52%2048:Nat):Int):=by
 have e:((u:Int)/4503599627370496)=((u/2^52:Nat):Int):=(by omega);have hq:u/2^52<4096:=(by omega);rw[e,z0L _ (by omega) (by omega)];generalize u/2^52=q at*
 have h1:(BitVec.ofInt 64 (q:Int)).toNat=q:=(by rw[BitVec.ofInt_natCast,BitVec.toNat_ofNat];omega);have h2:(BitVec.ofInt 64 2047).toNat=2^11-1:=(by decide);show IntKind.i64.wrap ((BitVec.ofInt 64 (q:Int)&&&BitVec.ofInt 64 2047).toNat:Int)=_;rw[BitVec.toNat_and,h1,h2,Nat.and_two_pow_sub_one_eq_mod];rw[IntKind.wrap_i64];omega
theorem z6V(u:Nat)(hu:u<2^64):bits BinOp.and IntKind.u64 (u:Int) 4503599627370495=((u%2^52:Nat):Int):=by have h1:(BitVec.ofInt 64 (u:Int)).toNat=u:=(by rw[BitVec.ofInt_natCast,BitVec.toNat_ofNat];omega);have h2:(BitVec.ofInt 64 4503599627370495).toNat=2^52-1:=(by decide);show IntKind.u64.wrap ((BitVec.ofInt 64 (u:Int)&&&BitVec.ofInt 64 4503599627370495).toNat:Int)=_;rw[BitVec.toNat_and,h1,h2,Nat.and_two_pow_sub_one_eq_mod,IntKind.wrap_u64];omega
theorem zdb(a:Nat)(h:a<4503599627370496):bits BinOp.or IntKind.u64 (a:Int) 4503599627370496=((a+4503599627370496:Nat):Int):=by have h1:(BitVec.ofInt 64 (a:Int)).toNat=a:=(by rw[BitVec.ofInt_natCast,BitVec.toNat_ofNat];omega);have h2:(BitVec.ofInt 64 4503599627370496).toNat=2^52:=(by decide);show IntKind.u64.wrap ((BitVec.ofInt 64 (a:Int)|||BitVec.ofInt 64 4503599627370496).toNat:Int)=_;have h3:a|||2^52=a+2^52:=(by rw[Nat.or_comm,Nat.add_comm];have:=Nat.two_pow_add_eq_or_of_lt (i:=52) (b:=a) (by omega) 1;simpa using this.symm);rw[BitVec.toNat_or,h1,h2,h3,IntKind.wrap_u64];omega
end Go.Proofs.YtkkecpamnnojoaaGreatDoor.Sm
namespace Go.Proofs.YtkkecpamnnojoaaGreatDoor.Sm
open Go.ChangeShapes Go.WideShapes Go.ChangeAt Go.RowKit
theorem zfj:(2:Nat)^64=18446744073709551616:=by decide
theorem z15:∀(g x:Nat),x<2^g->Len x (Lib.bitLenAux g x)
 |0,x,h=>by have:x=0:=(by simpa using h);subst this;exact z3k
 |g+1,x,h=>by
  unfold Lib.bitLenAux;by_cases hx:x=0
  ·rw[if_pos hx,hx];exact z3k
  ·rw[if_neg hx]
   have ih:=z15 g (x/2) (by rw[Nat.pow_succ]at h;omega);generalize Lib.bitLenAux g (x/2)=m at*
   obtain⟨h1,h2⟩:=ih;refine⟨?_,fun _=>?_⟩
   ·rw[Nat.add_comm,Nat.pow_succ];omega
   ·rw[Nat.add_sub_cancel_left]
    rcases Nat.eq_zero_or_pos m with rfl|hm
    ·simp;omega
    ·have h3:=h2 hm;obtain⟨m',rfl⟩:∃m',m=m'+1:=⟨m-1,by omega⟩;rw[Nat.add_sub_cancel]at h3;rw[Nat.pow_succ];omega
theorem z8a(x:Nat)(h:x<18446744073709551616):Len x (Lib.bitLen x):=z15 64 x (by rw[zfj];exact h)
end Go.Proofs.YtkkecpamnnojoaaGreatDoor.Sm
namespace Go.Proofs.YtkkecpamnnojoaaGreatDoor.Sm
open Go.ChangeShapes Go.WideShapes Go.ChangeAt Go.RowKit
theorem z6T(d:Nat)(h:d<18446744073709551616):bits BinOp.and IntKind.u64 (d:Int) 1=((d%2:Nat):Int):=by have:=bits_and_u64_nat d 1 h (by omega);rw[show((1:Nat):Int)=1 from rfl]at this;rw[this,Nat.and_one_is_mod]
theorem z5Z{V n:Nat}(hl:z1f V=n)(hn:53<n):zN V=(let d:=z2k V (n-53);let d2:=if d=9007199254740992 then 4503599627370496 else d;let b2:=if d=9007199254740992 then n-53+1 else n-53;if b2+1>=2047 then 9218868437227405312 else(b2+1)*4503599627370496+(d2-4503599627370496)):=by unfold zN;rw[hl];simp only;rw[if_neg (by omega)]
theorem z5Y{V n:Nat}(hl:z1f V=n)(hn:n<=53):zN V=V:=by unfold zN;rw[hl];simp only;rw[if_pos hn]
end Go.Proofs.YtkkecpamnnojoaaGreatDoor.Sm
namespace Go.Proofs.YtkkecpamnnojoaaGreatDoor
open Go.ChangeShapes Go.WideShapes Go.ChangeAt Go.RowKit
open Bt
theorem z8p{k:IntKind}{a b:Int}(h:a=b):Ending.returned (.int k a)=.returned (.int k b):=by rw[h]
theorem z0S(x:Int)(w:World)(h0:-4000<=x)(h1:x<=4000):
  Calls Tryz.prog 131 #[.int .i64 x] w fun e w'=>e=.returned (.int .i64 (Us.lg2 x))/\w'=w:=by
 go_in;go_wp2;go_ret;exact⟨rfl,rfl⟩
theorem z6l(x:Int)(w:World)(h0:-4000<=x)(h1:x<=4000):
  Calls Tryz.prog 154 #[.int .i64 x] w fun e w'=>e=.returned (.int .i64 (Us.lgp x))/\w'=w:=by
 go_in;go_wp2;go_ret;exact⟨rfl,rfl⟩
theorem z7f(x:Int)(w:World)(h0:-4000<=x)(h1:x<=4000):
  Calls Tryz.prog 152 #[.int .i64 x] w fun e w'=>e=.returned (.int .i64 (Us.skw x))/\w'=w:=by
 go_in;go_wp2;go_ret;exact⟨rfl,rfl⟩
def z0t(w:World):Prop:=∀i:Nat,i<696->w.cell? ⟨6,i*2,none⟩=some (.int .u64 (Us.yK ((i:Int)-348):Nat))/\w.cell? ⟨6,i*2+1,none⟩=some (.int .u64 (Us.qO ((i:Int)-348):Nat))
def scA(hi lo:Nat)(s:Int):Array Value:=#[.int .u64 (hi:Int),.int .u64 (lo:Int),.int .i64 s]
def z2D(w:World)(b:Nat)(hi lo:Nat)(s:Int):Prop:=w.heap[b]?=some (.cells (scA hi lo s) 201 (0,0))
theorem qj(b:Nat)(hi lo:Nat)(s e p lp:Int)(w:World)(h:z2D w b hi lo s)(hb:b≠6)(hT:z0t w)(h0:-348<=p)(h1:p<=347)(he:-4000<=e/\e<=4000)(hl:-4000<=lp/\lp<=4000):
  Calls Tryz.prog 153 #[.pointer (some ⟨b,0,none⟩),.int .i64 e,.int .i64 p,.int .i64 lp] w fun en w'=>en=.returned (.tuple #[])/\z2D w' b (Us.yK p) (Us.qO p) (-(e+lp+3))/\Keep (·=b) w w':=by
 obtain⟨i,rfl⟩:∃i:Nat,p=(i:Int)-348:=⟨(p+348).toNat,by omega⟩;obtain⟨t0,t1⟩:=hT i (by omega);have c0:=za h 0;have c1:=za h 1;have c2:=za h 2;have f0:=zd h 0;have f1:=zd h 1;have f2:=zd h 2;unfold scA at c0 c1 c2;simp at c0 c1 c2;obtain⟨he1,he2⟩:=he;obtain⟨hl1,hl2⟩:=hl;have hi0:(0:Int)<=i:=(by omega);have hi1:(i:Int)<696:=(by omega);go_in;go_wp2;go_end0;refine⟨rfl,?_,?_⟩
 ·have hA:=zg (zg (zg h 0 (.int .u64 (Us.yK ((i:Int)-348):Nat))) 1 (.int .u64 (Us.qO ((i:Int)-348):Nat))) 2 (.int .i64 (-(e+lp+3)));exact hA
 ·have k0:Keep (·=b) w w:=Keep.refl _ w
  have k1:=k0.setCell (p:=⟨b,0,none⟩) (Or.inl rfl) (.int .u64 (Us.yK ((i:Int)-348):Nat));have k2:=k1.setCell (p:=⟨b,1,none⟩) (Or.inl rfl) (.int .u64 (Us.qO ((i:Int)-348):Nat));exact k2.setCell (p:=⟨b,2,none⟩) (Or.inl rfl) _
theorem z3I(b:Bool)(w:World):Calls Tryz.prog 177 #[.bool b] w fun e w'=>e=.returned (.int .u64 ((b.toNat:Nat):Int))/\w'=w:=by cases b<;>(go_in;go_wp2;go_ret;exact⟨rfl,rfl⟩)
theorem yX(u d:Int)(w:World)(h0:0<=u)(h1:u<9223372036854775808)(hd:-1<=d)(hd1:d<=1)(h2:0<=u+d):
  Calls Tryz.prog 156 #[.int .u64 u,.int .i64 d] w fun e w'=>e=.returned (.int .u64 (u+d))/\w'=w:=by
 go_in;go_wp2;go_ret;refine⟨z8p ?_,rfl⟩;rw[IntKind.wrap_u64,IntKind.wrap_u64];omega
theorem z08(u:Int)(w:World)(h0:0<=u)(h1:u<9223372036854775808):
  Calls Tryz.prog 158 #[.int .u64 u] w fun e w'=>e=.returned (.int .u64 (u/4))/\w'=w:=by
 go_in;go_wp2;go_ret;exact⟨rfl,rfl⟩
theorem z0H(u:Int)(w:World)(h0:0<=u)(h1:u<9223372036854775808):
  Calls Tryz.prog 157 #[.int .u64 u] w fun e w'=>e=.returned (.int .u64 ((u+3)/4))/\w'=w:=by
 go_in;go_wp2;go_ret;exact⟨rfl,rfl⟩
theorem xw(u:Nat)(w:World)(h1:u<9223372036854775808):
  Calls Tryz.prog 159 #[.int .u64 (u:Int)] w fun e w'=>e=.returned (.int .u64 (((u+1+u/4%2)/4:Nat):Int))/\w'=w:=by
 go_in;go_wp2;go_ret;refine⟨z8p ?_,rfl⟩;have e:((u:Int)/4)=((u/4:Nat):Int):=(by push_cast;rfl);rw[e,Sm.z6T (u/4) (by omega),IntKind.wrap_u64];omega
theorem zem(s:Nat)(h:s<64):bits BinOp.and IntKind.i64 (s:Int) 63=(s:Int):=by have hand:∀s:Fin 64,bits BinOp.and IntKind.i64 (s.val:Int) 63=(s.val:Int):=(by decide+kernel);exact hand ⟨s,h⟩
def Mul(x y H M:Nat):Prop:=∀w,Calls Tryz.prog 176 #[.int .u64 (x:Int),.int .u64 (y:Int)] w fun e w'=>e=.returned (.tuple #[.int .u64 (H:Int),.int .u64 (M:Int)])/\w'=w
theorem z74(x s hi lo b H M R:Nat)(w:World)(h:z2D w b hi lo (s:Int))(hs:s<64)(hM:Mul x hi H M)
  (hne:(IntKind.u64.wrap ((H:Int)/2^s*2^s) != (H:Int))=true)(hr:bits BinOp.or IntKind.u64 ((H:Int)/2^s) 1=(R:Int)):
  Calls Tryz.prog 155 #[.int .u64 (x:Int),.pointer (some ⟨b,0,none⟩)] w fun e w'=>e=.returned (.int .u64 (R:Int))/\∃n,w'=w.drewN n:=by
 have c0:=za h 0;have c1:=za h 1;have c2:=za h 2;unfold scA at c0 c1 c2;simp at c0 c1 c2;clear h;have ha:=zem s hs;go_in;go_wp2_with fail;refine(hM _).mono ?_;rintro e w' ⟨rfl,hw⟩;obtain rfl:w=w':=hw.symm;go_wp2_with fail;go_ret;exact⟨rfl,0,rfl⟩
theorem z73(x s hi lo b H M H2 L2 H3 D R:Nat)(bb cc:Bool)(w:World)(h:z2D w b hi lo (s:Int))(hs:s<64)(hM:Mul x hi H M)(hM2:Mul x lo H2 L2)
  (hne:(IntKind.u64.wrap ((H:Int)/2^s*2^s) != (H:Int))=false)(hb:decide (M<H2)=bb)(h3:IntKind.u64.wrap ((H:Int)-(bb.toNat:Nat))=(H3:Int))(hd:IntKind.u64.wrap ((M:Int)-(H2:Int))=(D:Int))(hc:decide ((1:Int)<(D:Int))=cc)
  (hr:bits BinOp.or IntKind.u64 ((H3:Int)/2^s) (cc.toNat:Nat)=(R:Int)):
  Calls Tryz.prog 155 #[.int .u64 (x:Int),.pointer (some ⟨b,0,none⟩)] w fun e w'=>e=.returned (.int .u64 (R:Int))/\∃n,w'=w.drewN n:=by
 have c0:=za h 0;have c1:=za h 1;have c2:=za h 2;unfold scA at c0 c1 c2;simp at c0 c1 c2;clear h;have ha:=zem s hs;go_in;go_wp2_with fail;refine(hM _).mono ?_;rintro e w' ⟨rfl,hw⟩;obtain rfl:w=w':=hw.symm;go_wp2_with fail;refine(hM2 _).mono ?_;rintro e w' ⟨rfl,hw⟩;obtain rfl:w=w':=hw.symm;go_wp2_with fail;refine(z3I bb _).mono ?_;rintro e w' ⟨rfl,hw⟩;obtain rfl:w=w':=hw.symm;go_wp2_with fail;go_quiet((go_at_call 177;exact Calls.quiet_of_same (z3I cc _)));go_wp2_with fail;go_ret;exact⟨rfl,nq,rfl⟩
theorem zbp(a:Nat)(ha:a<18446744073709551616):bits BinOp.or IntKind.u64 (a:Int) 1=((Us.stk a true:Nat):Int):=by
 have h1:(BitVec.ofInt 64 (a:Int)).toNat=a:=(by rw[BitVec.ofInt_natCast,BitVec.toNat_ofNat];exact Nat.mod_eq_of_lt (by omega));have h3:a|||1=a/2*2+1:=by
  apply Nat.eq_of_testBit_eq;intro i;rw[Nat.testBit_or];cases i with
  |zero=>simp[Nat.testBit_zero]
  |succ i=>
   rw[Nat.testBit_succ,Nat.testBit_succ,Nat.testBit_succ];have e:(a/2*2+1)/2=a/2:=(by omega);rw[e];simp
 show IntKind.u64.wrap ((BitVec.ofInt 64 (a:Int)|||BitVec.ofInt 64 1).toNat:Int)=_;rw[BitVec.toNat_or,h1,show(BitVec.ofInt 64 1).toNat=1 from rfl,h3,IntKind.wrap_u64];unfold Us.stk;simp only[if_true];omega
theorem or_zero(a:Nat)(ha:a<18446744073709551616):bits BinOp.or IntKind.u64 (a:Int) 0=(a:Int):=by have h1:(BitVec.ofInt 64 (a:Int)).toNat=a:=(by rw[BitVec.ofInt_natCast,BitVec.toNat_ofNat];exact Nat.mod_eq_of_lt (by omega));show IntKind.u64.wrap ((BitVec.ofInt 64 (a:Int)|||BitVec.ofInt 64 0).toNat:Int)=_;rw[BitVec.toNat_or,h1,show(BitVec.ofInt 64 0).toNat=0 from rfl,Nat.or_zero,IntKind.wrap_u64];omega
theorem z7G(a:Nat)(ha:a<18446744073709551616)(c:Bool):bits BinOp.or IntKind.u64 (a:Int) ((c.toNat:Nat):Int)=((Us.stk a c:Nat):Int):=by
 cases c
 ·exact or_zero a ha
 ·exact zbp a ha
theorem ze6(H s:Nat)(hH:H<18446744073709551616):IntKind.u64.wrap ((H:Int)/2^s*2^s)=((H-H%2^s:Nat):Int):=by
 have e:((H:Int)/2^s*2^s)=((H/2^s*2^s:Nat):Int):=(by push_cast;rfl);have h:=Nat.div_add_mod H (2^s);rw[Nat.mul_comm]at h;rw[e,IntKind.wrap_u64];generalize H/2^s*2^s=q at*
 omega
theorem z2Q(x s hi lo b:Nat)(w:World)(h:z2D w b hi lo (s:Int))(hx:x<18446744073709551616)(hhi:hi<18446744073709551616)(hlo:lo<18446744073709551616)(hs:s<64):
  Calls Tryz.prog 155 #[.int .u64 (x:Int),.pointer (some ⟨b,0,none⟩)] w fun e w'=>e=.returned (.int .u64 (Us.usc x s hi lo:Nat))/\∃n,w'=w.drewN n:=by
 have hM:=Tryz.bits_Mul64 x hi hx hhi;have hM2:=Tryz.bits_Mul64 x lo hx hlo;have u1:x*hi/18446744073709551616<18446744073709551616:=Nat.div_lt_of_lt_mul (Nat.mul_lt_mul'' hx hhi);have u2:x*lo/18446744073709551616<18446744073709551616:=Nat.div_lt_of_lt_mul (Nat.mul_lt_mul'' hx hlo);have u3:=Nat.mod_lt (x*hi) (y:=18446744073709551616) (by omega);unfold Us.usc;generalize x*hi/18446744073709551616=H at*
 generalize x*hi%18446744073709551616=M at*
 generalize x*lo/18446744073709551616=H2 at*
 generalize x*lo%18446744073709551616=L2 at*
 have hdl:∀a:Nat,a<18446744073709551616->a/2^s<18446744073709551616:=fun a ha=>Nat.lt_of_le_of_lt (Nat.div_le_self _ _) ha;have hb:=ze6 H s u1;have hle:=Nat.mod_le H (2^s);by_cases hr:H%2^s≠0
 ·simp only[if_pos hr]
  refine z74 x s hi lo b H M _ w h hs hM ?_ ?_
  ·rw[hb,bne_iff_ne];omega
  ·have:=zbp (H/2^s) (hdl H u1);rw[<-this];push_cast;rfl
 ·simp only[if_neg hr]
  have e3:IntKind.u64.wrap ((H:Int)-((decide (M<H2)).toNat:Nat))=((if M<H2 then(H+18446744073709551615)%18446744073709551616 else H:Nat):Int):=by
   rw[IntKind.wrap_u64];by_cases hm:M<H2
   ·rw[if_pos hm,decide_eq_true hm];simp only[Bool.toNat_true];omega
   ·rw[if_neg hm,decide_eq_false hm];simp only[Bool.toNat_false];omega
  have l3:(if M<H2 then(H+18446744073709551615)%18446744073709551616 else H)<18446744073709551616:=(by split<;>omega);have ed:IntKind.u64.wrap ((M:Int)-(H2:Int))=(((M+18446744073709551616-H2)%18446744073709551616:Nat):Int):=(by rw[IntKind.wrap_u64];omega);have ec:decide ((1:Int)<(((M+18446744073709551616-H2)%18446744073709551616:Nat):Int))=decide (1<(M+18446744073709551616-H2)%18446744073709551616):=(by rw[Bool.eq_iff_iff];simp only[decide_eq_true_eq];omega);generalize(if M<H2 then(H+18446744073709551615)%18446744073709551616 else H)=H3 at*
  generalize(M+18446744073709551616-H2)%18446744073709551616=D at*
  refine z73 x s hi lo b H M H2 L2 H3 D _ (decide (M<H2)) (decide (1<D)) w h hs hM hM2 ?_ rfl e3 ed ec ?_
  ·rw[hb,bne_eq_false_iff_eq];omega
  ·have:=z7G (H3/2^s) (hdl H3 l3) (decide (1<D));rw[<-this];push_cast;rfl
end Go.Proofs.YtkkecpamnnojoaaGreatDoor
