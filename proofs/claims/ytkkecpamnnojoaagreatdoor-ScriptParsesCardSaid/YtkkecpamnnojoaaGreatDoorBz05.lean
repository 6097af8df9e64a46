/- A part of the proof of ScriptParses: nothing is assumed. By an AI agent. -/
import GoSem.PinnedTables
import Derived.Test.YtkkecpamnnojoaaGreatDoorBz04
set_option linter.unusedVariables false
set_option linter.unusedSimpArgs false
set_option maxRecDepth 100000
set_option maxHeartbeats 32000000
namespace Go.Proofs.YtkkecpamnnojoaaGreatDoor
open Go.ChangeShapes Go.WideShapes Go.ChangeAt Go.RowKit
open Bt Dc
def RgQ(b k:Nat)(σ:DS)(n:Nat)(w:World)(e:Ending)(w':World):Prop:=
 e=.returned (.tuple #[])/\RowKit.Hid ((∃(τ:DS) (m:Nat),DAt w' b τ/\Dc.Ok τ m/\σ.dp-20<=τ.dp/\τ.dp<=σ.dp/\(3<=k->τ.dp<σ.dp\/(56<=σ.d 0/\τ.d 0=49)))/\Keep (·=b) w w')
structure Rd (D:Nat->Nat) (K r x:Nat):Prop where
 zero:r=0->x=0
 pow:1<=r->10^(r-1)<=x
 one:r=1->x=D 0-48
 top:x<10*K
theorem Rd.start(D:Nat->Nat){K:Nat}(hK:1<=K):Rd D K 0 0:=⟨fun _=>rfl,fun h=>by omega,fun h=>by omega,by omega⟩
theorem Rd.pos{D:Nat->Nat}{K r x:Nat}(h:Rd D K r x)(h1:1<=r):1<=x:=Nat.le_trans (Nat.pow_pos (by omega)) (h.pow h1)
theorem Rd.next{D:Nat->Nat}{K r x n:Nat}(h:Rd D K r x)(hx:x<K)(g:Dc.Good D n)(hr:r<n):Rd D K (r+1) (10*x+(D r-48))/\x<10*x+(D r-48):=by
 have hd:=g.dig r hr;by_cases h0:r=0
 ·subst h0;have e:=h.zero rfl;subst e;have:=g.lead;refine⟨⟨fun h=>by omega,fun _=>?_,fun _=>by omega,by omega⟩,by omega⟩;show 10^0<=_;rw[Nat.pow_zero];omega
 ·have hp:=h.pow (by omega);have h1:=h.pos (by omega);refine⟨⟨fun h=>by omega,fun _=>?_,fun h=>by omega,by omega⟩,by omega⟩;rw[show r+1-1=(r-1)+1 by omega,Nat.pow_succ];omega
theorem Rd.more{D:Nat->Nat}{K r x:Nat}(h:Rd D K r x)(hx:x<K)(h1:1<=r):Rd D K (r+1) (10*x)/\x<10*x:=by have hp:=h.pow h1;have h2:=h.pos h1;refine⟨⟨fun h=>by omega,fun _=>?_,fun h=>by omega,by omega⟩,by omega⟩;rw[show r+1-1=(r-1)+1 by omega,Nat.pow_succ];omega
theorem Rd.few{D:Nat->Nat}{K r x:Nat}(h:Rd D K r x)(hK:K<=1152921504606846976):r<=20:=by refine Nat.le_of_not_lt fun hr=>?_;have hp:=h.pow (by omega);have ht:=h.top;have:10^20<=10^(r-1):=Nat.pow_le_pow_right (by omega) (by omega);have e:(10:Nat)^20=100000000000000000000:=(by decide);omega
theorem z4o{x d K:Nat}(hx:x<K)(hK:K<=1152921504606846976)(hd:48<=d/\d<=57):IntKind.u64.wrap (IntKind.u64.wrap (IntKind.u64.wrap ((x:Int)*10)+IntKind.u64.wrap (d:Int))-48)=((10*x+(d-48):Nat):Int):=by simp only[IntKind.wrap_u64];omega
theorem z1u{x K:Nat}(hx:x<K)(hK:K<=1152921504606846976):IntKind.u64.wrap ((x:Int)*10)=((10*x:Nat):Int):=by simp only[IntKind.wrap_u64];omega
theorem zbh{x K:Nat}(hx:x<K):((x:Int)/(K:Int)==0)=true:=by rw[beq_iff_eq];exact Int.ediv_eq_zero_of_lt (by omega) (by omega)
theorem z6b{x K:Nat}(h1:1<=K)(hx:K<=x):((x:Int)/(K:Int)==0)=false:=by rw[beq_eq_false_iff_ne];have:1<=x/K:=(Nat.le_div_iff_mul_le (by omega)).2 (by omega);have e:(x:Int)/(K:Int)=((x/K:Nat):Int):=rfl;rw[e];omega
theorem z6S{k K x:Nat}(hK:K=2^k)(hK60:K<=1152921504606846976)(hx:x<10*K):bits BinOp.and IntKind.u64 (x:Int) ((K:Int)-1)=((x%K:Nat):Int):=by have hp:0<K:=(by rw[hK];exact Nat.two_pow_pos k);have e:(K:Int)-1=((K-1:Nat):Int):=(by omega);have hm:x%K<K:=Nat.mod_lt _ hp;rw[e];show IntKind.u64.wrap ((BitVec.ofInt 64 (x:Int)&&&BitVec.ofInt 64 ((K-1:Nat):Int)).toNat:Int)=_;have h1:(BitVec.ofInt 64 (x:Int)).toNat=x:=(by rw[BitVec.ofInt_natCast,BitVec.toNat_ofNat];omega);have h2:(BitVec.ofInt 64 ((K-1:Nat):Int)).toNat=2^k-1:=(by rw[BitVec.ofInt_natCast,BitVec.toNat_ofNat,<-hK];omega);rw[BitVec.toNat_and,h1,h2,Nat.and_two_pow_sub_one_eq_mod,<-hK,IntKind.wrap_u64];omega
theorem zdm{K:Nat}(h1:1<=K)(hK:K<=1152921504606846976):IntKind.u64.wrap (IntKind.u64.wrap (K:Int)-1)=(K:Int)-1:=by simp only[IntKind.wrap_u64];omega
theorem z39{x K:Nat}(h1:1<=K)(h:x<10*K):x/K<=9:=by have:x/K<10:=Nat.div_lt_of_lt_mul (by omega);omega
theorem z8u{x K:Nat}(h1:1<=K)(h:K<=x):1<=x/K:=(Nat.le_div_iff_mul_le (by omega)).2 (by omega)
theorem z2K{dg:Nat}(h:dg<=9):IntKind.u64.wrap ((dg:Int)+48)%256=((48+dg:Nat):Int):=by rw[IntKind.wrap_u64];omega
structure RgI (b K k r n:Nat) (σ:DS) (P:Int) (w:World) (j x:Nat) (tr:Bool) (D':Nat->Nat) (wx:World):Prop where
 at_:DAt wx b {σ with dp:=P,d:=D',tr:=tr}
 rm:RM σ.d D' j
 first:j=0->K<=x
 top:x<10*K
 le:j<=800
 lead:k=3->r=1->j≠0->D' 0=49
 lead0:j=0->k=3->r=1->x/K=1
 keep:Keep (·=b) w wx
theorem RgI.put{b K k r n:Nat}{σ:DS}{P:Int}{w wx:World}{j x x2 dg:Nat}{tr:Bool}{D':Nat->Nat}(H:RgI b K k r n σ P w j x tr D' wx)(hK:1<=K)(hj:j<800)(hd:dg=x/K)(h2:x2<10*K):
  RgI b K k r n σ P w (j+1) x2 tr (upd D' j (48+dg)) (wx.setCell ⟨b,j,none⟩ (.int .u8 ((48+dg:Nat):Int))):=by
 refine⟨H.at_.sd hj,H.rm.put (by rw[hd];exact z39 hK H.top) (fun h=>by rw[hd];exact z8u hK (H.first h)),fun h=>by omega,h2,by omega,fun h3 h1 _=>?_,fun h=>by omega,Keep.setCell (bs:=(·=b)) H.keep (p:=⟨b,j,none⟩) (Or.inl rfl) _⟩
 by_cases h0:j=0
 ·subst h0;rw[z18,hd,H.lead0 rfl h3 h1]
 ·rw[z0d _ _ (by omega)];exact H.lead h3 h1 h0
theorem z03(b:Nat)(σ:DS)(n k:Nat)(w:World)(h:DAt w b σ)(ho:Dc.Ok σ n)(hk1:1<=k)(hk2:k<=60)(hp1:-1099511627776<=σ.dp)(hp2:σ.dp<=1099511627776):
  Calls Tryz.prog 164 #[.pointer (some ⟨b,0,none⟩),.int .u64 (k:Int)] w (RgQ b k σ n w):=by
 have H:=Qh (Qa h ho);have HK:=Qh (Qa hk1 (Qa hk2 (Qa hp1 hp2)));have k0:(0:Int)<=(k:Int):=(by omega);have k64:(k:Int)<64:=(by omega);clear h ho hk1 hk2 hp1 hp2;go_in;obtain⟨K,hK⟩:∃K,K=2^k:=⟨_,rfl⟩;have hKi:(2:Int)^k=(K:Int):=(by rw[hK];push_cast;rfl);have hK1:1<=K:=(by rw[hK];exact Nat.two_pow_pos k);have hK60:K<=1152921504606846976:=(by rw[hK];exact Nat.le_trans (Nat.pow_le_pow_right (by omega) HK.2.1) (by decide));have HKK:=Qh (Qa hK (Qa hK1 hK60));clear hK hK1 hK60;go_upto_block 0 with fail;go_cut[4,6]from 12 to 48 (fun s4 s6 wx=>∃(r x:Nat),s4=.int .i64 (r:Int)/\s6=.int .u64 (x:Int)/\RowKit.Hid (Rd σ.d K r x/\K<=x/\1<=r/\∃n,wx=w.drewN n))
 case first=>
  go_wp2_with fail;go_loopg[4,6] (10*K) (fun gq s4 s6 wx=>∃(r x:Nat),gq+x=10*K/\s4=.int .i64 (r:Int)/\s6=.int .u64 (x:Int)/\RowKit.Hid (Rd σ.d K r x/\r<=n/\∃n,wx=w.drewN n))
  case atStart=>exact⟨0,0,by omega,rfl,rfl,⟨Rd.start _ HKK.2.1,Nat.zero_le _,0,rfl⟩⟩
  case round=>
   obtain⟨r,x,hgx,rfl,rfl,HR⟩:=hrel;have hK1:=HKK.2.1;by_cases hx:x<K
   ·have e0:((x:Int)/(K:Int)==0)=true:=by rw[beq_iff_eq];exact Int.ediv_eq_zero_of_lt (by omega) (by omega)
    have c0:wr.cell? ⟨b,800,none⟩=some (.int .i64 (n:Int)):=(by obtain⟨q,hq⟩:=HR.2.2;have:=H.1.cnd;rw[H.2.nd]at this;rw[hq];exact this);have f0:wr.frozen? ⟨b,800,none⟩=false:=(by obtain⟨q,hq⟩:=HR.2.2;rw[hq];exact H.1.free 800);have hr20:r<=20:=HR.1.few HKK.2.2;have hw1:wrap64 ((r:Int)+1)=((r+1:Nat):Int):=(by unfold wrap64;omega);have HX:=Qh (Qa hx (Qa hr20 hK1));by_cases hrn:r<n
    ·have hrn':¬((n:Nat):Int)<=(r:Int):=by omega
     have hle:=H.2.le;have r8:(r:Int)<800:=(by omega);have c1:wr.cell? ⟨b,r,none⟩=some (.int .u8 ((σ.d r:Nat):Int)):=(by obtain⟨q,hq⟩:=HR.2.2;rw[hq];exact H.1.digit (i:=r) (by omega));have hn:=HR.1.next hx H.2.good hrn;have HN:=Qh (Qa hn (Qa hrn (H.2.good.dig r hrn)));clear hx hr20 hK1 hle hn hrn;go_wp2_with fail;go_roundg(10*K-(10*x+(σ.d r-48)))
     case measure=>have:=HN.1.2;have:=HN.1.1.top;omega
     case rel=>exact⟨r+1,10*x+(σ.d r-48),by have:=HN.1.1.top;omega,by first|rfl|(go_num;done),congrArg (Value.int .u64) (z4o HX.1 HKK.2.2 HN.2.2),⟨HN.1.1,HN.2.1,HR.2.2⟩⟩
    ·have hrn':((n:Nat):Int)<=(r:Int):=by omega
     have hr1:1<=r:=(by have:=H.2.good.one;omega);have hx1:=HR.1.pos hr1;have hxe:((x:Int)==0)=false:=Qb (by omega);have HR1:=Qh hr1;clear hx hr20 hK1 hrn hr1 hx1;go_wp2_with fail;go_loopg[4,6] (10*K-x) (fun gq s4 s6 wx=>∃(r x:Nat),gq+x=10*K/\s4=.int .i64 (r:Int)/\s6=.int .u64 (x:Int)/\RowKit.Hid (Rd σ.d K r x/\1<=r/\∃n,wx=w.drewN n))
     case atStart=>exact⟨r,x,by have:=HR.1.top;omega,rfl,rfl,⟨HR.1,HR1.out,HR.2.2⟩⟩
     case round=>
      obtain⟨r2,x2,hgx2,rfl,rfl,HR2⟩:=hrel;have hr20:r2<=20:=HR2.1.few HKK.2.2;have hw2:wrap64 ((r2:Int)+1)=((r2+1:Nat):Int):=(by unfold wrap64;omega);clear hr20;by_cases hx2:x2<K
      ·have e2:=zbh hx2
       have HX2:=Qh hx2;have hn:=HR2.1.more hx2 HR2.2.1;have HN:=Qh hn;clear hx2 hn e0;go_wp2_with fail;go_roundg(10*K-10*x2)
       case measure=>have:=HN.2;have:=HN.1.top;omega
       case rel=>exact⟨r2+1,10*x2,by have:=HN.1.top;omega,by first|rfl|(go_num;done),congrArg (Value.int .u64) (z1u HX2.out HKK.2.2),⟨HN.1,by omega,HR2.2.2⟩⟩
      ·have e2:=z6b HKK.2.1 (show K<=x2 by omega);have HX2:=Qh (show K<=x2 by omega);clear hx2 e0;go_wp2_with fail;go_meet;exact⟨r2,x2,rfl,rfl,⟨HR2.1,HX2.out,HR2.2.1,HR2.2.2⟩⟩
   ·have e2:=z6b HKK.2.1 (show K<=x by omega)
    have HX2:=Qh (show K<=x by omega);have hr1:RowKit.Hid (1<=r):=Qh (by
     refine Nat.pos_of_ne_zero fun e=>?_;have:=HR.1.zero e;omega)
    clear hx hK1;go_wp2_with fail;go_meet;exact⟨r,x,rfl,rfl,⟨HR.1,HX2.out,hr1.out,HR.2.2⟩⟩
 case rest=>
  obtain⟨r,x,rfl,rfl,HR⟩:=hcut;generalize wc=w1 at*
  have hw1:DAt w1 b σ:=(by obtain⟨q,hq⟩:=HR.2.2.2;rw[hq];exact H.1);have c0:=hw1.cdp;have f0:=hw1.free 801;go_upto_block 4 with fail;have hM:=zdm HKK.2.1 HKK.2.2;have hr20:=HR.1.few HKK.2.2;have hDP:wrap64 (σ.dp-wrap64 ((r:Int)-1))=σ.dp-((r:Int)-1):=(by have:=HK.2.2;have:=HR.2.2.1;unfold wrap64;omega);rw[hM,hDP];obtain⟨M,hMe⟩:∃M:Int,M=(K:Int)-1:=⟨_,rfl⟩;rw[<-hMe];have HM:=Qh hMe;have HDP:=Qh (show σ.dp-((r:Int)-1)<=σ.dp/\σ.dp-20<=σ.dp-((r:Int)-1)/\(2<=r->σ.dp-((r:Int)-1)<σ.dp) by have:=HR.2.2.1;omega);generalize σ.dp-((r:Int)-1)=P at*
  have H2:RowKit.Hid (DAt (w1.setCell ⟨b,801,none⟩ (.int .i64 P)) b {σ with dp:=P}/\Keep (·=b) w (w1.setCell ⟨b,801,none⟩ (.int .i64 P))):=Qh ⟨hw1.sdp P,by
   obtain⟨q,hq⟩:=HR.2.2.2;rw[hq];exact Keep.setCell (bs:=(·=b)) ((Keep.refl _ w).drewN _) (p:=⟨b,801,none⟩) (Or.inl rfl) _⟩
  generalize w1.setCell ⟨b,801,none⟩ (.int .i64 P)=w2 at*
  clear c0 f0 hM hDP hMe hw1 hr20;go_cut[4,5,6]from 61 to 96 (fun s4 s5 s6 wx=>∃(j x:Nat),s5=.int .i64 (j:Int)/\s6=.int .u64 (x:Int)/\RowKit.Hid (∃D',RgI b K k r n σ P w j x σ.tr D' wx))
  case first=>
   go_wp2_with fail;go_loopg[4,5,6] (n+1) (fun gq s4 s5 s6 wx=>∃(q j x:Nat),gq+j=n+1/\s4=.int .i64 (q:Int)/\s5=.int .i64 (j:Int)/\s6=.int .u64 (x:Int)/\RowKit.Hid (q=r+j/\∃D',RgI b K k r n σ P w j x σ.tr D' wx))
   case atStart=>
    refine⟨r,0,x,by omega,rfl,rfl,rfl,rfl,σ.d,H2.1,RM.start _,fun _=>HR.2.1,HR.1.top,by omega,fun _ _ h=>absurd rfl h,fun _ h3 h1=>?_,H2.2⟩;have hx:=HR.1.one h1;have hd:=H.2.good.dig 0 H.2.good.one;have hq:=z8u HKK.2.1 HR.2.1;have e8:K=8:=(by rw[HKK.1,h3]);have hK8:=HR.2.1;rw[hx]at hK8⊢
    rw[e8]at hK8⊢
    omega
   case round=>
    obtain⟨q,j,x,hgj,rfl,rfl,rfl,HLq⟩:=hrel;have hqj:=HLq.1;obtain⟨D',HL⟩:=HLq.2;clear HLq;have hle:=H.2.le;have hr1:=HR.2.2.1;have c8:wr.cell? ⟨b,800,none⟩=some (.int .i64 (n:Int)):=(by have:=HL.at_.cnd;rw[<-H.2.nd];exact this);have HLL:=Qh HL;by_cases hrn:q<n
    ·have hrn':(q:Int)<(n:Int):=by omega
     have q8:(q:Int)<800:=(by omega);have j8:(j:Int)<800:=(by omega);have hd:=H.2.good.dig q hrn;have cq:wr.cell? ⟨b,q,none⟩=some (.int .u8 ((σ.d q:Nat):Int)):=(by have:=HL.at_.digit (i:=q) (by omega);rw[this];show some (Value.int _ ((D' q:Nat):Int))=_;rw[HL.rm.same q (by omega)]);have fj:=HL.at_.free j;have cj:=HL.at_.digit (i:=j) (by omega);obtain⟨dg,hdg⟩:∃dg,dg=x/K:=⟨_,rfl⟩;have hdq:(x:Int)/(K:Int)=(dg:Int):=(by rw[hdg];rfl);obtain⟨x1,hx1⟩:∃x1,x1=x%K:=⟨_,rfl⟩;have hA:bits BinOp.and IntKind.u64 (x:Int) M=(x1:Int):=(by rw[HM.out,hx1];exact z6S HKK.1 HKK.2.2 HL.top);have hx1K:x1<K:=(by rw[hx1];exact Nat.mod_lt _ HKK.2.1);have hdg9:dg<=9:=(by rw[hdg];exact z39 HKK.2.1 HL.top);have HF:=Qh (Qa hx1K (Qa hdg9 (Qa hdg (Qa hd (Qa hqj (Qa hrn (show j<800 by omega)))))));clear HL hrn hle hr1 hd hdg hx1 hx1K hdg9 hqj;go_wp2_with fail;rw[z2K HF.2.1];go_roundg(gk-1)
     case measure=>have:=HF.2.2.2.2;omega
     case rel=>exact⟨q+1,j+1,10*x1+(σ.d q-48),by have:=HF.2.2.2.2;omega,by first|rfl|(go_num;done),by first|rfl|(go_num;done),congrArg (Value.int .u64) (z4o HF.1 HKK.2.2 HF.2.2.2.1),⟨by have:=HF.2.2.2.2.1;omega,upd D' j (48+dg),HLL.put HKK.2.1 HF.2.2.2.2.2.2 HF.2.2.1 (by have:=HF.1;have:=HF.2.2.2.1;omega)⟩⟩
    ·have hrn':¬(q:Int)<(n:Int):=(by omega);clear HL hrn hle hr1;go_wp2_with fail;go_meet;exact⟨j,x,rfl,rfl,D',HLL.out⟩
  case rest=>
   obtain⟨j,x3,rfl,rfl,HJ⟩:=hcut;generalize wc=w3 at*
   go_upto_block 6 with fail;go_cut[5,6]from 97 to 123 (fun s5 s6 wx=>∃j:Nat,s5=.int .i64 (j:Int)/\RowKit.Hid (∃tr D',RgI b K k r n σ P w j 0 tr D' wx))
   case first=>
    go_wp2_with fail;go_loopg[5,6] (k+1) (fun gq s5 s6 wx=>∃(j x:Nat),s5=.int .i64 (j:Int)/\s6=.int .u64 (x:Int)/\RowKit.Hid ((x=0\/∃t,t<=k/\2^t∣x/\gq+t=k+1)/\∃tr D',RgI b K k r n σ P w j x tr D' wx))
    case atStart=>
     obtain⟨D',hD⟩:=HJ.out;exact⟨j,x3,rfl,rfl,Or.inr ⟨0,by omega,by simp,by omega⟩,σ.tr,D',hD⟩
    case round=>
     obtain⟨j,x,rfl,rfl,HLq⟩:=hrel;obtain⟨tr,D',HL⟩:=HLq.2;have HT:=Qh HLq.1;have HLL:=Qh HL;clear HLq;by_cases hx0:x=0
     ·subst hx0;clear HL;go_wp2_with fail;go_meet;exact⟨j,rfl,tr,D',HLL.out⟩
     ·have hx0':(0:Int)<(x:Int):=by omega
      obtain⟨dg,hdg⟩:∃dg,dg=x/K:=⟨_,rfl⟩;have hdq:(x:Int)/(K:Int)=(dg:Int):=(by rw[hdg];rfl);obtain⟨x1,hx1⟩:∃x1,x1=x%K:=⟨_,rfl⟩;have hA:bits BinOp.and IntKind.u64 (x:Int) M=(x1:Int):=(by rw[HM.out,hx1];exact z6S HKK.1 HKK.2.2 HL.top);have hx1K:x1<K:=(by rw[hx1];exact Nat.mod_lt _ HKK.2.1);have hdg9:dg<=9:=(by rw[hdg];exact z39 HKK.2.1 HL.top);have hstep:RowKit.Hid (∃g2,g2<gk/\(10*x1=0\/∃t,t<=k/\2^t∣10*x1/\g2+t=k+1)):=by
       refine Qh ?_;rcases HT.out with h|⟨t,ht,hdv,hg⟩
       ·exact absurd h hx0
       ·by_cases hk:t<k
        ·refine⟨gk-1,by omega,Or.inr ⟨t+1,by omega,?_,by omega⟩⟩;have:=z9r hk hdv;rw[<-HKK.1,<-hx1,Nat.mul_comm]at this;exact this
        ·refine⟨0,by omega,Or.inl ?_⟩;have hkt:t=k:=(by omega);subst hkt;have:=zb9 hdv;rw[<-HKK.1,<-hx1,Nat.mul_comm]at this;exact this
      have HF:=Qh (Qa hx1K (Qa hdg9 (Qa hdg hx0)));by_cases hj:j<800
      ·have j8:(j:Int)<800:=by omega
       have fj:=HL.at_.free j;have cj:=HL.at_.digit (i:=j) (by omega);have HJ8:=Qh hj;clear HL hx0 hdg hx1 hx1K hdg9 hj;go_wp2_with fail;rw[z2K HF.2.1];obtain⟨g2,hg2,hst⟩:=hstep.out;go_roundg g2
       case measure=>exact hg2
       case rel=>exact⟨j+1,10*x1,by first|rfl|(go_num;done),congrArg (Value.int .u64) (z1u HF.1 HKK.2.2),hst,tr,upd D' j (48+dg),HLL.put HKK.2.1 HJ8.out HF.2.2.1 (by have:=HF.1;omega)⟩
      ·have j8:¬(j:Int)<800:=by omega
       have f3:=HL.at_.free 803;have c3:=HL.at_.ctr;have hj0:RowKit.Hid (j≠0):=Qh (by omega);by_cases hd0:dg=0
       ·subst hd0
        clear HL hx0 hdg hx1 hx1K hdg9 hj;go_wp2_with fail;obtain⟨g2,hg2,hst⟩:=hstep.out;go_roundg g2
        case measure=>exact hg2
        case rel=>exact⟨j,10*x1,rfl,congrArg (Value.int .u64) (z1u HF.1 HKK.2.2),hst,tr,D',⟨HLL.at_,HLL.rm,fun h=>absurd h hj0.out,by have:=HF.1;omega,HLL.le,HLL.lead,fun h=>absurd h hj0.out,HLL.keep⟩⟩
       ·have hd1:(0:Int)<(dg:Int):=by omega
        clear HL hx0 hdg hx1 hx1K hdg9 hj hd0;go_wp2_with fail;obtain⟨g2,hg2,hst⟩:=hstep.out;go_roundg g2
        case measure=>exact hg2
        case rel=>exact⟨j,10*x1,rfl,congrArg (Value.int .u64) (z1u HF.1 HKK.2.2),hst,true,D',⟨HLL.at_.str true,HLL.rm,fun h=>absurd h hj0.out,by have:=HF.1;omega,HLL.le,HLL.lead,fun h=>absurd h hj0.out,Keep.setCell (bs:=(·=b)) HLL.keep (p:=⟨b,803,none⟩) (Or.inl rfl) _⟩⟩
   case rest=>
    obtain⟨j,rfl,HE⟩:=hcut;generalize wc=w4 at*
    obtain⟨tr,D',HL⟩:=HE.out;have hj1:1<=j:=Nat.pos_of_ne_zero fun e=>(by have:=HL.first e;have:=HKK.2.1;omega);have f8:=HL.at_.free 800;have c8:=HL.at_.cnd;have hok:Dc.Ok {σ with dp:=P,d:=D',tr:=tr,nd:=(j:Int)} j:=⟨⟨fun i hi=>HL.rm.dig i hi,hj1,HL.rm.lead hj1⟩,rfl,HL.le⟩;have HTr:=Qh (z5L b {σ with dp:=P,d:=D',tr:=tr,nd:=(j:Int)} j (w4.setCell ⟨b,800,none⟩ (.int .i64 (j:Int))) (HL.at_.snd _) hok);have HLL:=Qh (Qa HL hj1);clear hok HL hj1 HE;go_wp2_with fail;refine HTr.mono ?_;rintro e w5 ⟨rfl,ho⟩;have HO:=Qh ho.out;clear ho;go_wp2_with fail;go_end0;obtain⟨⟨n',h1,h2,h3⟩,hk⟩:=HO.out;refine⟨rfl,⟨_,n',h1,⟨h2,rfl,by have:=HLL.1.le;omega⟩,HDP.2.1,HDP.1,fun h3=>?_⟩,(Keep.setCell (bs:=(·=b)) HLL.1.keep (p:=⟨b,800,none⟩) (Or.inl rfl) _).trans hk⟩
    by_cases hr2:2<=r
    ·exact Or.inl (HDP.2.2 hr2)
    ·have hr1:r=1:=(by have:=HR.2.2.1;omega);have hx:=HR.1.one hr1;have hKx:=HR.2.1;have hd:=H.2.good.dig 0 H.2.good.one;have h8:2^3<=2^k:=Nat.pow_le_pow_right (by omega) h3;have e8:(2:Nat)^3=8:=(by decide);rw[<-HKK.1,e8]at h8;have hk3:k=3:=(by refine Nat.le_antisymm (Nat.le_of_not_lt fun h4=>?_) h3;have h16:2^4<=2^k:=Nat.pow_le_pow_right (by omega) h4;have e16:(2:Nat)^4=16:=(by decide);rw[<-HKK.1,e16]at h16;omega);exact Or.inr ⟨by show 56<=σ.d 0;omega,HLL.1.lead hk3 hr1 (by have:=HLL.2;omega)⟩
end Go.Proofs.YtkkecpamnnojoaaGreatDoor
namespace Go.Proofs.YtkkecpamnnojoaaGreatDoor
open Go.ChangeShapes Go.WideShapes Go.ChangeAt Go.RowKit
open Bt Dc
namespace Dc
def qb(k:Nat):Nat×List UInt8:=Go.Pinned.cheatRows.getD k (0,[])
def z40(k:Nat):ByteArray:=⟨(qb k).2.toArray⟩
def z1n(k i:Nat):Nat:=((qb k).2.getD i 0).toNat
def z2o(k:Nat):Nat:=(qb k).2.length
def z8N(k:Nat):Bool:=(List.range (z2o k)).all (fun i=>decide (48<=z1n k i/\z1n k i<=57))&&decide (dv (z1n k) (z2o k)=5^k)&&decide (z2o k+(qb k).1=k+1)&&decide (10^(z2o k-1)<=5^k)&&decide (1<=z2o k)
theorem z86:∀k:Fin 60,z8N (k.val+1)=true:=by decide+kernel
theorem z3F{k:Nat}(h1:1<=k)(h2:k<=60):Cheat k (z2o k) (qb k).1 (z1n k):=by have h:=z86 ⟨k-1,by omega⟩;simp only at h;rw[show k-1+1=k by omega]at h;unfold z8N at h;simp only[Bool.and_eq_true,decide_eq_true_eq,List.all_eq_true,List.mem_range]at h;exact⟨h.1.1.1.1,h.1.1.1.2,h.1.1.2,h.1.2,h.2,h1⟩
theorem zcu(k:Nat):(z40 k).size=z2o k:=by show(qb k).2.toArray.size=_;simp[z2o]
theorem zf6(k i:Nat)(h:i<z2o k):ch (z40 k) (i:Int)=z1n k i:=by unfold ch z1n z40;have h':i<(qb k).2.length:=h;rw[Int.toNat_natCast];show((qb k).2.toArray[i]!).toNat=_;rw[getElem!_pos _ i (by simpa using h'),List.getElem_toArray,List.getD_eq_getElem?_getD,List.getElem?_eq_getElem h'];rfl
theorem z4P{k:Nat}(h2:k<=60):z2o k<=61/\(qb k).1<=61:=by
 by_cases h1:1<=k
 ·have:=(z3F h1 h2).sum;omega
 ·have:k=0:=(by omega);subst this;decide
end Dc
def zfG(V n k L:Nat)(w:World)(e:Ending)(w':World):Prop:=(∃r:Bool,e=.returned (.bool r)/\RowKit.Hid (Less r V n k L))/\∃m,w'=w.drewN m
theorem zbI(b:Nat)(σ:DS)(n k:Nat)(w:World)(h:DAt w b σ)(ho:Dc.Ok σ n)(hk1:1<=k)(hk2:k<=60):
  Calls Tryz.prog 179 #[.slice (some ⟨b,0,none⟩) n 800,.string (z40 k)] w (zfG (dv σ.d n) n k (z2o k) w):=by
 have HC:=Qh (z3F hk1 hk2);have HCh:=Qh (zf6 k);have hL61:=(z4P hk2).1;have H:=Qh (Qa h ho);have hsz:=zcu k;generalize z40 k=S at*
 obtain⟨L,hL⟩:∃L,L=z2o k:=⟨_,rfl⟩;rw[<-hL]at hsz hL61 HC HCh;rw[<-hL];have hszi:((S.size:Nat):Int)=(L:Int):=(by omega);have HL:=Qh (Qa hL61 (Qa hk1 hk2));clear h ho hk1 hk2 hL hL61 hsz;go_in;go_wp2_with fail;go_loopg[5] L (fun gq s5 wx=>∃i:Nat,gq+i=L/\s5=.int .i64 (i:Int)/\RowKit.Hid (i<=n/\dv σ.d i=dv (z1n k) i/\∃m,wx=w.drewN m))
 case atStart=>exact⟨0,by omega,rfl,Nat.zero_le _,rfl,0,rfl⟩
 case round=>
  obtain⟨i,hgi,rfl,HR⟩:=hrel;have hL61:=HL.1;have hle:=H.2.le;have hw1:wrap64 ((i:Int)+1)=((i+1:Nat):Int):=(by unfold wrap64;omega);by_cases hi:i<L
  ·have hi':(i:Int)<(L:Int):=by omega
   by_cases hn:i<n
   ·have hn':¬((n:Nat):Int)<=(i:Int):=by omega
    have hn2:(i:Int)<(n:Int):=(by omega);have c1:wr.cell? ⟨b,i,none⟩=some (.int .u8 ((σ.d i:Nat):Int)):=(by obtain⟨q,hq⟩:=HR.2.2;rw[hq];exact H.1.digit (i:=i) (by omega));have hcc:=HCh.out i hi;have hci:((ch S (i:Int):Nat):Int)=((z1n k i:Nat):Int):=(by rw[hcc]);have HI:=Qh (Qa hi hn);have hiS:(i:Int)<((S.size:Nat):Int):=(by omega);by_cases he:σ.d i=z1n k i
    ·have hnx:RowKit.Hid (dv σ.d (i+1)=dv (z1n k) (i+1)):=Qh (by rw[xt,xt,HR.2.1,he])
     have he':((σ.d i:Nat):Int)=((z1n k i:Nat):Int):=(by omega);clear he hcc hi hn hL61 hle;go_wp2_with fail;go_quiet(fail);go_wp2_with fail;go_roundg(gk-1)
     case measure=>omega
     case rel=>
      refine⟨i+1,by omega,by first|rfl|(go_num;done),by have:=HI.out;omega,hnx.out,?_⟩;obtain⟨q,hq⟩:=HR.2.2;exact⟨q+nq,by rw[hq,World.drewN_drewN]⟩
    ·have he1:(((σ.d i:Nat):Int)==((z1n k i:Nat):Int))=false:=Qb (by omega)
     have hQ:RowKit.Hid (Less (decide (σ.d i<z1n k i)) (dv σ.d n) n k L):=Qh (by
      by_cases hlt:σ.d i<z1n k i
      ·rw[decide_eq_true hlt];exact zdr (n:=n) H.2.good.dig HC.out hn hi HR.2.1 hlt
      ·rw[decide_eq_false hlt];exact zds (n:=n) H.2.good.dig HC.out hn hi HR.2.1 (by omega))
     clear he hcc hi hn hL61 hle;go_wp2_with fail;go_quiet(fail);go_wp2_with fail;go_quiet(fail);go_wp2_with fail;go_ret;refine⟨⟨decide (σ.d i<z1n k i),by first|rfl|simp,hQ.out⟩,?_⟩;obtain⟨q,hq⟩:=HR.2.2;exact⟨_,by rw[hq,World.drewN_drewN,World.drewN_drewN]⟩
   ·have hn':((n:Nat):Int)<=(i:Int):=(by omega);have hin:i=n:=(by have:=HR.1;omega);have hQ:RowKit.Hid (Less true (dv σ.d n) n k L):=Qh (zbH H.2.good.dig HC.out (by omega) (by have:=HR.2.1;rw[hin]at this;exact this));clear hi hn hL61 hle hin;go_wp2_with fail;go_ret;exact⟨⟨true,rfl,hQ.out⟩,HR.2.2⟩
  ·have hi':¬(i:Int)<(L:Int):=(by omega);have hiL:i=L:=(by omega);have hQ:RowKit.Hid (Less false (dv σ.d n) n k L):=Qh (zbJ H.2.good.dig HC.out (by have:=HR.1;omega) (by have:=HR.2.1;rw[hiL]at this;exact this));clear hi hL61 hle hiL;go_wp2_with fail;go_ret;exact⟨⟨false,rfl,hQ.out⟩,HR.2.2⟩
end Go.Proofs.YtkkecpamnnojoaaGreatDoor
namespace Go.Proofs.YtkkecpamnnojoaaGreatDoor
open Go.ChangeShapes Go.WideShapes Go.ChangeAt Go.RowKit
open Bt Dc
def Chs(B:Nat)(w:World):Prop:=∃ad cap,w.cell? ⟨7,0,none⟩=some (.slice (some ad) 61 cap)/\7<B/\ad.block<B/\
 ∀k,1<=k->k<=60->w.cell? ⟨ad.block,ad.off+k*2,none⟩=some (.int .i64 (((qb k).1:Nat):Int))/\w.cell? ⟨ad.block,ad.off+k*2+1,none⟩=some (.string (z40 k))
theorem Chs.keep{B b:Nat}{w w':World}(h:Chs B w)(k:Keep (·=b) w w')(hb:B<=b)(hB:B<=w.heap.size):Chs B w':=by obtain⟨ad,cap,c1,h1,h2,c2⟩:=h;have hh:∀a o,a<B->w'.cell? ⟨a,o,none⟩=w.cell? ⟨a,o,none⟩:=fun a o ha=>k.cell (p:=⟨a,o,none⟩) (Nat.lt_of_lt_of_le ha hB) (by show¬a=b;omega);exact⟨ad,cap,(hh _ _ h1).trans c1,h1,h2,fun j j1 j2=>⟨(hh _ _ h2).trans (c2 j j1 j2).1,(hh _ _ h2).trans (c2 j j1 j2).2⟩⟩
def LfQ(b:Nat)(σ:DS)(w:World)(e:Ending)(w':World):Prop:=
 e=.returned (.tuple #[])/\RowKit.Hid ((∃(τ:DS) (m:Nat),DAt w' b τ/\Dc.Ok τ m/\σ.dp<=τ.dp/\τ.dp<=σ.dp+61/\(σ.dp<τ.dp\/σ.d 0<τ.d 0))/\Keep (·=b) w w')
structure LfI (b K n e:Nat) (σ:DS) (w:World) (W:Nat) (tr:Bool) (D':Nat->Nat) (wx:World):Prop where
 at_:DAt wx b {σ with d:=D',tr:=tr}
 lm:LM σ.d D' n e K W
 keep:Keep (·=b) w wx
theorem LfI.put{b K n e:Nat}{σ:DS}{w:World}{W m:Nat}{tr:Bool}{D':Nat->Nat}{wx:World}(H:LfI b K n e σ w (W+1) tr D' wx)(hW:W<800)(hm:m=K*dv σ.d n/10^(n+e-1-W)%10):
  LfI b K n e σ w W tr (upd D' W (48+m)) (wx.setCell ⟨b,W,none⟩ (.int .u8 ((48+m:Nat):Int))):=
 ⟨H.at_.sd hW,by rw[hm];exact H.lm.put,Keep.setCell (bs:=(·=b)) H.keep (p:=⟨b,W,none⟩) (Or.inl rfl) _⟩
theorem LfI.over{b K n e:Nat}{σ:DS}{w:World}{W:Nat}{tr:Bool}{D':Nat->Nat}{wx:World}(H:LfI b K n e σ w (W+1) tr D' wx)(hW:800<=W):LfI b K n e σ w W tr D' wx:=⟨H.at_,H.lm.skip hW,H.keep⟩
theorem LfI.mark{b K n e:Nat}{σ:DS}{w:World}{W:Nat}{tr:Bool}{D':Nat->Nat}{wx:World}(H:LfI b K n e σ w (W+1) tr D' wx)(hW:800<=W):LfI b K n e σ w W true D' (wx.setCell ⟨b,803,none⟩ (.bool true)):=
 ⟨H.at_.str true,H.lm.skip hW,Keep.setCell (bs:=(·=b)) H.keep (p:=⟨b,803,none⟩) (Or.inl rfl) _⟩
theorem zas{W:Nat}(h:W<=61):wrap64 (W:Int)=(W:Int):=by unfold wrap64;omega
theorem z8t{y K:Nat}(hK:K<=1152921504606846976)(hy:y<10*K):IntKind.u64.wrap ((y:Int)/10)=((y/10:Nat):Int):=by rw[IntKind.wrap_u64];omega
theorem z8q{y q K:Nat}(hK:K<=1152921504606846976)(hy:y<10*K)(hq:q=y/10):IntKind.u64.wrap ((y:Int)-IntKind.u64.wrap (10*(q:Int)))=((y%10:Nat):Int):=by simp only[IntKind.wrap_u64];omega
theorem zaJ{c x K:Nat}(hK:K<=1152921504606846976)(hc:c<K)(hx:48<=x/\x<=57):IntKind.u64.wrap ((c:Int)+IntKind.u64.wrap (IntKind.u64.wrap (IntKind.u64.wrap (x:Int)-48)*(K:Int)))=((c+K*(x-48):Nat):Int)/\c+K*(x-48)<10*K:=by
 have e1:IntKind.u64.wrap (x:Int)=(x:Int):=(by rw[IntKind.wrap_u64];omega);have e2:IntKind.u64.wrap ((x:Int)-48)=((x-48:Nat):Int):=(by rw[IntKind.wrap_u64];omega);have h9:K*(x-48)<=K*9:=Nat.mul_le_mul_left _ (by omega);have e3:((x-48:Nat):Int)*(K:Int)=((K*(x-48):Nat):Int):=(by rw[Nat.mul_comm];push_cast;rfl);rw[e1,e2,e3];generalize K*(x-48)=z at*
 have e4:IntKind.u64.wrap (z:Int)=(z:Int):=(by rw[IntKind.wrap_u64];omega);rw[e4];refine⟨?_,by omega⟩;rw[IntKind.wrap_u64];omega
theorem zbL(B b:Nat)(σ:DS)(n k:Nat)(w:World)(h:DAt w b σ)(ho:Dc.Ok σ n)(hk1:1<=k)(hk2:k<=60)(hp1:-1099511627776<=σ.dp)(hp2:σ.dp<=1099511627776)(hC:Chs B w)(hB:B<=b):
  Calls Tryz.prog 163 #[.pointer (some ⟨b,0,none⟩),.int .u64 (k:Int)] w (LfQ b σ w):=by
 obtain⟨⟨ab,ao,asp⟩,cap,g0,-,hab,gc⟩:=hC;obtain⟨g1,g2⟩:=gc k hk1 hk2;simp only at g1 g2 hab;have H:=Qh (Qa h ho);have HK:=Qh (Qa hk1 (Qa hk2 (Qa hp1 (Qa hp2 (z3F hk1 hk2)))));have HLs:=Qh (fun w h=>zbI b σ n k w h ho hk1 hk2);have hd61:=(z4P hk2).2;obtain⟨d,hd⟩:∃d,d=(qb k).1:=⟨_,rfl⟩;rw[<-hd]at g1 HK hd61;generalize z40 k=S at*
 have HD:=Qh hd61;have k0:(0:Int)<=(k:Int):=(by omega);have kn:0<k:=(by omega);have hadd:(⟨ab,ao,asp⟩:Addr).add (k*2)=⟨ab,ao+k*2,none⟩:=(by unfold Addr.add;rw[if_neg (by omega)]);have k64:(k:Int)<64:=(by omega);have k61:(k:Int)<61:=(by omega);clear h ho hk1 hk2 hp1 hp2 gc hd61 hd;go_in;go_upto_region 1 with fail;have c8:=H.1.cnd;have e8:=H.2.nd;rw[e8]at c8;have hn8:(n:Int)<=800:=(by have:=H.2.le;omega);have hn0:(0:Int)<=(n:Int):=(by omega);clear e8;go_cut[30]from 17 to 30 (fun s30 wx=>∃r:Bool,s30=.bool r/\RowKit.Hid (Less r (dv σ.d n) n k (z2o k)/\∃m,wx=w.drewN m))
 case first=>
  go_region_with(go_at_call 179;refine(HLs.out _ (H.1.drewN _)).mono ?_;rintro e w' ⟨⟨r,rfl,hr⟩,hw'⟩)
  all_goals
   go_wp2_with fail;go_meet;exact⟨r,rfl,hr.out,by obtain⟨q,hq⟩:=hw';exact⟨_,by rw[hq,World.drewN_drewN]⟩⟩
 case rest=>
  obtain⟨r,rfl,HR⟩:=hcut;generalize wc=w1 at*
  obtain⟨e,he⟩:∃e:Nat,e=if r then d-1 else d:=⟨_,rfl⟩;have hsl:=z9f HK.2.2.2.2 (zdQ H.2.good) (zcn H.2.good.dig n (Nat.le_refl _)) H.2.good.one HR.1;simp only at hsl;rw[<-he]at hsl;obtain⟨hd1,hs1,hs2⟩:=hsl;have HS1:=Qh (Qa hs1 (Qa hs2 hd1));have HE:=Qh he;have he61:RowKit.Hid (e<=61):=Qh (by have:=HD.out;rw[he];split<;>omega);clear hs1 hs2 g0 g1 g2 hadd;go_upto_if 30 with fail;go_cut[4]from 31 to 32 (fun s4 wx=>s4=.int .i64 (e:Int)/\wx=w1)
  case first=>
   cases r
   ·have e1:e=d:=he;have E1:=Qh e1;clear e1 he hd1;go_wp2_with fail;go_meet;exact⟨by rw[E1.out],rfl⟩
   ·have e1:e=d-1:=he;have w1':wrap64 ((d:Int)-1)=(e:Int):=(by have:=HD.out;unfold wrap64;omega);clear e1 he hd1;go_wp2_with fail;go_meet;exact⟨by first|rfl|(rw[w1'];done),rfl⟩
  case rest=>
   obtain⟨rfl,hwc⟩:=hcut;generalize wc=w2 at*
   subst hwc;clear he hd1 c8;obtain⟨K,hK⟩:∃K,K=2^k:=⟨_,rfl⟩;have hKi:(2:Int)^k=(K:Int):=(by rw[hK];push_cast;rfl);have hK1:1<=K:=(by rw[hK];exact Nat.two_pow_pos k);have hK60:K<=1152921504606846976:=(by rw[hK];exact Nat.le_trans (Nat.pow_le_pow_right (by omega) HK.2.1) (by decide));have hS:=HS1.out;rw[<-hK]at hS;have HKK:=Qh (Qa hK (Qa hK1 (Qa hK60 hS)));have hn1:=H.2.good.one;have hne:wrap64 ((n:Int)+(e:Int))=((n+e:Nat):Int):=(by have:=he61.out;unfold wrap64;omega);have h2:DAt w2 b σ:=(by obtain⟨q,hq⟩:=HR.2;rw[hq];exact H.1);have HI0:RowKit.Hid (LfI b K n e σ w (n+e) σ.tr σ.d w2):=Qh ⟨h2,LM.start _ _ _ _,by
    obtain⟨q,hq⟩:=HR.2;rw[hq];exact(Keep.refl _ w).drewN q⟩
   have c8:=h2.cnd;rw[H.2.nd]at c8;have HN1:=Qh hn1;have HNE:=Qh hne;clear hK hK1 hK60 hS HS1 hn1 h2 hne;go_upto_block 0 with fail;clear c8;go_cut[5,6,7]from 45 to 84 (fun s5 s6 s7 wx=>∃c:Nat,s6=.int .i64 (e:Int)/\s7=.int .u64 (c:Int)/\RowKit.Hid (c=K*dv σ.d n/10^n/\∃tr D',LfI b K n e σ w e tr D' wx))
   case first=>
    go_wp2_with fail;go_loopg[5,6,7] n (fun gq s5 s6 s7 wx=>∃c:Nat,gq<=n/\s5=.int .i64 ((gq:Int)-1)/\s6=.int .i64 ((gq+e:Nat):Int)/\s7=.int .u64 (c:Int)/\RowKit.Hid (c+K*dv σ.d gq=K*dv σ.d n/10^(n-gq)/\∃tr D',LfI b K n e σ w (gq+e) tr D' wx))
    case atStart=>exact⟨0,Nat.le_refl _,rfl,by rw[HNE.out],rfl,by rw[Nat.sub_self,Nat.pow_zero,Nat.div_one,Nat.zero_add],σ.tr,σ.d,HI0.out⟩
    case round=>
     obtain⟨c,hgn,rfl,rfl,rfl,HLq⟩:=hrel;obtain⟨tr,D',HL⟩:=HLq.2;have HC:=Qh HLq.1;have HLL:=Qh HL;clear HLq;rcases gk with _|R
     ·have hc:=HC.out
      rw[show dv σ.d 0=0 from rfl,Nat.mul_zero,Nat.add_zero,Nat.sub_zero]at hc;have HC2:=Qh hc;clear hc HL;go_wp2_with fail;go_meet;refine⟨c,?_,rfl,HC2.out,tr,D',?_⟩
      ·first|rfl|simp
      ·have:=HLL.out;rw[Nat.zero_add]at this;exact this
     ·have hle:=H.2.le
      have R0:(0:Int)<=(R:Int):=(by omega);have R8:(R:Int)<800:=(by omega);have hr1:((R+1:Nat):Int)-1=(R:Int):=(by omega);rw[hr1];have cR:wr.cell? ⟨b,R,none⟩=some (.int .u8 ((σ.d R:Nat):Int)):=(by have:=HL.at_.digit (i:=R) (by omega);rw[this];show some (Value.int _ ((D' R:Nat):Int))=_;rw[HL.lm.same R (by omega) (by omega)]);have hdR:=H.2.good.dig R (by omega);have hst:=z9R H.2.good.dig (show R+1<=n by omega) c HC.out;have hsm:=z3m H.2.good.dig hgn HKK.2.1 c HC.out;obtain⟨hyv,hyK⟩:=zaJ HKK.2.2.1 hsm hdR;obtain⟨y,hy⟩:∃y,y=c+K*(σ.d R-48):=⟨_,rfl⟩;rw[<-hy]at hst hyv hyK;have HYV:=Qh (Qa hyv (Qa hyK hst));have HGN:=Qh hgn;clear hy hst hsm hdR hle hr1 hgn hyv hyK;go_upto_region 10 with fail;rw[HYV.1];go_upto_region 13 with fail;have hq:=z8t HKK.2.2.1 HYV.2.1;obtain⟨q,hqe⟩:∃q,q=y/10:=⟨_,rfl⟩;have hm:=z8q HKK.2.2.1 HYV.2.1 hqe;obtain⟨m,hme⟩:∃m,m=y%10:=⟨_,rfl⟩;rw[<-hqe]at hq;rw[<-hme]at hm;obtain⟨W,hW⟩:∃W,W=R+e:=⟨_,rfl⟩;have hw6:wrap64 ((R:Int)+1+(e:Int)-1)=(W:Int):=(by have:=he61.out;have:=HGN.out;have:=H.2.le;unfold wrap64;omega);rw[hq,hm,hw6];have hm9:m<=9:=(by omega);have hLW:RowKit.Hid (LfI b K n e σ w (W+1) tr D' wr):=Qh (by rw[hW,show R+e+1=R+1+e by omega];exact HLL.out);have hmm:RowKit.Hid (m=K*dv σ.d n/10^(n+e-1-W)%10/\q+K*dv σ.d R=K*dv σ.d n/10^(n-R)):=Qh (by
       have h1:=HYV.2.2;have:=HGN.out;rw[<-hqe,<-hme]at h1;refine⟨?_,h1.1⟩;rw[h1.2]
       congr 3
       omega)
      have HWR:=Qh (Qa hW hm9);have W0:(0:Int)<=(W:Int):=(by omega);have hwr1:wrap64 ((R:Int)-1)=(R:Int)-1:=(by have:=HGN.out;have:=H.2.le;unfold wrap64;omega);clear hq hm hqe hme hw6 hW hm9 R0 R8 cR HL HYV;by_cases hw8:W<800
      ·have W8:(W:Int)<800:=by omega
       have fW:=hLW.out.at_.free W;have cW:=hLW.out.at_.digit (i:=W) hw8;have HW8:=Qh hw8;clear hw8;go_wp2_with fail;rw[z2K HWR.2];go_roundg R
       case measure=>omega
       case rel=>exact⟨q,by have:=HGN.out;omega,by first|rfl|(go_num;done),by rw[HWR.1],rfl,hmm.out.2,tr,upd D' W (48+m),by have:=hLW.out.put HW8.out hmm.out.1;rw[<-HWR.1];exact this⟩
      ·have W8:¬(W:Int)<800:=by omega
       have f3:=hLW.out.at_.free 803;have c3:=hLW.out.at_.ctr;have HW8:=Qh (show 800<=W by omega);clear hw8;by_cases hm0:m=0
       ·have hm0':(m:Int)=0:=by omega
        clear hm0;go_wp2_with fail;go_roundg R
        case measure=>omega
        case rel=>exact⟨q,by have:=HGN.out;omega,by first|rfl|(go_num;done),by rw[HWR.1],rfl,hmm.out.2,tr,D',by rw[<-HWR.1];exact hLW.out.over HW8.out⟩
       ·have hm0':((m:Int) != 0)=true:=by simp;omega
        have hm0b:¬(m:Int)=0:=(by omega);clear hm0;go_wp2_with fail;go_roundg R
        case measure=>omega
        case rel=>exact⟨q,by have:=HGN.out;omega,by first|rfl|(go_num;done),by rw[HWR.1],rfl,hmm.out.2,true,D',by rw[<-HWR.1];exact hLW.out.mark HW8.out⟩
   case rest=>
    obtain⟨c,rfl,rfl,HC⟩:=hcut;generalize wc=w3 at*
    clear HI0;go_upto_block 2 with fail;go_cut[6,7]from 85 to 110 (fun s6 s7 wx=>RowKit.Hid (∃tr D',LfI b K n e σ w 0 tr D' wx))
    case first=>
     go_wp2_with fail;go_loopg[6,7] e (fun gq s6 s7 wx=>∃x:Nat,gq<=e/\s6=.int .i64 (gq:Int)/\s7=.int .u64 (x:Int)/\RowKit.Hid (x=K*dv σ.d n/10^(n+e-gq)/\x<K/\∃tr D',LfI b K n e σ w gq tr D' wx))
     case atStart=>
      refine⟨c,Nat.le_refl _,rfl,rfl,?_,?_,HC.2⟩
      ·rw[show n+e-e=n by omega];exact HC.1
      ·refine z3m (R:=0) H.2.good.dig (Nat.zero_le _) HKK.2.1 c ?_;rw[show dv σ.d 0=0 from rfl,Nat.mul_zero,Nat.add_zero,Nat.sub_zero];exact HC.1
     case round=>
      obtain⟨x,hge,rfl,rfl,HLq⟩:=hrel;obtain⟨tr,D',HL⟩:=HLq.2.2;have HX:=Qh (Qa HLq.1 HLq.2.1);have HLL:=Qh HL;clear HLq HL;by_cases hx0:x=0
      ·have hg0:gk=0:=by
        have h1:=HX.1;rw[hx0]at h1;have hp:0<10^(n+e-gk):=Nat.pow_pos (by omega);have h2:K*dv σ.d n<10^(n+e-gk):=(by refine Nat.lt_of_not_le fun h=>?_;have:=(Nat.le_div_iff_mul_le (x:=1) (y:=K*dv σ.d n) hp).2 (by rw[Nat.one_mul];exact h);omega);have h3:=Nat.lt_of_le_of_lt HKK.2.2.2.2.1 h2;have h4:=(Nat.pow_lt_pow_iff_right (a:=10) (by omega)).1 h3;have:=HN1.out;omega
       subst hg0 hx0;go_wp2_with fail;go_meet;exact⟨tr,D',HLL.out⟩
      ·have hx1:(0:Int)<(x:Int):=by omega
       rcases gk with _|W
       ·exfalso;have h1:=HX.1;rw[Nat.sub_zero,Nat.div_eq_of_lt HKK.2.2.2.1]at h1;exact hx0 h1
       ·have hx10:x<10*K:=by have:=HX.2;omega
        have hq:=z8t HKK.2.2.1 hx10;obtain⟨q,hqe⟩:∃q,q=x/10:=⟨_,rfl⟩;have hm:=z8q HKK.2.2.1 hx10 hqe;obtain⟨m,hme⟩:∃m,m=x%10:=⟨_,rfl⟩;rw[<-hqe]at hq;rw[<-hme]at hm;have HGE:=Qh (Nat.le_trans (Nat.le_of_succ_le hge) he61.out);have hm9:m<=9:=(by omega);have hmm:RowKit.Hid (m=K*dv σ.d n/10^(n+e-1-W)%10/\q=K*dv σ.d n/10^(n+e-W)/\q<K/\W<=e):=Qh (by
         have h1:=HX.1;have h2:=HX.2;refine⟨?_,?_,by omega,by omega⟩
         ·rw[hme,h1,show n+e-(W+1)=n+e-1-W by omega]
         ·rw[hqe,h1,Nat.div_div_eq_div_mul,<-Nat.pow_succ,show(n+e-(W+1)).succ=n+e-W by omega])
        (have HQM:=Qh (Qa hq (Qa hm hm9));have W0:(0:Int)<=(W:Int):=(by omega);clear hq hm hqe hme hm9 hx10 hx0 hge;go_upto_region 22 with fail;try rw[HQM.1]);try rw[HQM.2.1]
        rw[zas HGE.out];by_cases hw8:W<800
        ·have W8:(W:Int)<800:=by omega
         have fW:=HLL.at_.free W;have cW:=HLL.at_.digit (i:=W) hw8;have HW8:=Qh hw8;clear hw8;go_wp2_with fail;rw[z2K HQM.2.2];go_roundg W
         case measure=>omega
         case rel=>exact⟨q,hmm.out.2.2.2,rfl,rfl,hmm.out.2.1,hmm.out.2.2.1,tr,upd D' W (48+m),HLL.put HW8.out hmm.out.1⟩
        ·have W8:¬(W:Int)<800:=by omega
         have f3:=HLL.at_.free 803;have c3:=HLL.at_.ctr;have HW8:=Qh (show 800<=W by omega);clear hw8;by_cases hm0:m=0
         ·have hm0':(m:Int)=0:=by omega
          clear hm0;go_wp2_with fail;go_roundg W
          case measure=>omega
          case rel=>exact⟨q,hmm.out.2.2.2,rfl,rfl,hmm.out.2.1,hmm.out.2.2.1,tr,D',HLL.over HW8.out⟩
         ·have hm0':((m:Int) != 0)=true:=by simp;omega
          have hm0b:¬(m:Int)=0:=(by omega);clear hm0;go_wp2_with fail;go_roundg W
          case measure=>omega
          case rel=>exact⟨q,hmm.out.2.2.2,rfl,rfl,hmm.out.2.1,hmm.out.2.2.1,true,D',HLL.mark HW8.out⟩
    case rest=>
     generalize wc=w4 at*
     obtain⟨tr,D',HL⟩:=hcut.out;have HLL:=Qh HL;have hG:=HL.lm.good H.2.good (K:=K) (by
      rw[HKK.1];exact Nat.le_trans (show 2<=2^1 by omega) (Nat.pow_le_pow_right (by omega) HK.1)) HKK.2.2.2.1 HKK.2.2.2.2.1
     have HG:=Qh hG;have c8:=HL.at_.cnd;have e8:=H.2.nd;simp only at c8;rw[e8]at c8;have f8:=HL.at_.free 800;clear hcut HL hG e8;go_upto_if 123 with fail;rw[HNE.out];obtain⟨N,hN⟩:∃N,N=n+e:=⟨_,rfl⟩;rw[<-hN];have h5:=HLL.at_.snd (N:Int);have hk5:=Keep.setCell (bs:=(·=b)) HLL.keep (p:=⟨b,800,none⟩) (Or.inl rfl) (.int .i64 (N:Int))
     have HG5:RowKit.Hid (Dc.Good D' (min 800 N)/\(e=0->σ.d 0<D' 0)):=Qh (by rw[hN];exact HG.out);generalize w4.setCell ⟨b,800,none⟩ (.int .i64 (N:Int))=w5 at*
     have H5:=Qh (Qa h5 hk5);have f8':=h5.free 800;have c8':=h5.cnd;simp only at c8';clear h5 hk5 c8 f8 hN;go_cut[]from 111 to 126 (fun wx=>RowKit.Hid (DAt wx b {σ with d:=D',tr:=tr,nd:=((min 800 N:Nat):Int)}/\Keep (·=b) w wx))
     case first=>
      by_cases h8:800<=N
      ·have h8':(800:Int)<=(N:Int):=by omega
       have hm8:RowKit.Hid (min 800 N=800):=Qh (by omega);clear h8;go_wp2_with fail;go_meet;rw[hm8.out];exact⟨H5.1.snd 800,Keep.setCell (bs:=(·=b)) H5.2 (p:=⟨b,800,none⟩) (Or.inl rfl) _⟩
      ·have h8':¬(800:Int)<=(N:Int):=(by omega);have hm8:RowKit.Hid (min 800 N=N):=Qh (by omega);clear h8;go_wp2_with fail;go_meet;rw[hm8.out];exact H5.out
     case rest=>
      have H6:=Qh hcut.out;clear hcut c8' f8';generalize wc=w6 at*
      have f9:=H6.1.free 801;have c9:=H6.1.cdp;simp only at c9;have hdp:wrap64 (σ.dp+(e:Int))=σ.dp+(e:Int):=(by have:=he61.out;have:=HK.2.2.1;have:=HK.2.2.2.1;unfold wrap64;omega);have HDP:=Qh hdp;obtain⟨P,hP⟩:∃P:Int,P=wrap64 (σ.dp+(e:Int)):=⟨_,rfl⟩;have hok:Dc.Ok {σ with d:=D',tr:=tr,nd:=((min 800 N:Nat):Int),dp:=P} (min 800 N):=⟨HG5.1,rfl,by show min 800 N<=800;omega⟩;have HTr:=Qh (z5L b {σ with d:=D',tr:=tr,nd:=((min 800 N:Nat):Int),dp:=P} (min 800 N) (w6.setCell ⟨b,801,none⟩ (.int .i64 P)) (H6.1.sdp P) hok);have HPP:=Qh (hP.trans hdp);clear hdp hok;go_upto_region 31 with fail;rw[<-hP];clear hP;go_wp2_with fail;refine HTr.mono ?_;rintro e2 w7 ⟨rfl,ho⟩;have HO:=Qh ho.out;clear ho;go_wp2_with fail;go_end0;obtain⟨⟨n',h1,h2,h3⟩,hk⟩:=HO.out;refine⟨rfl,⟨_,n',h1,⟨h2,rfl,by omega⟩,by show σ.dp<=P;rw[HPP.out];omega,by show P<=σ.dp+61;rw[HPP.out];have:=he61.out;omega,?_⟩,(Keep.setCell (bs:=(·=b)) H6.2 (p:=⟨b,801,none⟩) (Or.inl rfl) _).trans hk⟩
      by_cases h0:e=0
      ·exact Or.inr (HG5.2 h0)
      ·left;show σ.dp<P;rw[HPP.out];omega
end Go.Proofs.YtkkecpamnnojoaaGreatDoor
namespace Go.Proofs.YtkkecpamnnojoaaGreatDoor
open Go.ChangeShapes Go.WideShapes Go.ChangeAt Go.RowKit
open Bt
theorem z5h(c:Nat)(w:World)(hc:c<256):Calls Tryz.prog 151 #[.int .u8 (c:Int)] w fun e w'=>e=.returned (.int .u8 ((Us.yh c:Nat):Int))/\w=w':=(z9P c w hc).mono fun e w' h=>⟨h.1,h.2.symm⟩
def zeo(w:World)(e:Ending)(w':World):Prop:=(∃b:Bool,e=.returned (.bool b))/\∃n,w'=w.drewN n
theorem z93(s:ByteArray)(w:World)(hs:s.size<=1073741824):Calls Tryz.prog 168 #[.string s] w (zeo w):=by
  have HS:=Qh hs;have HL:=Qh (fun(c:Nat) (w:World) (h:c<256)=>z5h c w h);clear hs;go_in;go_upto_region 3 with fail;go_cut[18]from 6 to 18 (fun s18 wx=>∃b:Bool,s18=.bool b/\RowKit.Hid ((b=true->1<=s.size)/\∃n,wx=w.drewN n))
  case first=>
    by_cases h1:1<=s.size
    · have h1':(1:Int)<=((s.size:Nat):Int):=by omega
      have h1n:0<s.size:=(by omega);have H1:=Qh h1;clear h1;go_wp2_with fail
      all_goals
        go_meet;exact⟨_,rfl,⟨fun _=>H1.out,0,rfl⟩⟩
    · have h1':¬(1:Int)<=((s.size:Nat):Int):=by omega
      clear h1;go_wp2_with fail
      all_goals
        go_meet;exact⟨_,rfl,⟨(fun h=>by cases h),0,rfl⟩⟩
  case rest=>
    obtain⟨b,rfl,HB⟩:=hcut;generalize wc=w1 at*
    go_upto_if 18 with fail;go_cut[0]from 19 to 20 (fun s0 wx=>∃t:ByteArray,s0=.string t/\RowKit.Hid (t.size<=1073741824/\∃n,wx=w.drewN n))
    case first=>
      cases b
      · go_wp2_with fail
        go_meet;exact⟨_,rfl,⟨HS.out,HB.2⟩⟩
      · have h1:=HB.1 rfl
        have h1':(1:Int)<=((s.size:Nat):Int):=(by omega);go_wp2_with fail;go_meet;exact⟨_,rfl,⟨by rw[z3v s h1];have:=HS.out;omega,HB.2⟩⟩
    case rest=>
      obtain⟨t,rfl,HT⟩:=hcut;generalize wc=w2 at*
      clear HB;go_upto_region 6 with fail;go_cut[46]from 21 to 46 (fun s46 wx=>∃b:Bool,s46=.bool b/\RowKit.Hid ((b=true->2<=t.size)/\∃n,wx=w.drewN n))
      case first=>
        by_cases h1:2<=t.size
        · have h1':(2:Int)<=((t.size:Nat):Int):=by omega
          have h1n:0<t.size:=(by omega);have h2n:1<t.size:=(by omega);have h2':(1:Int)<((t.size:Nat):Int):=(by omega);have H1:=Qh h1;clear h1;go_wp2_with(go_at_call 151;refine(HL.out _ _ (yU _ _)).mono ?_;rintro e w' ⟨rfl,rfl⟩)
          all_goals
            go_meet;exact⟨_,rfl,⟨fun _=>H1.out,HT.2⟩⟩
        · have h1':¬(2:Int)<=((t.size:Nat):Int):=by omega
          clear h1;go_wp2_with fail
          all_goals
            go_meet;exact⟨_,rfl,⟨(fun h=>by cases h),HT.2⟩⟩
      case rest=>
        obtain⟨b2,rfl,HB⟩:=hcut;generalize wc=w3 at*
        go_upto_if 46 with fail;go_cut[3,4,5]from 47 to 50 (fun s3 s4 s5 wx=>∃(z:Int) (k:Nat) (h:Bool),s3=.int .i32 z/\s4=.int .i64 (k:Int)/\s5=.bool h/\RowKit.Hid (k<=t.size/\∃n,wx=w.drewN n))
        case first=>
          cases b2
          · go_wp2_with fail
            go_meet;exact⟨94,0,false,rfl,rfl,rfl,⟨Nat.zero_le _,HB.2⟩⟩
          · have h1:=HB.1 rfl
            have h2n:1<t.size:=(by omega);have h2':(1:Int)<((t.size:Nat):Int):=(by omega);have H1:=Qh h1;clear h1;go_wp2_with(go_at_call 151;refine(HL.out _ _ (yU _ _)).mono ?_;rintro e w' ⟨rfl,rfl⟩)
            all_goals
              go_meet;exact⟨48,2,_,rfl,rfl,rfl,⟨H1.out,HB.2⟩⟩
        case rest=>
          obtain⟨z,k,hx,rfl,rfl,rfl,HK⟩:=hcut;generalize wc=w4 at*
          clear HB;go_wp2_with fail;go_loopg[3,4] (t.size-k) (fun gq s3 s4 wx=>∃(z:Int) (j:Nat),s3=.int .i32 z/\s4=.int .i64 (j:Int)/\gq+j=t.size/\RowKit.Hid (∃n,wx=w.drewN n))
          case atStart=>exact⟨z,k,rfl,rfl,by have:=HK.1;omega,HK.2⟩
          case round=>
            obtain⟨z,j,rfl,rfl,hgj,HR⟩:=hrel;have htl:=HT.1;by_cases hj:j<t.size
            · have hj':(j:Int)<((t.size:Nat):Int):=by omega
              have hw1:wrap64 ((j:Int)+1)=((j+1:Nat):Int):=(by unfold wrap64;omega);have HJ:=Qh hj;clear htl;cases hx
              · go_wp2_with fail
                all_goals first
                  |(go_ret;exact⟨⟨_,rfl⟩,HR.out⟩)
                  |(
                     go_roundg(gk-1)
                     case measure=>omega
                     case rel=>exact⟨_,j+1,rfl,by first|rfl|rw[hw1],by omega,HR.out⟩)
              · go_wp2_with(go_at_call 151;refine(HL.out _ _ (yU _ _)).mono ?_;rintro e w' ⟨rfl,rfl⟩)
                all_goals first
                  |(go_ret;exact⟨⟨_,rfl⟩,HR.out⟩)
                  |(
                     go_roundg(gk-1)
                     case measure=>omega
                     case rel=>exact⟨_,j+1,rfl,by first|rfl|rw[hw1],by omega,HR.out⟩)
            · have hj':¬(j:Int)<((t.size:Nat):Int):=by omega
              clear htl;go_wp2_with fail;go_ret;exact⟨⟨_,rfl⟩,HR.out⟩
end Go.Proofs.YtkkecpamnnojoaaGreatDoor
namespace Go.Proofs.YtkkecpamnnojoaaGreatDoor
open Go.ChangeShapes Go.WideShapes Go.ChangeAt Go.RowKit
open Bt Dc
theorem z60(b:Nat)(σ:DS)(n:Nat)(z:Int)(w:World)(h:DAt w b σ)(hn:σ.nd=(n:Int))(hle:n<=800)(hz:-1099511627776<=z/\z<=1099511627776):
  Calls Tryz.prog 165 #[.pointer (some ⟨b,0,none⟩),.int .i64 z] w (zeo w):=by
 have c8:=h.cnd;rw[hn]at c8;have ct:=h.ctr;by_cases h0:z<0
 ·go_in;clear hz hle h;go_wp2_with fail;go_ret;exact⟨⟨_,rfl⟩,0,rfl⟩
 ·by_cases h1:(n:Int)<=z
  ·go_in;clear hz hle h;go_wp2_with fail;go_ret;exact⟨⟨_,rfl⟩,0,rfl⟩
  ·obtain⟨i,rfl⟩:∃i:Nat,z=(i:Int):=⟨z.toNat,by omega⟩
   have ci:=h.digit (i:=i) (by omega);have i8:(i:Int)<800:=(by omega);have hw1:wrap64 ((i:Int)+1)=(i:Int)+1:=(by unfold wrap64;omega);have HPrev:RowKit.Hid (0<i->∃j:Nat,i=j+1/\w.cell? ⟨b,j,none⟩=some (.int .u8 ((σ.d j:Nat):Int))/\(j:Int)<800):=Qh fun h0=>⟨i-1,by omega,h.digit (i:=i-1) (by omega),by omega⟩;have H:=Qh (Qa h (Qa hz hle));clear hz hle h;rcases i with _|j
   ·go_in;go_wp2_with fail;all_goals(go_ret;exact⟨⟨_,rfl⟩,0,rfl⟩)
   ·obtain⟨j',hj,cj,j8⟩:=HPrev.out (by omega);obtain rfl:j=j':=(by omega);have hwj:wrap64 (((j+1:Nat):Int)-1)=(j:Int):=(by unfold wrap64;omega);clear hj HPrev hw1;go_in;go_wp2_with fail;all_goals(go_ret;exact⟨⟨_,rfl⟩,0,rfl⟩)
def zfD(w:World)(e:Ending)(w':World):Prop:=(∃z:Int,e=.returned (.int .u64 z))/\∃n,w'=w.drewN n
theorem z91(b:Nat)(σ:DS)(n:Nat)(w:World)(h:DAt w b σ)(hn:σ.nd=(n:Int))(hle:n<=800)(hz:-1099511627776<=σ.dp/\σ.dp<=1099511627776):
  Calls Tryz.prog 197 #[.pointer (some ⟨b,0,none⟩)] w (zfD w):=by
 have H:=Qh (Qa h (Qa hn (Qa hle hz)));have HRd:=Qh (fun w h=>z60 b σ n σ.dp w h hn hle hz);have HC:RowKit.Hid (∀m,(w.drewN m).cell? ⟨b,800,none⟩=some (.int .i64 (n:Int))/\(w.drewN m).cell? ⟨b,801,none⟩=some (.int .i64 σ.dp)):=Qh fun m=>⟨by have:=h.cnd;rw[hn]at this;exact this,h.cdp⟩;obtain⟨P,hP⟩:∃P,P=σ.dp:=⟨_,rfl⟩;rw[<-hP]at HC HRd;have HP:=Qh (show P<=1099511627776 by omega);have c1:=(HC.out 0).2;have c0:w.cell? ⟨b,801,none⟩=some (.int .i64 P):=c1;clear h hn hle hz hP c1;by_cases hbig:20<P
 ·go_in;go_wp2_with fail;go_ret;exact⟨⟨_,rfl⟩,0,rfl⟩
 ·have hbig':¬20<P:=hbig
  have HB:=Qh hbig;clear hbig;go_in;go_upto_block 0 with fail;go_cut[3,4]from 10 to 36 (fun s3 s4 wx=>∃(i:Nat) (z:Int),s3=.int .i64 (i:Int)/\s4=.int .u64 z/\RowKit.Hid (i<=20/\∃m,wx=w.drewN m))
  case first=>
   go_wp2_with fail;go_loopg[3,4] 20 (fun gq s3 s4 wx=>∃(i:Nat) (z:Int),gq+i=20/\s3=.int .i64 (i:Int)/\s4=.int .u64 z/\RowKit.Hid (∃m,wx=w.drewN m))
   case atStart=>exact⟨0,0,by omega,rfl,rfl,0,rfl⟩
   case round=>
    obtain⟨i,z,hgi,rfl,rfl,HR⟩:=hrel;have hw1:wrap64 ((i:Int)+1)=((i+1:Nat):Int):=(by unfold wrap64;omega);have q8:wr.cell? ⟨b,800,none⟩=some (.int .i64 (n:Int)):=(by obtain⟨m,hm⟩:=HR.out;rw[hm];exact(HC.out m).1);have q9:wr.cell? ⟨b,801,none⟩=some (.int .i64 P):=(by obtain⟨m,hm⟩:=HR.out;rw[hm];exact(HC.out m).2);by_cases hi:(i:Int)<P/\i<n
    ·have k1:(i:Int)<P:=hi.1
     have k2:(i:Int)<(n:Int):=(by omega);have hiB:RowKit.Hid (i<20):=Qh (by have:=HB.out;omega);have k3:(i:Int)<800:=(by have:=H.2.2.1;omega);have ci:wr.cell? ⟨b,i,none⟩=some (.int .u8 ((σ.d i:Nat):Int)):=(by obtain⟨m,hm⟩:=HR.out;rw[hm];exact H.1.digit (i:=i) (by omega));clear hi;go_wp2_with fail;go_roundg(gk-1)
     case measure=>have:=hiB.out;omega
     case rel=>exact⟨i+1,_,by have:=hiB.out;omega,by first|rfl|(go_num;done),rfl,HR.out⟩
    ·by_cases k1:(i:Int)<P
     ·have k2:¬(i:Int)<(n:Int):=(by omega);have hiB:RowKit.Hid (i<=20):=Qh (by have:=HB.out;omega);clear hi;go_wp2_with fail;go_meet;exact⟨i,z,rfl,rfl,hiB.out,HR.out⟩
     ·have hiB:RowKit.Hid (i<=20):=Qh (by omega);clear hi;go_wp2_with fail;go_meet;exact⟨i,z,rfl,rfl,hiB.out,HR.out⟩
  case rest=>
   obtain⟨i,z,rfl,rfl,HI⟩:=hcut;generalize wc=w1 at*
   go_wp2_with fail;go_loopg[3,4] (20-i) (fun gq s3 s4 wx=>∃(i:Nat) (z:Int),gq+i=20/\s3=.int .i64 (i:Int)/\s4=.int .u64 z/\RowKit.Hid (∃m,wx=w.drewN m))
   case atStart=>exact⟨i,z,by have:=HI.1;omega,rfl,rfl,HI.2⟩
   case round=>
    obtain⟨j,y,hgi,rfl,rfl,HR⟩:=hrel;have hw1:wrap64 ((j:Int)+1)=((j+1:Nat):Int):=(by unfold wrap64;omega);have q9:wr.cell? ⟨b,801,none⟩=some (.int .i64 P):=(by obtain⟨m,hm⟩:=HR.out;rw[hm];exact(HC.out m).2);by_cases k1:(j:Int)<P
    ·have hiB:RowKit.Hid (j<20):=Qh (by have:=HB.out;omega)
     go_wp2_with fail;go_roundg(gk-1)
     case measure=>have:=hiB.out;omega
     case rel=>exact⟨j+1,_,by have:=hiB.out;omega,by first|rfl|(go_num;done),rfl,HR.out⟩
    ·have HRR:=Qh (HRd.out wr (by obtain⟨m,hm⟩:=HR.out;rw[hm];exact H.1))
     go_wp2_with fail;refine HRR.mono ?_;rintro e w2 ⟨⟨r,rfl⟩,hw2⟩;have HW2:=Qh hw2;clear hw2;have hfin:RowKit.Hid (∃m,w2=w.drewN m):=Qh (by obtain⟨m,hm⟩:=HR.out;obtain⟨q,hq⟩:=HW2.out;exact⟨m+q,by rw[hq,hm,World.drewN_drewN]⟩);cases r
     ·go_wp2_with fail;go_ret;exact⟨⟨_,rfl⟩,hfin.out⟩
     ·go_wp2_with fail;go_ret;exact⟨⟨_,rfl⟩,hfin.out⟩
def RsQ(b k:Nat)(σ:DS)(w:World)(e:Ending)(w':World):Prop:=
 e=.returned (.tuple #[])/\RowKit.Hid ((∃(τ:DS) (m:Nat),DAt w' b τ/\Dc.Ok τ m/\σ.dp-20*(k:Int)<=τ.dp/\τ.dp<=σ.dp)/\Keep (·=b) w w')
theorem z2V(b:Nat)(σ:DS)(n k:Nat)(w:World)(h:DAt w b σ)(ho:Dc.Ok σ n)(hk1:1<=k)(hk2:k<=60)(hp:-10995116277<=σ.dp/\σ.dp<=10995116277):
  Calls Tryz.prog 134 #[.pointer (some ⟨b,0,none⟩),.int .i64 (-(k:Int))] w (RgQ b k σ n w):=by
 have HR:=Qh (z03 b σ n k w h ho hk1 hk2 (by omega) (by omega));have c8:=h.cnd;rw[ho.nd]at c8;have n0:((n:Int)==0)=false:=(by rw[beq_eq_false_iff_ne];have:=ho.good.one;omega);have k1:¬0< -(k:Int):=(by omega);have k2:-(k:Int)<0:=(by omega);have k3:¬-(k:Int)< -60:=(by omega);have kz:(0:Int)<(k:Int):=(by omega);have k4:¬(60:Int)<(k:Int):=(by omega);have hww:IntKind.u64.wrap (k:Int)=(k:Int):=(by rw[IntKind.wrap_u64];omega);clear h ho hk1 hk2 hp;go_in;go_wp2_with fail;go_loopg[1] 0 (fun gq s1 wx=>s1=.int .i64 (-(k:Int))/\wx=w)
 case atStart=>exact⟨rfl,rfl⟩
 case round=>
  obtain⟨rfl,hwr⟩:=hrel;subst hwr;go_wp2_with fail;refine HR.mono ?_;rintro e w1 ⟨rfl,hq⟩;have HQ:=Qh hq.out;clear hq;go_wp2_with fail;go_end0;exact⟨rfl,HQ.out⟩
theorem z1b(B b:Nat)(σ:DS)(n k:Nat)(w:World)(h:DAt w b σ)(ho:Dc.Ok σ n)(hk1:1<=k)(hk2:k<=60)(hp:-10995116277<=σ.dp/\σ.dp<=10995116277)(hC:Chs B w)(hB:B<=b):
  Calls Tryz.prog 134 #[.pointer (some ⟨b,0,none⟩),.int .i64 (k:Int)] w (LfQ b σ w):=by
 have HR:=Qh (zbL B b σ n k w h ho hk1 hk2 (by omega) (by omega) hC hB);have c8:=h.cnd;rw[ho.nd]at c8;have n0:((n:Int)==0)=false:=(by rw[beq_eq_false_iff_ne];have:=ho.good.one;omega);have kz:(0:Int)<(k:Int):=(by omega);have k4:¬(60:Int)<(k:Int):=(by omega);have hww:IntKind.u64.wrap (k:Int)=(k:Int):=(by rw[IntKind.wrap_u64];omega);clear h ho hk1 hk2 hp hC;go_in;go_wp2_with fail;go_loopg[1] 0 (fun gq s1 wx=>s1=.int .i64 (k:Int)/\wx=w)
 case atStart=>exact⟨rfl,rfl⟩
 case round=>
  obtain⟨rfl,hwr⟩:=hrel;subst hwr;go_wp2_with fail;refine HR.mono ?_;rintro e w1 ⟨rfl,hq⟩;have HQ:=Qh hq.out;clear hq;go_wp2_with fail;go_end0;exact⟨rfl,HQ.out⟩
theorem z7k(b:Nat)(σ:DS)(n k:Nat)(w:World)(h:DAt w b σ)(ho:Dc.Ok σ n)(hk1:1<=k)(hk2:k<=1000000)(hp:-10995116277<=σ.dp/\σ.dp<=10995116277):
  Calls Tryz.prog 134 #[.pointer (some ⟨b,0,none⟩),.int .i64 (-(k:Int))] w (RsQ b k σ w):=by
 have H:=Qh (Qa h (Qa ho (Qa hk1 (Qa hk2 hp))));have c8:=h.cnd;rw[ho.nd]at c8;have n0:((n:Int)==0)=false:=(by rw[beq_eq_false_iff_ne];have:=ho.good.one;omega);have k1:¬0< -(k:Int):=(by omega);have k2:-(k:Int)<0:=(by omega);have kz:(0:Int)<(k:Int):=(by omega);clear h ho hk1 hk2 hp;go_in;go_wp2_with fail;go_loopg[1] k (fun gq s1 wx=>s1=.int .i64 (-(gq:Int))/\RowKit.Hid (1<=gq/\gq<=k/\∃(τ:DS) (m:Nat),DAt wx b τ/\Dc.Ok τ m/\σ.dp-20*((k:Int)-gq)<=τ.dp/\τ.dp<=σ.dp/\Keep (·=b) w wx))
 case atStart=>exact⟨rfl,H.2.2.1,Nat.le_refl _,σ,n,H.1,H.2.1,by omega,Int.le_refl _,Keep.refl _ _⟩
 case round=>
  obtain⟨rfl,HQ⟩:=hrel;obtain⟨τ,m,t1,t2,t3,t4,t5⟩:=HQ.2.2;have hg:=HQ.out;have hkk:=H.2.2.2;by_cases hq:60<gk
  ·have HR:=Qh (z03 b τ m 60 wr t1 t2 (by omega) (by omega) (by omega) (by omega))
   have q1:-(gk:Int)< -60:=(by omega);have q2:(60:Int)<(gk:Int):=(by omega);have hw1:wrap64 (-(gk:Int)+60)= -((gk-60:Nat):Int):=(by unfold wrap64;omega);have HT:=Qh (Qa t3 (Qa t4 (Qa t5 (Qa hq (Qa hg.2.1 hkk)))));clear t1 t2 t3 t4 t5 hg hkk hq;go_wp2_with fail;refine HR.mono ?_;rintro e w1 ⟨rfl,hq⟩;have HQ1:=Qh hq.out;clear hq;go_wp2_with fail;go_roundg(gk-60)
   case measure=>have:=HT.2.2.2.1;omega
   case rel=>
    obtain⟨⟨τ',m',u1,u2,u3,u4,-⟩,uk⟩:=HQ1.out;have h1:=HT.out;refine⟨by first|rfl|(rw[hw1];done),by omega,by omega,τ',m',u1,u2,by omega,by omega,h1.2.2.1.trans uk⟩
  ·have q1:¬-(gk:Int)< -60:=(by omega);have q2:¬(60:Int)<(gk:Int):=(by omega);have HR:=Qh (z03 b τ m gk wr t1 t2 hg.1 (by omega) (by omega) (by omega));have hww:IntKind.u64.wrap (gk:Int)=(gk:Int):=(by rw[IntKind.wrap_u64];omega);have HT:=Qh (Qa t3 (Qa t4 (Qa t5 hg)));clear t1 t2 t3 t4 t5 hg hkk hq;go_wp2_with fail;refine HR.mono ?_;rintro e w1 ⟨rfl,hq⟩;have HQ1:=Qh hq.out;clear hq;go_wp2_with fail;go_end0;obtain⟨⟨τ',m',u1,u2,u3,u4,-⟩,uk⟩:=HQ1.out;have h1:=HT.out;exact⟨rfl,⟨τ',m',u1,u2,by omega,by omega⟩,h1.2.2.1.trans uk⟩
end Go.Proofs.YtkkecpamnnojoaaGreatDoor
