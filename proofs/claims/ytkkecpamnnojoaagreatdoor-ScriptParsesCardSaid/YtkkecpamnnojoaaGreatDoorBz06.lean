/- A part of the proof of ScriptParses: nothing is assumed. By an AI agent. -/
import Derived.Test.YtkkecpamnnojoaaGreatDoorBz05
set_option linter.unusedVariables false
set_option linter.unusedSimpArgs false
set_option maxRecDepth 100000
set_option maxHeartbeats 32000000
namespace Go
def Exit.two(l1 l2:Nat)(J1 J2:Act->World->Prop)(Q:Exit->Act->World->Prop):Exit->Act->World->Prop
 | .goto l,a,w=>(l=l1/\J1 a w)\/(l=l2/\J2 a w)
 |e,a,w=>Q e a w
section
variable {P:Program} {a:Act} {w:World} {Q:Exit -> Act -> World -> Prop}
@[go_sem] theorem Exit.two_normal {l1 l2:Nat} {J1 J2:Act->World->Prop}:Exit.two l1 l2 J1 J2 Q .normal a w=Q .normal a w:=rfl
@[go_sem] theorem Exit.two_exit {l1 l2:Nat} {J1 J2:Act->World->Prop} (id:Nat):Exit.two l1 l2 J1 J2 Q (.exit id) a w=Q (.exit id) a w:=rfl
@[go_sem] theorem Exit.two_ret {l1 l2:Nat} {J1 J2:Act->World->Prop}:Exit.two l1 l2 J1 J2 Q .ret a w=Q .ret a w:=rfl
@[go_sem] theorem Exit.two_panic {l1 l2:Nat} {J1 J2:Act->World->Prop} (ch:List PanicEntry):Exit.two l1 l2 J1 J2 Q (.panic ch) a w=Q (.panic ch) a w:=rfl
theorem xl{c r1 r2:Code}(l1 l2:Nat)(h1:findLabel c l1=some r1)(h2:findLabel c l2=some r2)
  (first:c.wp P (Exit.two l1 l2 (fun a w=>r1.wp P (Exit.two l2 l2 (fun a w=>r2.wp P (Exit.noGoto Q) a w) (fun a w=>r2.wp P (Exit.noGoto Q) a w) Q) a w) (fun a w=>r2.wp P (Exit.noGoto Q) a w) Q) a w):(Code.scope c).wp P Q a w:=by
 intro b k cs;have hg1:gotoIn l1 (.inScope c::k)=some (.code r1:: .inScope c::k):=(by simp[gotoIn,h1]);have hg2:gotoIn l2 (.inScope c::k)=some (.code r2:: .inScope c::k):=(by simp[gotoIn,h2]);have two:∀a w,r2.wp P (Exit.noGoto Q) a w->∃e a' w',Q e a' w'/\Arrives P (lone (b.at a (.code r2:: .inScope c::k)) cs w) b k cs e a' w':=by
  intro a w h;obtain⟨e,a₁,w₁,hq,harr⟩:=h b (.inScope c::k) cs;cases e with
  |normal=>exact⟨.normal,a₁,w₁,hq,Steps.trans harr (.one step_inScope)⟩
  |exit id=>exact⟨.exit id,a₁,w₁,hq,fun k' hk=>harr k' (by simp[exitTo,hk])⟩
  |goto l'=>exact hq.elim
  |ret=>exact⟨_,a₁,w₁,hq,harr⟩
  |panic ch=>exact⟨_,a₁,w₁,hq,harr⟩
  |outgrown=>exact⟨_,a₁,w₁,hq,harr⟩
 have one:∀a w,r1.wp P (Exit.two l2 l2 (fun a w=>r2.wp P (Exit.noGoto Q) a w) (fun a w=>r2.wp P (Exit.noGoto Q) a w) Q) a w->∃e a' w',Q e a' w'/\Arrives P (lone (b.at a (.code r1:: .inScope c::k)) cs w) b k cs e a' w':=by
  intro a w h;obtain⟨e,a₁,w₁,hq,harr⟩:=h b (.inScope c::k) cs;cases e with
  |normal=>exact⟨.normal,a₁,w₁,hq,Steps.trans harr (.one step_inScope)⟩
  |exit id=>exact⟨.exit id,a₁,w₁,hq,fun k' hk=>harr k' (by simp[exitTo,hk])⟩
  |goto l'=>
   rcases hq with⟨rfl,hJ⟩|⟨rfl,hJ⟩
   ·obtain⟨e₂,a₂,w₂,hq₂,harr₂⟩:=two a₁ w₁ hJ;exact⟨e₂,a₂,w₂,hq₂,.of_steps (harr _ hg2) harr₂⟩
   ·obtain⟨e₂,a₂,w₂,hq₂,harr₂⟩:=two a₁ w₁ hJ;exact⟨e₂,a₂,w₂,hq₂,.of_steps (harr _ hg2) harr₂⟩
  |ret=>exact⟨_,a₁,w₁,hq,harr⟩
  |panic ch=>exact⟨_,a₁,w₁,hq,harr⟩
  |outgrown=>exact⟨_,a₁,w₁,hq,harr⟩
 (obtain⟨e,a₁,w₁,hq,harr⟩:=first b (.inScope c::k) cs);cases e with
 |normal=>exact⟨.normal,a₁,w₁,hq,.head step_scope (Steps.trans harr (.one step_inScope))⟩
 |exit id=>exact⟨.exit id,a₁,w₁,hq,fun k' hk=>.head step_scope (harr k' (by simp[exitTo,hk]))⟩
 |goto l'=>
  rcases hq with⟨rfl,hJ⟩|⟨rfl,hJ⟩
  ·obtain⟨e₂,a₂,w₂,hq₂,harr₂⟩:=one a₁ w₁ hJ;exact⟨e₂,a₂,w₂,hq₂,.of_steps (.head step_scope (harr _ hg1)) harr₂⟩
  ·obtain⟨e₂,a₂,w₂,hq₂,harr₂⟩:=two a₁ w₁ hJ;exact⟨e₂,a₂,w₂,hq₂,.of_steps (.head step_scope (harr _ hg2)) harr₂⟩
 |ret=>exact⟨_,a₁,w₁,hq,.of_steps (.one step_scope) harr⟩
 |panic ch=>exact⟨_,a₁,w₁,hq,.of_steps (.one step_scope) harr⟩
 |outgrown=>exact⟨_,a₁,w₁,hq,.of_steps (.one step_scope) harr⟩
end
end Go
namespace Go.Proofs.YtkkecpamnnojoaaGreatDoor
open Go.ChangeShapes Go.WideShapes Go.ChangeAt Go.RowKit
open Bt Dc
def pw(i:Nat):Nat:=[1,3,6,9,13,16,19,23,26].getD i 0
def Pws(B:Nat)(w:World):Prop:=(∃ad cap,w.cell? ⟨13,0,none⟩=some (.slice (some ad) 9 cap)/\13<B/\ad.block<B/\∀i,i<9->w.cell? (ad.add i)=some (.int .i64 ((pw i:Nat):Int)))/\
 9<B/\w.cell? ⟨9,0,none⟩=some (.int .u64 52)/\w.cell? ⟨9,1,none⟩=some (.int .u64 11)/\w.cell? ⟨9,2,none⟩=some (.int .i64 (-1023))
theorem Pws.at_{B b:Nat}{w w':World}(h:Pws B w)(k:Keep (·=b) w w')(hb:B<=b)(hB:B<=w.heap.size):Pws B w':=by obtain⟨⟨ad,cap,c1,h1,h2,c2⟩,h3,i0,i1,i2⟩:=h;have hh:∀p:Addr,p.block<B->w'.cell? p=w.cell? p:=fun p ha=>k.cell (Nat.lt_of_lt_of_le ha hB) (by show¬p.block=b;omega);refine⟨⟨ad,cap,(hh _ h1).trans c1,h1,h2,fun i hi=>(hh _ ?_).trans (c2 i hi)⟩,h3,(hh _ h3).trans i0,(hh _ h3).trans i1,(hh _ h3).trans i2⟩;have hbk:(ad.add i).block=ad.block:=(by unfold Addr.add;split<;>rfl);rw[hbk];exact h2
def FbQ(b:Nat)(w:World)(e:Ending)(w':World):Prop:=(∃(z:Int) (o:Bool),e=.returned (.tuple #[.int .u64 z,.bool o])/\0<=z/\z<18446744073709551616)/\Keep (·=b) w w'
theorem zd2{i:Nat}(h1:1<=i)(h2:i<9):3<=pw i/\pw i<=27:=by have:∀j:Fin 9,1<=j.val->3<=pw j.val/\pw j.val<=27:=(by decide);exact this ⟨i,h2⟩ h1
theorem zdk{N:Nat}(h:N<=27):wrap64 (-(N:Int))= -(N:Int):=by unfold wrap64;omega
theorem zcR{N:Nat}{E:Int}(h:N<=27)(h1:0<=E)(h2:E<=1000000):wrap64 (E+(N:Int))=E+(N:Int):=by unfold wrap64;omega
theorem zcU{N:Nat}{E:Int}(h:N<=27)(h1:-1000000<=E)(h2:E<=1000000):wrap64 (E-(N:Int))=E-(N:Int):=by unfold wrap64;omega
theorem zeC{i:Nat}(h2:i<9):1<=pw i/\pw i<=27:=by have:∀j:Fin 9,1<=pw j.val/\pw j.val<=27:=(by decide);exact this ⟨i,h2⟩
theorem z1K(x y:Int):0<=bits BinOp.or IntKind.u64 x y/\bits BinOp.or IntKind.u64 x y<18446744073709551616:=by show 0<=IntKind.u64.wrap _/\IntKind.u64.wrap _<_;rw[IntKind.wrap_u64];omega
theorem qa{b:Nat}{w w':World}{x y:Int}{o:Bool}(h:Keep (·=b) w w'):FbQ b w (.returned (.tuple #[.int .u64 (bits BinOp.or IntKind.u64 x y),.bool o])) w':=⟨⟨_,o,rfl,(z1K x y).1,(z1K x y).2⟩,h⟩
theorem z3W(B b:Nat)(σ:DS)(n:Nat)(w:World)(h:DAt w b σ)(hn:σ.nd=(n:Int))(ho:n=0\/Dc.Ok σ n)(hC:Chs B w)(hP:Pws B w)(hB:B<=b)(hBw:B<=w.heap.size):
  Calls Tryz.prog 189 #[.pointer (some ⟨b,0,none⟩),.pointer (some ⟨9,0,none⟩)] w (FbQ b w):=by
 have c8:=h.cnd;rw[hn]at c8;have cn:=h.cng;have cd:=h.cdp;obtain⟨i0,i1,i2⟩:=hP.2.2;by_cases h0:n=0
 ·have n0:(n:Int)=0:=by omega
  have HKp:RowKit.Hid (Keep (·=b) w w):=Qh (Keep.refl _ w)
  clear ho hC hP hB hBw h0 h cd hn;go_in;go_wp2_with fail;refine xl 1 0 rfl rfl ?_;go_wp2_with fail;go_step3;refine Or.inr ⟨rfl,?_⟩;cases hng:σ.ng
  ·rw[hng]at cn
   (go_wp2_with fail;go_quiet(fail);go_wp2_with fail;try simp only[Exit.inBlock,Exit.then]);first|rw[Exit.noGoto_ret]|rw[Exit.two_ret]
   go_ret2;exact qa (by first|exact HKp.out|exact HKp.drewN _|exact(HKp.drewN _).drewN _|exact((HKp.drewN _).drewN _).drewN _)
  ·rw[hng]at cn
   (go_wp2_with fail;go_quiet(fail);go_wp2_with fail;go_quiet(fail);go_wp2_with fail;try simp only[Exit.inBlock,Exit.then]);first|rw[Exit.noGoto_ret]|rw[Exit.two_ret]
   go_ret2;exact qa (by first|exact HKp.out|exact HKp.drewN _|exact(HKp.drewN _).drewN _|exact((HKp.drewN _).drewN _).drewN _)
 ·have ho':Dc.Ok σ n:=ho.resolve_left h0
  have n0:((n:Int)==0)=false:=Qb (by omega);have n0':¬(n:Int)=0:=(by omega);by_cases hbig:310<σ.dp
  ·have HKp:RowKit.Hid (Keep (·=b) w w):=Qh (Keep.refl _ w)
   clear ho hC hP hB hBw h0 h hn ho';go_in;go_wp2_with fail;refine xl 1 0 rfl rfl ?_;go_wp2_with fail;go_step3;refine Or.inl ⟨rfl,?_⟩;cases hng:σ.ng
   ·rw[hng]at cn
    (go_wp2_with fail;go_quiet(fail);go_wp2_with fail;try go_step3);go_wp2_with fail
    (go_quiet(fail);go_wp2_with fail;try simp only[Exit.inBlock,Exit.then]);first|rw[Exit.noGoto_ret]|rw[Exit.two_ret]
    go_ret2;exact qa (by first|exact HKp.out|exact HKp.drewN _|exact(HKp.drewN _).drewN _|exact((HKp.drewN _).drewN _).drewN _)
   ·rw[hng]at cn
    (go_wp2_with fail;go_quiet(fail);go_wp2_with fail;try go_step3);go_wp2_with fail
    (go_quiet(fail);go_wp2_with fail;go_quiet(fail);go_wp2_with fail;try simp only[Exit.inBlock,Exit.then]);first|rw[Exit.noGoto_ret]|rw[Exit.two_ret]
    go_ret2;exact qa (by first|exact HKp.out|exact HKp.drewN _|exact(HKp.drewN _).drewN _|exact((HKp.drewN _).drewN _).drewN _)
  ·by_cases hsm:σ.dp< -330
   ·have HKp:RowKit.Hid (Keep (·=b) w w):=Qh (Keep.refl _ w)
    clear ho hC hP hB hBw h0 h hn ho';go_in;go_wp2_with fail;refine xl 1 0 rfl rfl ?_;go_wp2_with fail;go_step3;refine Or.inr ⟨rfl,?_⟩;cases hng:σ.ng
    ·rw[hng]at cn
     (go_wp2_with fail;go_quiet(fail);go_wp2_with fail;try simp only[Exit.inBlock,Exit.then]);first|rw[Exit.noGoto_ret]|rw[Exit.two_ret]
     go_ret2;exact qa (by first|exact HKp.out|exact HKp.drewN _|exact(HKp.drewN _).drewN _|exact((HKp.drewN _).drewN _).drewN _)
    ·rw[hng]at cn
     (go_wp2_with fail;go_quiet(fail);go_wp2_with fail;go_quiet(fail);go_wp2_with fail;try simp only[Exit.inBlock,Exit.then]);first|rw[Exit.noGoto_ret]|rw[Exit.two_ret]
     go_ret2;exact qa (by first|exact HKp.out|exact HKp.drewN _|exact(HKp.drewN _).drewN _|exact((HKp.drewN _).drewN _).drewN _)
   ·have H:=Qh (Qa h (Qa ho' (Qa hC (Qa hP (Qa hB hBw)))))
    have HD:RowKit.Hid (-330<=σ.dp/\σ.dp<=310):=Qh (by omega);clear ho hC hP hB hBw h0 h hn ho' i0 i1 i2 cn;go_in;go_wp2_with fail;refine xl 1 0 rfl rfl ?_;go_upto_block 0 with fail;clear cd c8 hbig hsm;go_cut[6]from 35 to 60 (fun s6 wx=>∃E:Int,s6=.int .i64 E/\RowKit.Hid (∃(τ:DS) (m:Nat),DAt wx b τ/\Dc.Ok τ m/\ -400<=τ.dp/\τ.dp<=0/\0<=E/\E<=20000/\Keep (·=b) w wx))
    case first=>
     go_wp2_with fail;go_loopg[6] 700 (fun gq s6 wx=>∃E:Int,s6=.int .i64 E/\RowKit.Hid (0<=E/\E+27*(gq:Int)<=18900/\∃(τ:DS) (m:Nat),DAt wx b τ/\Dc.Ok τ m/\ -400<=τ.dp/\τ.dp<=310/\(0<τ.dp->2*τ.dp+(if 56<=τ.d 0 then 1 else 0)<=(gq:Int))/\Keep (·=b) w wx))
     case atStart=>
      have:=HD.out;exact⟨0,rfl,by omega,by omega,σ,n,H.1,H.2.1,by omega,by omega,(fun _=>by split<;>omega),Keep.refl _ _⟩
     case round=>
      obtain⟨E,rfl,HE⟩:=hrel;obtain⟨τ,m,t1,t2,t3,t4,t5,t6⟩:=HE.2.2;have HE1:=Qh (Qa HE.1 HE.2.1);have HT:=Qh (Qa t1 (Qa t2 (Qa t3 (Qa t4 (Qa t5 t6)))));have d1:=t1.cdp;obtain⟨⟨ad,cap,g0,-,-,gp⟩,-⟩:=H.2.2.2.1.at_ t6 H.2.2.2.2.1 H.2.2.2.2.2;by_cases hp:0<τ.dp
      ·obtain⟨i,hi⟩:∃i:Nat,τ.dp=(i:Int):=⟨τ.dp.toNat,by omega⟩
       rw[hi]at d1;have hi0:(0:Int)<(i:Int):=(by omega);have hnext:RowKit.Hid (∀(N:Nat) (w1:World),3<=N->N<=27->(∃(τ':DS) (m':Nat),DAt w1 b τ'/\Dc.Ok τ' m'/\τ.dp-20<=τ'.dp/\τ'.dp<=τ.dp/\(3<=N->τ'.dp<τ.dp\/(56<=τ.d 0/\τ'.d 0=49)))->Keep (·=b) w w1->1<=gk/\(0<=E+(N:Int)/\E+(N:Int)+27*((gk-1:Nat):Int)<=18900/\∃(τ:DS) (m:Nat),DAt w1 b τ/\Dc.Ok τ m/\ -400<=τ.dp/\τ.dp<=310/\(0<τ.dp->2*τ.dp+(if 56<=τ.d 0 then 1 else 0)<=((gk-1:Nat):Int))/\Keep (·=b) w w1)):=Qh (by
        intro N w1 hN1 hN2 ⟨τ',m',u1,u2,u3,u4,u5⟩ hk;have hq:=t5 hp;have hE:=HE1.out;have hg:1<=gk:=(by split at hq<;>omega);refine⟨hg,by omega,by omega,τ',m',u1,u2,by omega,by omega,fun hp'=>?_,hk⟩;rcases u5 hN1 with h|⟨h,h'⟩
        ·split<;>split at hq<;>omega
        ·rw[if_neg (by omega)]
         rw[if_pos h]at hq;omega)
       by_cases hi9:9<=i
       ·have hi9':(9:Int)<=(i:Int):=by omega
        have HSh:=Qh (fun q=>z2V b τ m 27 (wr.drewN q) t1 t2 (by omega) (by omega) (by omega));clear t1 t2 t3 t4 t5 t6 hi9 hp hi gp;go_wp2_with fail;go_quiet(fail);go_wp2_with fail;refine(HSh.out _).mono ?_;rintro e w1 ⟨rfl,hq⟩;have HQ:=Qh hq.out;clear hq;obtain⟨hg1,hnx⟩:=hnext.out 27 w1 (by omega) (by omega) HQ.1 ((HT.2.2.2.2.2.drewN _).trans HQ.2);have HNX:=Qh hnx;have HG:=Qh hg1;clear hnx hg1;have hwE:wrap64 (E+27)=E+27:=(by have:=HE1.out;unfold wrap64;omega);go_wp2_with fail;go_roundg(gk-1)
        case measure=>have:=HG.out;omega
        case rel=>exact⟨E+27,by first|rfl|(rw[hwE];done),HNX.out⟩
       ·have hi9':¬(9:Int)<=(i:Int):=by omega
        have i9:(i:Int)<9:=(by omega);have ig:(0:Int)<=(i:Int):=(by omega);have hN:=zd2 (i:=i) (by omega) (by omega);have cN:=gp i (by omega);generalize pw i=N at*
        have HSh:=Qh (fun q=>z2V b τ m N (wr.drewN q) t1 t2 (by omega) (by omega) (by omega));have HN:=Qh hN;clear t1 t2 t3 t4 t5 t6 hi9 hp hi gp hN;go_wp2_with fail;go_quiet(fail);go_wp2_with fail;go_quiet(fail);go_wp2_with fail;rw[zdk HN.2];refine(HSh.out _).mono ?_;rintro e w1 ⟨rfl,hq⟩;have HQ:=Qh hq.out;clear hq;obtain⟨hg1,hnx⟩:=hnext.out N w1 HN.1 HN.2 HQ.1 ((HT.2.2.2.2.2.drewN _).trans HQ.2);have HNX:=Qh hnx;have HG:=Qh hg1;clear hnx hg1;go_wp2_with fail;go_roundg(gk-1)
        case measure=>have:=HG.out;omega
        case rel=>exact⟨E+(N:Int),by rw[zcR HN.2 HE1.1 (by have:=HE1.2;omega)],HNX.out⟩
      ·have d2:¬0<τ.dp:=hp
       have hfin:RowKit.Hid (∃(τ:DS) (m:Nat),DAt wr b τ/\Dc.Ok τ m/\ -400<=τ.dp/\τ.dp<=0/\0<=E/\E<=20000/\Keep (·=b) w wr):=Qh ⟨τ,m,t1,t2,t3,by omega,HE1.1,by have:=HE1.2;omega,t6⟩
       clear t1 t2 t3 t4 t5 t6 hp gp;go_wp2_with fail;go_meet;exact⟨E,rfl,hfin.out⟩
    case rest=>
     obtain⟨E0,rfl,HE0⟩:=hcut;generalize wc=w2 at*
     go_upto_block 2 with fail;go_cut[6]from 61 to 102 (fun s6 wx=>∃E:Int,s6=.int .i64 E/\RowKit.Hid (∃(τ:DS) (m:Nat),DAt wx b τ/\Dc.Ok τ m/\ -400<=τ.dp/\τ.dp<=61/\ -120000<=E/\E<=20000/\Keep (·=b) w wx))
     case first=>
      go_wp2_with fail;go_loopg[6] 4100 (fun gq s6 wx=>∃E:Int,s6=.int .i64 E/\RowKit.Hid (-110700+27*(gq:Int)<=E/\E<=20000/\∃(τ:DS) (m:Nat),DAt wx b τ/\Dc.Ok τ m/\ -400<=τ.dp/\τ.dp<=61/\((τ.dp<0\/(τ.dp=0/\τ.d 0<53))->10*(-τ.dp)+(57-(τ.d 0:Int))+1<=(gq:Int))/\Keep (·=b) w wx))
      case atStart=>
       obtain⟨τ,m,t1,t2,t3,t4,t5,t6,t7⟩:=HE0.out;have hd:=t2.good.dig 0 t2.good.one;exact⟨E0,rfl,by omega,t6,τ,m,t1,t2,t3,by omega,(fun _=>by omega),t7⟩
      case round=>
       obtain⟨E,rfl,HE⟩:=hrel;obtain⟨τ,m,t1,t2,t3,t4,t5,t6⟩:=HE.2.2;have HE1:=Qh (Qa HE.1 HE.2.1);have HT:=Qh (Qa t1 (Qa t2 (Qa t3 (Qa t4 (Qa t5 t6)))));have d1:=t1.cdp;have dz:=t1.digit (i:=0) (by omega);have hdz:=t2.good.dig 0 t2.good.one;obtain⟨⟨ad,cap,g0,-,-,gp⟩,-⟩:=H.2.2.2.1.at_ t6 H.2.2.2.2.1 H.2.2.2.2.2;have hCw:=H.2.2.1.keep t6 H.2.2.2.2.1 H.2.2.2.2.2;have HDZ:=Qh hdz;by_cases hp:τ.dp<0\/(τ.dp=0/\τ.d 0<53)
       ·obtain⟨i,hi⟩:∃i:Nat,-τ.dp=(i:Int):=⟨(-τ.dp).toNat,by omega⟩
        have hneg:wrap64 (-τ.dp)=(i:Int):=(by unfold wrap64;omega);have hnext:RowKit.Hid (∀(N:Nat) (w1:World),1<=N->N<=27->(∃(τ':DS) (m':Nat),DAt w1 b τ'/\Dc.Ok τ' m'/\τ.dp<=τ'.dp/\τ'.dp<=τ.dp+61/\(τ.dp<τ'.dp\/τ.d 0<τ'.d 0))->Keep (·=b) w w1->1<=gk/\(-110700+27*((gk-1:Nat):Int)<=E-(N:Int)/\E-(N:Int)<=20000/\∃(τ:DS) (m:Nat),DAt w1 b τ/\Dc.Ok τ m/\ -400<=τ.dp/\τ.dp<=61/\((τ.dp<0\/(τ.dp=0/\τ.d 0<53))->10*(-τ.dp)+(57-(τ.d 0:Int))+1<=((gk-1:Nat):Int))/\Keep (·=b) w w1)):=Qh (by
         intro N w1 hN1 hN2 ⟨τ',m',u1,u2,u3,u4,u5⟩ hk;have hq:=t5 hp;have hE:=HE1.out;have hd':=u2.good.dig 0 u2.good.one;have hg:1<=gk:=(by omega);refine⟨hg,by omega,by omega,τ',m',u1,u2,by omega,by omega,fun hp'=>?_,hk⟩;rcases u5 with h|h<;>omega)
        have HDP2:RowKit.Hid (τ.dp<0\/(τ.dp=0/\τ.d 0<53)):=Qh hp;by_cases hi9:9<=i
        ·have hi9':(9:Int)<=(i:Int):=by omega
         have hlt:τ.dp<0:=(by omega);have HSh:=Qh (fun q=>z1b B b τ m 27 (wr.drewN q) t1 t2 (by omega) (by omega) (by omega) hCw H.2.2.2.2.1);clear t1 t2 t3 t4 t5 t6 hi9 hp hi gp hdz hCw;go_wp2_with fail;go_quiet(fail);go_wp2_with fail;refine(HSh.out _).mono ?_;rintro e w1 ⟨rfl,hq⟩;have HQ:=Qh hq.out;clear hq;obtain⟨hg1,hnx⟩:=hnext.out 27 w1 (by omega) (by omega) HQ.1 ((HT.2.2.2.2.2.drewN _).trans HQ.2);have HNX:=Qh hnx;have HG:=Qh hg1;clear hnx hg1;have hwE:wrap64 (E-27)=E-27:=(by have:=HE1.out;unfold wrap64;omega);go_wp2_with fail;go_roundg(gk-1)
         case measure=>have:=HG.out;omega
         case rel=>exact⟨E-27,by first|rfl|(rw[hwE];done),HNX.out⟩
        ·have hi9':¬(9:Int)<=(i:Int):=by omega
         have i9:(i:Int)<9:=(by omega);have ig:(0:Int)<=(i:Int):=(by omega);have hN:=zeC (i:=i) (by omega);have cN:=gp i (by omega);generalize pw i=N at*
         have HSh:=Qh (fun q=>z1b B b τ m N (wr.drewN q) t1 t2 (by omega) (by omega) (by omega) hCw H.2.2.2.2.1);have HN:=Qh hN;have hcond:τ.dp<0\/(¬τ.dp<0/\τ.dp=0/\((τ.d 0:Nat):Int)<53/\wr.cell? ad=some (.int .i64 (N:Int))):=by
          by_cases hlt:τ.dp<0
          ·exact Or.inl hlt
          ·have i0:i=0:=(by omega);subst i0;exact Or.inr ⟨hlt,by omega,by omega,cN⟩
         clear t1 t2 t3 t4 t5 t6 hi9 hp hi gp hN hdz hCw;rcases hcond with hlt|⟨hlt,hz,hd5,cN0⟩
         all_goals
          go_wp2_with fail;go_quiet(fail);go_wp2_with fail;go_quiet(fail);go_wp2_with fail;refine(HSh.out _).mono ?_;rintro e w1 ⟨rfl,hq⟩;have HQ:=Qh hq.out;clear hq;obtain⟨hg1,hnx⟩:=hnext.out N w1 HN.1 HN.2 HQ.1 ((HT.2.2.2.2.2.drewN _).trans HQ.2);have HNX:=Qh hnx;have HG:=Qh hg1;clear hnx hg1;go_wp2_with fail;go_roundg(gk-1)
          case measure=>have:=HG.out;omega
          case rel=>exact⟨E-(N:Int),by rw[zcU HN.2 (by have:=HE1.out;omega) (by have:=HE1.out;omega)],HNX.out⟩
       ·have hfin:RowKit.Hid (∃(τ:DS) (m:Nat),DAt wr b τ/\Dc.Ok τ m/\ -400<=τ.dp/\τ.dp<=61/\ -120000<=E/\E<=20000/\Keep (·=b) w wr):=Qh ⟨τ,m,t1,t2,t3,t4,by have:=HE1.out;omega,HE1.2,t6⟩
        have hlt:¬τ.dp<0:=(by omega);by_cases hz:τ.dp=0
        ·have hd5:¬((τ.d 0:Nat):Int)<53:=(by omega);clear t1 t2 t3 t4 t5 t6 hp gp hdz hCw;go_wp2_with fail;go_meet;exact⟨E,rfl,hfin.out⟩
        ·have hz':(τ.dp==0)=false:=(by rw[beq_eq_false_iff_ne];exact hz);clear t1 t2 t3 t4 t5 t6 hp gp hdz hCw;go_wp2_with fail;go_meet;exact⟨E,rfl,hfin.out⟩
     case rest=>
      obtain⟨E,rfl,HE⟩:=hcut;generalize wc=w3 at*
      obtain⟨τ,m,t1,t2,t3,t4,t5,t6,t7⟩:=HE.out;obtain⟨-,-,i0,i1,i2⟩:=H.2.2.2.1.at_ t7 H.2.2.2.2.1 H.2.2.2.2.2;obtain⟨F,hF⟩:∃F:Int,F=E-1:=⟨_,rfl⟩;have hw1:wrap64 (E-1)=F:=(by rw[hF];unfold wrap64;omega);have HF:=Qh (show-120001<=F/\F<=19999 by omega);have HT:=Qh (Qa t1 (Qa t2 (Qa t3 (Qa t4 t7))));clear t1 t2 t3 t4 t5 t6 t7 hF HE0 HE;go_upto_if 111 with fail;go_cut[6]from 103 to 125 (fun s6 wx=>∃E:Int,s6=.int .i64 E/\RowKit.Hid (∃(τ:DS) (m:Nat),DAt wx b τ/\Dc.Ok τ m/\ -10000000<=τ.dp/\τ.dp<=61/\ -1022<=E/\E<=20000/\Keep (·=b) w wx))
      case first=>
       by_cases hlo:F< -1022
       ·obtain⟨k,hk⟩:∃k:Nat,(k:Int)= -1022-F:=⟨(-1022-F).toNat,by omega⟩
        (have hk1:1<=k/\k<=200000:=(by have:=HF.out;omega);have hwk:wrap64 (-1022-F)=(k:Int):=(by rw[<-hk];unfold wrap64;omega);have hwn:wrap64 (-(k:Int))= -(k:Int):=(by unfold wrap64;omega);have hwe:wrap64 (F+(k:Int))= -1022:=(by rw[hk];unfold wrap64;omega);have HSh:=Qh (z7k b τ m k w3 HT.1 HT.2.1 hk1.1 (by omega) (by have:=HT.out;omega));have HKk:=Qh (Qa hk1 (Qa hwn hwe));clear hk hk1 hwn hwe;go_wp2_with fail;try rw[HKk.2.1]);refine HSh.mono ?_
        rintro e w4 ⟨rfl,hq⟩;have HQ:=Qh hq.out;clear hq;go_wp2_with fail;go_meet;refine⟨-1022,by first|rfl|(rw[HKk.2.2];done),?_⟩;obtain⟨⟨τ',m',u1,u2,u3,u4⟩,uk⟩:=HQ.out;have h1:=HT.out;have h2:=HKk.1;exact⟨τ',m',u1,u2,by omega,by omega,by omega,by omega,h1.2.2.2.2.trans uk⟩
       ·have hlo':¬F< -1022:=hlo
        have h1:=HT.out;have hfin:RowKit.Hid (∃(τ:DS) (m:Nat),DAt w3 b τ/\Dc.Ok τ m/\ -10000000<=τ.dp/\τ.dp<=61/\ -1022<=F/\F<=20000/\Keep (·=b) w w3):=Qh ⟨τ,m,h1.1,h1.2.1,by omega,by omega,by omega,by have:=HF.out;omega,h1.2.2.2.2⟩
        clear h1 hlo;go_wp2_with fail;go_meet;exact⟨F,rfl,hfin.out⟩
      case rest=>
       obtain⟨G,rfl,HG⟩:=hcut;generalize wc=w4 at*
       obtain⟨τ,m,t1,t2,t3,t4,t5,t6,t7⟩:=HG.out;clear i0 i1 i2 hw1 HF HT HG;obtain⟨-,-,i0,i1,i2⟩:=H.2.2.2.1.at_ t7 H.2.2.2.2.1 H.2.2.2.2.2;have hCw:=H.2.2.1.keep t7 H.2.2.2.2.1 H.2.2.2.2.2;have hPw:=H.2.2.2.1.at_ t7 H.2.2.2.2.1 H.2.2.2.2.2;have cn:=t1.cng;have hsz:B<=w4.heap.size:=Nat.le_trans H.2.2.2.2.2 t7.size;have HKp:=Qh t7;have HG:=Qh (Qa t5 t6);have hwg:wrap64 (G+1023)=G+1023:=(by unfold wrap64;omega);have HSh:=Qh (fun q=>z1b B b τ m 53 (w4.drewN q) t1 t2 (by omega) (by omega) (by omega) hCw H.2.2.2.2.1);have HPw:=Qh (Qa hPw (Qa hsz (Qa t3 t4)));clear t1 t2 t3 t4 t5 t6 t7 hCw hPw hsz;by_cases hov:1024<=G
       ·have hov':(2047:Int)<=G+1023:=by omega
        clear hov;go_wp2_with fail;go_quiet(fail);go_wp2_with fail;go_step3;refine Or.inl ⟨rfl,?_⟩;cases hng:τ.ng
        ·rw[hng]at cn
         (go_wp2_with fail;go_quiet(fail);go_wp2_with fail;try go_step3);go_wp2_with fail
         (go_quiet(fail);go_wp2_with fail;try simp only[Exit.inBlock,Exit.then]);first|rw[Exit.noGoto_ret]|rw[Exit.two_ret]
         go_ret2;exact qa (by first|exact HKp.out|exact HKp.drewN _|exact(HKp.drewN _).drewN _|exact((HKp.drewN _).drewN _).drewN _)
        ·rw[hng]at cn
         (go_wp2_with fail;go_quiet(fail);go_wp2_with fail;try go_step3);go_wp2_with fail
         (go_quiet(fail);go_wp2_with fail;go_quiet(fail);go_wp2_with fail;try simp only[Exit.inBlock,Exit.then]);first|rw[Exit.noGoto_ret]|rw[Exit.two_ret]
         go_ret2;exact qa (by first|exact HKp.out|exact HKp.drewN _|exact(HKp.drewN _).drewN _|exact((HKp.drewN _).drewN _).drewN _)
       ·have hov':¬(2047:Int)<=G+1023:=by omega
        clear hov;go_wp2_with fail;go_quiet(fail);go_wp2_with fail;refine(HSh.out _).mono ?_;rintro e w5 ⟨rfl,hq⟩;have HQ:=Qh hq.out;clear hq;obtain⟨⟨τ',m',u1,u2,u3,u4,-⟩,uk⟩:=HQ.out;have hk5:=(HKp.drewN _).trans uk;clear i0 i1 i2 cn;obtain⟨-,-,i0,i1,i2⟩:=H.2.2.2.1.at_ hk5 H.2.2.2.2.1 H.2.2.2.2.2;have cn:=u1.cng;have HWh:=Qh (z91 b τ' m' w5 u1 u2.nd u2.le (by have:=HPw.2.2;omega));clear HKp;have HKp:RowKit.Hid (Keep (·=b) w w5):=Qh hk5
        clear u1 u2 u3 u4 uk hk5 HQ hwg;go_wp2_with fail;refine HWh.mono ?_;rintro e w6 ⟨⟨z,rfl⟩,q6,rfl⟩;by_cases hz:z=9007199254740992
        ·subst hz
         have hwg1:wrap64 (G+1)=G+1:=(by have:=HG.out;unfold wrap64;omega);have hwg2:wrap64 (G+1+1023)=G+1024:=(by have:=HG.out;unfold wrap64;omega);by_cases hov2:1023<=G
         ·have hov3:(2047:Int)<=G+1024:=by omega
          clear hov2;go_wp2_with fail;go_quiet(fail);go_wp2_with fail;go_step3;refine Or.inl ⟨rfl,?_⟩;cases hng:τ'.ng
          ·rw[hng]at cn
           (go_wp2_with fail;go_quiet(fail);go_wp2_with fail;try go_step3);go_wp2_with fail
           (go_quiet(fail);go_wp2_with fail;try simp only[Exit.inBlock,Exit.then]);first|rw[Exit.noGoto_ret]|rw[Exit.two_ret]
           go_ret2;exact qa (by first|exact HKp.out|exact HKp.drewN _|exact(HKp.drewN _).drewN _|exact((HKp.drewN _).drewN _).drewN _)
          ·rw[hng]at cn
           (go_wp2_with fail;go_quiet(fail);go_wp2_with fail;try go_step3);go_wp2_with fail
           (go_quiet(fail);go_wp2_with fail;go_quiet(fail);go_wp2_with fail;try simp only[Exit.inBlock,Exit.then]);first|rw[Exit.noGoto_ret]|rw[Exit.two_ret]
           go_ret2;exact qa (by first|exact HKp.out|exact HKp.drewN _|exact(HKp.drewN _).drewN _|exact((HKp.drewN _).drewN _).drewN _)
         ·have hov3:¬(2047:Int)<=G+1024:=by omega
          clear hov2;go_wp2_with fail;go_quiet(fail);go_wp2_with fail
          all_goals
           go_step3;refine Or.inr ⟨rfl,?_⟩;cases hng:τ'.ng
           ·rw[hng]at cn
            (go_wp2_with fail;go_quiet(fail);go_wp2_with fail;try simp only[Exit.inBlock,Exit.then]);first|rw[Exit.noGoto_ret]|rw[Exit.two_ret]
            go_ret2;exact qa (by first|exact HKp.out|exact HKp.drewN _|exact(HKp.drewN _).drewN _|exact((HKp.drewN _).drewN _).drewN _)
           ·rw[hng]at cn
            (go_wp2_with fail;go_quiet(fail);go_wp2_with fail;go_quiet(fail);go_wp2_with fail;try simp only[Exit.inBlock,Exit.then]);first|rw[Exit.noGoto_ret]|rw[Exit.two_ret]
            go_ret2;exact qa (by first|exact HKp.out|exact HKp.drewN _|exact(HKp.drewN _).drewN _|exact((HKp.drewN _).drewN _).drewN _)
        ·have hz':(z==9007199254740992)=false:=by rw[beq_eq_false_iff_ne];exact hz
         clear hz;go_wp2_with fail
         all_goals
          go_step3;refine Or.inr ⟨rfl,?_⟩;cases hng:τ'.ng
          ·rw[hng]at cn
           (go_wp2_with fail;go_quiet(fail);go_wp2_with fail;try simp only[Exit.inBlock,Exit.then]);first|rw[Exit.noGoto_ret]|rw[Exit.two_ret]
           go_ret2;exact qa (by first|exact HKp.out|exact HKp.drewN _|exact(HKp.drewN _).drewN _|exact((HKp.drewN _).drewN _).drewN _)
          ·rw[hng]at cn
           (go_wp2_with fail;go_quiet(fail);go_wp2_with fail;go_quiet(fail);go_wp2_with fail;try simp only[Exit.inBlock,Exit.then]);first|rw[Exit.noGoto_ret]|rw[Exit.two_ret]
           go_ret2;exact qa (by first|exact HKp.out|exact HKp.drewN _|exact(HKp.drewN _).drewN _|exact((HKp.drewN _).drewN _).drewN _)
end Go.Proofs.YtkkecpamnnojoaaGreatDoor
namespace Go.Proofs.YtkkecpamnnojoaaGreatDoor.Us
def Gap(N D t M:Nat):Prop:=∀X n:Nat,0<X->X<M->N*X=n*D\/(N*X<n*D/\D<=(n*D-N*X)*2^t)\/(n*D<N*X/\D<=(N*X-n*D)*2^t)
theorem zeX{N D t M a b c d:Nat}(hD:0<D)(hb:0<b)(hd:0<d)(h1:b*c=a*d+1)(h2:a*D<=N*b)(h3:N*d<=c*D)(hM:M<=b+d)
  (g1:N*b=a*D\/D<=(N*b-a*D)*2^t)(g2:c*D=N*d\/D<=(c*D-N*d)*2^t)(gb:b<=2^t)(gd:d<=2^t):Gap N D t M:=by
 intro X n hX hXM;have ht:=Nat.two_pow_pos t;generalize 2^t=T at*
 obtain⟨u,hu⟩:∃u,N*b=a*D+u:=⟨N*b-a*D,by omega⟩;obtain⟨v,hv⟩:∃v,c*D=N*d+v:=⟨c*D-N*d,by omega⟩;have g1':u=0\/D<=u*T:=by
  rw[hu]at g1;rcases g1 with g|g
  ·left;omega
  ·right;rwa[Nat.add_sub_cancel_left]at g
 have g2':v=0\/D<=v*T:=by
  rw[hv]at g2;rcases g2 with g|g
  ·left;omega
  ·right;rwa[Nat.add_sub_cancel_left]at g
 clear g1 g2 h2 h3;by_cases hl:n*b<=a*X
 ·--n/X at most a/b
  obtain⟨r,hr⟩:∃r,a*X=n*b+r:=⟨a*X-n*b,by omega⟩;have e1:N*X*b=n*D*b+(X*u+D*r):=(by have s1:N*X*b=X*(N*b):=(by rw[Nat.mul_right_comm,Nat.mul_comm]);have s2:D*(a*X)=X*(a*D):=(by rw[Nat.mul_comm a X,Nat.mul_left_comm,Nat.mul_comm D a]);have s3:D*(n*b)=n*D*b:=(by rw[Nat.mul_comm n D,Nat.mul_assoc]);have s4:D*(a*X)=D*(n*b)+D*r:=(by rw[hr,Nat.mul_add]);rw[s1,hu,Nat.mul_add];omega);by_cases hz:X*u+D*r=0
  ·left;rw[hz,Nat.add_zero]at e1;exact Nat.eq_of_mul_eq_mul_right hb e1
  ·right;right
   have hlt:n*D<N*X:=Nat.lt_of_mul_lt_mul_right (a:=b) (by omega);refine⟨hlt,?_⟩;obtain⟨y,hy⟩:∃y,N*X=n*D+y:=⟨N*X-n*D,by omega⟩;rw[hy,Nat.add_sub_cancel_left];have e2:y*b=X*u+D*r:=(by rw[hy,Nat.add_mul]at e1;omega);refine Nat.le_of_mul_le_mul_right ?_ hb;have e3:y*T*b=(X*u+D*r)*T:=(by rw[<-e2,Nat.mul_right_comm]);rw[e3];by_cases hr0:r=0
   ·subst hr0
    have hXb:b<=X:=by
     have:X=b*(c*X-d*n):=(by have q1:b*c*X=a*d*X+X:=(by rw[h1,Nat.add_mul,Nat.one_mul]);have q2:a*d*X=d*n*b:=(by rw[Nat.mul_right_comm,hr,Nat.add_zero,Nat.mul_comm,<-Nat.mul_assoc]);rw[Nat.mul_sub,<-Nat.mul_assoc,q1,q2,Nat.mul_comm b (d*n)];omega);have h5:0<c*X-d*n:=by refine Nat.pos_of_ne_zero fun h0=>?_;rw[h0]at this;omega
     calc b=b*1:=(Nat.mul_one b).symm
      _<=b*(c*X-d*n):=Nat.mul_le_mul_left b h5
      _=X:=this.symm
    rcases g1' with g|g
    ·subst g;omega
    ·rw[Nat.mul_zero,Nat.add_zero]
     calc D*b<=(u*T)*X:=Nat.mul_le_mul g hXb
      _=X*u*T:=by rw[Nat.mul_comm,<-Nat.mul_assoc]
   ·have h6:D<=D*r:=Nat.le_mul_of_pos_right D (by omega)
    calc D*b<=D*T:=Nat.mul_le_mul_left D gb
     _<=(X*u+D*r)*T:=Nat.mul_le_mul_right T (by omega)
 ·by_cases hh:c*X<=n*d
  ·obtain⟨r,hr⟩:∃r,n*d=c*X+r:=⟨n*d-c*X,by omega⟩
   have e1:n*D*d=N*X*d+(X*v+D*r):=(by have s1:n*D*d=D*(n*d):=(by rw[Nat.mul_comm n D,Nat.mul_assoc]);have s2:D*(c*X)=X*(c*D):=(by rw[Nat.mul_comm c X,Nat.mul_left_comm,Nat.mul_comm D c]);have s3:X*(N*d)=N*X*d:=(by rw[<-Nat.mul_assoc,Nat.mul_comm X N]);rw[s1,hr,Nat.mul_add,s2,hv,Nat.mul_add];omega);by_cases hz:X*v+D*r=0
   ·left;rw[hz,Nat.add_zero]at e1;exact(Nat.eq_of_mul_eq_mul_right hd e1).symm
   ·right;left
    have hlt:N*X<n*D:=Nat.lt_of_mul_lt_mul_right (a:=d) (by omega);refine⟨hlt,?_⟩;obtain⟨y,hy⟩:∃y,n*D=N*X+y:=⟨n*D-N*X,by omega⟩;rw[hy,Nat.add_sub_cancel_left];have e2:y*d=X*v+D*r:=(by rw[hy,Nat.add_mul]at e1;omega);refine Nat.le_of_mul_le_mul_right ?_ hd;have e3:y*T*d=(X*v+D*r)*T:=(by rw[<-e2,Nat.mul_right_comm]);rw[e3];by_cases hr0:r=0
    ·subst hr0
     have hXd:d<=X:=by
      have:X=d*(n*b-a*X):=(by have q1:b*c*X=a*d*X+X:=(by rw[h1,Nat.add_mul,Nat.one_mul]);have q2:b*c*X=d*(n*b):=(by rw[Nat.mul_assoc,<-Nat.add_zero (c*X),<-hr,Nat.mul_comm,Nat.mul_right_comm,Nat.mul_comm]);have q3:a*d*X=d*(a*X):=(by rw[Nat.mul_comm a d,Nat.mul_assoc]);rw[Nat.mul_sub,<-q2,q1,q3];omega);have h5:0<n*b-a*X:=by refine Nat.pos_of_ne_zero fun h0=>?_;rw[h0]at this;omega
      calc d=d*1:=(Nat.mul_one d).symm
       _<=d*(n*b-a*X):=Nat.mul_le_mul_left d h5
       _=X:=this.symm
     rcases g2' with g|g
     ·subst g;omega
     ·rw[Nat.mul_zero,Nat.add_zero]
      calc D*d<=(v*T)*X:=Nat.mul_le_mul g hXd
       _=X*v*T:=by rw[Nat.mul_comm,<-Nat.mul_assoc]
    ·have h6:D<=D*r:=Nat.le_mul_of_pos_right D (by omega)
     calc D*d<=D*T:=Nat.mul_le_mul_left D gd
      _<=(X*v+D*r)*T:=Nat.mul_le_mul_right T (by omega)
  ·--strictly between:X is at least b+d
   exfalso;obtain⟨r,hr⟩:∃r,n*b=a*X+1+r:=⟨n*b-a*X-1,by omega⟩;obtain⟨q,hq⟩:∃q,c*X=n*d+1+q:=⟨c*X-n*d-1,by omega⟩;have q1:b*(c*X)=d*(a*X)+X:=(by rw[<-Nat.mul_assoc,h1,Nat.add_mul,Nat.one_mul,Nat.mul_comm a d,Nat.mul_assoc]);have q2:b*(c*X)=d*(n*b)+b+b*q:=(by rw[hq,Nat.mul_add,Nat.mul_add,Nat.mul_one,Nat.mul_comm n d,Nat.mul_left_comm,Nat.mul_comm b n]);have q3:d*(n*b)=d*(a*X)+d+d*r:=(by rw[hr,Nat.mul_add,Nat.mul_add,Nat.mul_one]);omega
def zbs(N D t M b d:Nat):Bool:=
 let a:=N*b/D
 let c:=(a*d+1)/b
 decide (0<D)&&decide (0<b)&&decide (0<d)&&decide (b*c=a*d+1)&&decide (a*D<=N*b)&&decide (N*d<=c*D)&&decide (M<=b+d)&&
  (decide (N*b=a*D)||decide (D<=(N*b-a*D)*2^t))&&(decide (c*D=N*d)||decide (D<=(c*D-N*d)*2^t))&&decide (b<=2^t)&&decide (d<=2^t)
theorem zeW{N D t M b d:Nat}(h:zbs N D t M b d=true):Gap N D t M:=by unfold zbs at h;simp only[Bool.and_eq_true,Bool.or_eq_true,decide_eq_true_eq]at h;obtain⟨⟨⟨⟨⟨⟨⟨⟨⟨⟨h1,h2⟩,h3⟩,h4⟩,h5⟩,h6⟩,h7⟩,h8⟩,h9⟩,h10⟩,h11⟩:=h;exact zeX h1 h2 h3 h4 h5 h6 h7 h8 h9 h10 h11
def zfi:Nat->Nat->Nat->Nat->Nat->Nat->Nat×Nat
 |0,M,b,d,x,y=>(b,d)
 |f+1,M,b,d,x,y=>
  if M<=b+d then(b,d)else
  let need:=(M-d-b+b-1)/b
  if x=0\/need<=y/x then(b,d+need*b)else
  let k:=y/x
  let d2:=d+k*b
  let y2:=y-k*x
  if M<=b+d2 then(b,d2)else
  let need2:=(M-d2-b+d2-1)/d2
  if y2=0\/need2<=x/y2 then(b+need2*d2,d2)else
  let j:=x/y2
  zfi f M (b+j*d2) d2 (x-j*y2) y2
def zft(N D M:Nat):Nat×Nat:=zfi 200 M 1 1 (N%D) (D-N%D)
def z4v(N D t M:Nat):Bool:=let r:=zft N D M;zbs N D t M r.1 r.2
theorem z1Z{N D t M:Nat}(h:z4v N D t M=true):Gap N D t M:=zeW h
end Go.Proofs.YtkkecpamnnojoaaGreatDoor.Us
namespace Go.Proofs.YtkkecpamnnojoaaGreatDoor.Us
def zef(i:Nat):Bool:=let q:=pm ((i:Int)-348);decide (q<=340282366920938463444927863358058659840)&&decide (170141183460469231731687303715884105728<=q)
theorem zd5:∀i:Fin 696,zef i.val=true:=by decide+kernel
theorem z9A{p:Int}(h1:-348<=p)(h2:p<=347):pm p<=340282366920938463444927863358058659840/\170141183460469231731687303715884105728<=pm p:=by have h:=zd5 ⟨(p+348).toNat,by omega⟩;unfold zef at h;simp only[Bool.and_eq_true,decide_eq_true_eq]at h;rw[show(((p+348).toNat:Nat):Int)-348=p by omega]at h;exact h
theorem z4p{p:Int}(h1:-348<=p)(h2:p<=347):yK p<18446744073709551616/\qO p<18446744073709551616/\qO p<=yK p*18446744073709551616/\yK p*18446744073709551616-qO p=pm p/\9223372036854775808<=yK p:=by
 obtain⟨a,b⟩:=z9A h1 h2;unfold qO yK;generalize pm p=q at*
 have e:=Nat.div_add_mod (q+18446744073709551615) 18446744073709551616;have l:=Nat.mod_lt (q+18446744073709551615) (y:=18446744073709551616) (by omega);generalize(q+18446744073709551615)/18446744073709551616=h at*
 generalize(q+18446744073709551615)%18446744073709551616=r at*
 omega
theorem zfz(A B:Nat)(hB:0<B):A<=(A+B-1)/B*B/\(A+B-1)/B*B<A+B:=by
 have e:=Nat.div_add_mod (A+B-1) B;have l:=Nat.mod_lt (A+B-1) hB;rw[Nat.mul_comm]at e;generalize(A+B-1)/B*B=z at*
 omega
theorem z0O{n d n' d':Nat}(hd:0<d)(hd':0<d')(h:n*d'=n'*d):unr n d=unr n' d':=by
 have e:=Nat.div_add_mod n d;have l:=Nat.mod_lt n hd;have e':=Nat.div_add_mod n' d';have l':=Nat.mod_lt n' hd';have hq:n/d=n'/d':=by
  refine Nat.le_antisymm ?_ ?_
  ·rw[Nat.le_div_iff_mul_le hd']
   refine Nat.le_of_mul_le_mul_right ?_ hd;have:n/d*d<=n:=Nat.div_mul_le_self n d
   calc n/d*d'*d=n/d*d*d':=Nat.mul_right_comm ..
    _<=n*d':=Nat.mul_le_mul_right d' this
    _=n'*d:=h
  ·rw[Nat.le_div_iff_mul_le hd]
   refine Nat.le_of_mul_le_mul_right ?_ hd';have:n'/d'*d'<=n':=Nat.div_mul_le_self n' d'
   calc n'/d'*d*d'=n'/d'*d'*d:=Nat.mul_right_comm ..
    _<=n'*d:=Nat.mul_le_mul_right d this
    _=n*d':=h.symm
 have hr:n%d*d'=n'%d'*d:=(by rw[hq]at e;have a1:n*d'=d*(n'/d')*d'+n%d*d':=(by rw[<-Nat.add_mul,e]);have a2:n'*d=d'*(n'/d')*d+n'%d'*d:=(by rw[<-Nat.add_mul,e']);have a3:d*(n'/d')*d'=d'*(n'/d')*d:=(by rw[Nat.mul_comm d,Nat.mul_assoc,Nat.mul_comm d d',<-Nat.mul_assoc,Nat.mul_comm (n'/d') d']);omega);unfold unr;rw[hq];have:decide (n%d≠0)=decide (n'%d'≠0):=by
  rw[decide_eq_decide];constructor
  ·intro h1 h2;rw[h2,Nat.zero_mul]at hr;rcases Nat.mul_eq_zero.1 hr with h3|h3<;>omega
  ·intro h1 h2;rw[h2,Nat.zero_mul]at hr;rcases Nat.mul_eq_zero.1 hr.symm with h3|h3<;>omega
 rw[this]
theorem z0y(p:Int)(j r:Nat)(k l:Int)(h:(j:Int)+l=k+(r:Int)):2^j*num p l*den p k=num p k*(den p l*2^r):=by
 unfold num den;have e:2^j*2^l.toNat*2^(-k).toNat=2^k.toNat*2^(-l).toNat*2^r:=by
  rw[<-Nat.pow_add,<-Nat.pow_add,<-Nat.pow_add,<-Nat.pow_add]
  congr 1
  omega
 generalize 10^p.toNat=P;generalize 10^(-p).toNat=Q;generalize 2^j=a at*
 generalize 2^l.toNat=b at*
 generalize 2^(-k).toNat=c at*
 generalize 2^k.toNat=d at*
 generalize 2^(-l).toNat=f at*
 generalize 2^r=g at*
 calc a*(P*b)*(Q*c)=P*Q*(a*b*c):=by ac_rfl
  _=P*Q*(d*f*g):=by rw[e]
  _=P*d*(Q*f*g):=by ac_rfl
theorem z0N{p k:Int}{x X j s t M:Nat}(hp1:-348<=p)(hp2:p<=347)(hx:x=X*2^j)(hx2:x<18446744073709551616)(hx1:4<=x)(hs:s<64)(hk:(j:Int)=k+1+lgp p+s)
  (G:Gap (num p k) (den p k) t M)(hX:X<M)(ht:t<=63+s):usc x s (yK p) (qO p)=unr (X*num p k) (den p k):=by
 obtain⟨a1,a2,a3,a4,a5⟩:=z4p hp1 hp2;have hB:=yE p (127-lgp p);have hD:=yE p k;have hc:=zfz (num p (127-lgp p)) (den p (127-lgp p)) hB;have hpm:pm p=(num p (127-lgp p)+den p (127-lgp p)-1)/den p (127-lgp p):=rfl;rw[<-hpm]at hc;have hsc:=z0y p j (128+s) k (127-lgp p) (by omega);have hX0:0<X:=(by refine Nat.pos_of_ne_zero fun h0=>?_;rw[h0,Nat.zero_mul]at hx;omega);have h2:=Nat.two_pow_pos (128+s);have hratio:x*num p (127-lgp p)*den p k=X*num p k*(den p (127-lgp p)*2^(128+s)):=(by rw[hx,Nat.mul_assoc X,Nat.mul_assoc X,hsc,Nat.mul_assoc X]);rw[zep (A:=num p (127-lgp p)) (B:=den p (127-lgp p)) hx2 (by omega) a1 a2 a3 hB hs (by rw[a4];exact hc.1) (by rw[a4];exact hc.2) ?_ ?_]
 ·exact z0O (Nat.mul_pos hB h2) hD hratio
 ·have:4*9223372036854775808<=x*yK p:=Nat.mul_le_mul hx1 a5;exact Nat.div_pos (by omega) (by omega)
 ·intro n
  have g:=G X n hX0 hX;have hpow:2^t*36893488147419103232<=2^(128+s):=(by have e65:(36893488147419103232:Nat)=2^65:=(by decide);rw[e65,<-Nat.pow_add];exact Nat.pow_le_pow_right (by decide) (by omega));have hT:=Nat.two_pow_pos t;generalize num p (127-lgp p)=A at*
  generalize den p (127-lgp p)=B at*
  generalize num p k=N at*
  generalize den p k=D at*
  generalize 2^(128+s)=W at*
  generalize 2^t=T at*
  have hNX:X*N=N*X:=Nat.mul_comm _ _;rw[hNX]at hratio;rcases g with g|⟨g1,g2⟩|⟨g1,g2⟩
  ·left;refine Nat.eq_of_mul_eq_mul_right hD ?_;rw[hratio,g];ac_rfl
  ·right;left
   obtain⟨y,hy⟩:∃y,n*D=N*X+y:=⟨n*D-N*X,by omega⟩;rw[hy,Nat.add_sub_cancel_left]at g2;refine Nat.le_of_mul_le_mul_right ?_ hD;have e1:n*(B*W)*D=N*X*(B*W)+y*(B*W):=(by rw[<-Nat.add_mul,<-hy];ac_rfl);rw[Nat.add_mul,hratio,e1];refine Nat.add_le_add_left ?_ _
   calc B*36893488147419103232*D<=B*36893488147419103232*(y*T):=Nat.mul_le_mul_left _ g2
    _=y*B*(T*36893488147419103232):=by ac_rfl
    _<=y*B*W:=Nat.mul_le_mul_left _ hpow
    _=y*(B*W):=Nat.mul_assoc ..
  ·right;right
   obtain⟨y,hy⟩:∃y,N*X=n*D+y:=⟨N*X-n*D,by omega⟩;rw[hy,Nat.add_sub_cancel_left]at g2;refine Nat.le_of_mul_le_mul_right ?_ hD;have e1:N*X*(B*W)=n*(B*W)*D+y*(B*W):=(by rw[hy,Nat.add_mul];congr 1;ac_rfl);rw[Nat.add_mul,hratio,e1];refine Nat.add_le_add_left ?_ _
   calc B*36893488147419103232*D<=B*36893488147419103232*(y*T):=Nat.mul_le_mul_left _ g2
    _=y*B*(T*36893488147419103232):=by ac_rfl
    _<=y*B*W:=Nat.mul_le_mul_left _ hpow
    _=y*(B*W):=Nat.mul_assoc ..
end Go.Proofs.YtkkecpamnnojoaaGreatDoor.Us
namespace Go.Proofs.YtkkecpamnnojoaaGreatDoor.Us
theorem xe{n d:Nat}(hd:0<d):(∃q,unr n d=q/\n=q*d)\/(∃q,unr n d=q/2*2+1/\q*d<n/\n<(q+1)*d):=by
 have e:=Nat.div_add_mod n d;have l:=Nat.mod_lt n hd;rw[Nat.mul_comm]at e;unfold unr stk;by_cases h:n%d=0
 ·left;rw[if_neg (by simp[h])];exact⟨n/d,rfl,by omega⟩
 ·right;rw[if_pos (by simp[h])];refine⟨n/d,rfl,by omega,?_⟩;rw[Nat.add_mul,Nat.one_mul];omega
theorem ym{a b d:Nat}(hd:0<d):a*d<b*d↔a<b:=Nat.mul_lt_mul_right hd
theorem z3h{a b d:Nat}(hd:0<d):a*d<=b*d↔a<=b:=Nat.mul_le_mul_right_iff hd
theorem zaw{n d z:Nat}(hd:0<d):unr n d<=4*z↔n<=4*z*d:=by
 rcases xe (n:=n) hd with⟨q,h1,h2⟩|⟨q,h1,h2,h3⟩
 ·rw[h1,h2,z3h hd]
 ·rw[h1]
  constructor
  ·intro h;have:q+1<=4*z:=(by omega);exact Nat.le_of_lt (Nat.lt_of_lt_of_le h3 (Nat.mul_le_mul_right d this))
  ·intro h;have:q<4*z:=(ym hd).1 (Nat.lt_of_lt_of_le h2 h);omega
theorem z76{n d z:Nat}(hd:0<d):unr n d<4*z↔n<4*z*d:=by
 rcases xe (n:=n) hd with⟨q,h1,h2⟩|⟨q,h1,h2,h3⟩
 ·rw[h1,h2,ym hd]
 ·rw[h1]
  constructor
  ·intro h;have:q+1<=4*z:=(by omega);exact Nat.lt_of_lt_of_le h3 (Nat.mul_le_mul_right d this)
  ·intro h;have:q<4*z:=(ym hd).1 (Nat.lt_trans h2 h);omega
theorem zb6{n d:Nat}(hd:0<d):4*rnd (unr n d)*d<=n+2*d/\n<=4*rnd (unr n d)*d+2*d:=by
 unfold rnd;rcases xe (n:=n) hd with⟨q,h1,h2⟩|⟨q,h1,h2,h3⟩
 ·rw[h1,h2];have a:4*((q+1+q/4%2)/4)<=q+2:=(by omega);have b:q<=4*((q+1+q/4%2)/4)+2:=(by omega);have a':=Nat.mul_le_mul_right d a;have b':=Nat.mul_le_mul_right d b;rw[Nat.add_mul]at a' b';exact⟨a',b'⟩
 ·rw[h1];generalize hu:q/2*2+1=u;have a:4*((u+1+u/4%2)/4)<=q+2:=(by omega);have b:q+1<=4*((u+1+u/4%2)/4)+2:=(by omega);have a':4*((u+1+u/4%2)/4)*d<=q*d+2*d:=(by rw[<-Nat.add_mul];exact Nat.mul_le_mul_right d a);have b':(q+1)*d<=4*((u+1+u/4%2)/4)*d+2*d:=(by rw[<-Nat.add_mul];exact Nat.mul_le_mul_right d b);omega
def z3R(o L U W z:Nat):Prop:=(o=0->L<=z*W/\z*W<=U)/\(o=1->L<z*W/\z*W<U)
theorem pick{L M U D o d1 d2:Nat}(hD:0<D)(ho:o<=1)(h6:4<=unr U D)(e1:d1=(unr L D+o+3)/4)(e2:d2=(unr U D-o)/4):
  (∀z,d1<=z->z<=d2->z3R o L U (4*D) z)/\(∀z,z3R o L U (4*D) z->d1<=z/\z<=d2):=by
 have f1:∀z,4*z*D=z*(4*D):=fun z=>(by rw[Nat.mul_comm 4 z,Nat.mul_assoc]);have lo:∀z,d1<=z↔unr L D+o<=4*z:=fun z=>(by rw[e1];omega);have hi:∀z,z<=d2↔4*z+o<=unr U D:=fun z=>(by rw[e2];omega);have r1:o=0->∀z,(d1<=z↔L<=z*(4*D)):=fun h z=>(by rw[lo,h,Nat.add_zero,zaw hD,f1]);have r2:o=1->∀z,(d1<=z↔L<z*(4*D)):=fun h z=>(by rw[lo,h,Nat.add_one_le_iff,z76 hD,f1]);have r3:o=0->∀z,(z<=d2↔z*(4*D)<=U):=fun h z=>(by rw[hi,h,Nat.add_zero,<-Nat.not_lt,z76 hD,f1,Nat.not_lt]);have r4:o=1->∀z,(z<=d2↔z*(4*D)<U):=fun h z=>(by rw[hi,h,Nat.add_one_le_iff,<-Nat.not_le,zaw hD,f1,Nat.not_le]);refine⟨fun z h1 h2=>⟨fun h=>⟨(r1 h z).1 h1,(r3 h z).1 h2⟩,fun h=>⟨(r2 h z).1 h1,(r4 h z).1 h2⟩⟩,fun z h=>?_⟩;by_cases h0:o=0
 ·exact⟨(r1 h0 z).2 (h.1 h0).1,(r3 h0 z).2 (h.1 h0).2⟩
 ·have h1:o=1:=(by omega);exact⟨(r2 h1 z).2 (h.2 h1).1,(r4 h1 z).2 (h.2 h1).2⟩
theorem zeF{L M U D o d1 d2 lo up:Nat}(hD:0<D)(ho:o<=1)(h6:4<=unr U D)(e1:d1=(unr L D+o+3)/4)(e2:d2=(unr U D-o)/4)
  (hl:L+lo=M)(hu:M+up=U)(hlu:lo<=up)(hul:up<=2*lo)(hw:4*D<lo+up\/∃z,z3R o L U (4*D) z):
  (d1<=d2/10*10->z3R o L U (4*D) (10*(d2/10)))/\(¬d1<=d2/10*10->d1<d2->z3R o L U (4*D) (rnd (unr M D)))/\(¬d1<d2->z3R o L U (4*D) d1):=by
 obtain⟨p1,p2⟩:=pick (M:=M) hD ho h6 e1 e2;refine⟨fun h=>p1 _ (by omega) (by omega),fun _ h=>?_,fun h=>?_⟩
 ·--at least two whole numbers between:the middle's nearest is one
  have a:=p1 d1 (Nat.le_refl _) (Nat.le_of_lt h);have b:=p1 d2 (Nat.le_of_lt h) (Nat.le_refl _);have c:=zb6 (n:=M) hD;have f1:∀z,4*z*D=z*(4*D):=fun z=>(by rw[Nat.mul_comm 4 z,Nat.mul_assoc]);rw[f1]at c;generalize rnd (unr M D)=r at*
  have hlr:d1<=r:=by
   refine Nat.le_of_not_lt fun hlt=>?_;have x1:=Nat.mul_le_mul_right (4*D) (show r+1<=d1 by omega);have x2:=Nat.mul_le_mul_right (4*D) (show d1+1<=d2 by omega);rw[Nat.add_mul,Nat.one_mul]at x1 x2;have y:=fun h3=>(Nat.lt_irrefl d1 (Nat.lt_of_le_of_lt (p2 (d1-1) h3).1 (by omega)));have x3:(d1-1)*(4*D)+4*D=d1*(4*D):=(by have:=Nat.add_mul (d1-1) 1 (4*D);rw[Nat.one_mul,show d1-1+1=d1 by omega]at this;exact this.symm);by_cases h0:o=0
   ·have a0:=a.1 h0;have b0:=b.1 h0;have nl:¬L<=(d1-1)*(4*D):=fun h4=>y ⟨fun _=>⟨h4,by omega⟩,fun h5=>by omega⟩;omega
   ·have h1:o=1:=(by omega);have a0:=a.2 h1;have b0:=b.2 h1;have nl:¬L<(d1-1)*(4*D):=fun h4=>y ⟨fun h5=>by omega,fun _=>⟨h4,by omega⟩⟩;omega
  have hrh:r<=d2:=by
   refine Nat.le_of_not_lt fun hlt=>?_;have x1:=Nat.mul_le_mul_right (4*D) (show d2+1<=r by omega);have x2:=Nat.mul_le_mul_right (4*D) (show d1+1<=d2 by omega);have y:=fun h3=>(Nat.lt_irrefl d2 (Nat.lt_of_lt_of_le (Nat.lt_succ_self d2) (p2 (d2+1) h3).2));rw[Nat.add_mul,Nat.one_mul]at x1 x2;by_cases h0:o=0
   ·have a0:=a.1 h0;have b0:=b.1 h0;have nl:¬(d2+1)*(4*D)<=U:=fun h4=>y ⟨fun _=>⟨by rw[Nat.add_mul,Nat.one_mul];omega,h4⟩,fun h5=>by omega⟩;rw[Nat.add_mul,Nat.one_mul]at nl;omega
   ·have h1:o=1:=(by omega);have a0:=a.2 h1;have b0:=b.2 h1;have nl:¬(d2+1)*(4*D)<U:=fun h4=>y ⟨fun h5=>by omega,fun _=>⟨by rw[Nat.add_mul,Nat.one_mul];omega,h4⟩⟩;rw[Nat.add_mul,Nat.one_mul]at nl;omega
  exact p1 r hlr hrh
 ·--one at least lies between
  have hex:∃z,z3R o L U (4*D) z:=by
   rcases hw with hw|hw
   ·have e:=Nat.div_add_mod L (4*D);have l:=Nat.mod_lt L (y:=4*D) (by omega);rw[Nat.mul_comm]at e;have x1:(L/(4*D)+1)*(4*D)=L/(4*D)*(4*D)+4*D:=(by rw[Nat.add_mul,Nat.one_mul]);exact⟨L/(4*D)+1,fun _=>by omega,fun _=>by omega⟩
   ·exact hw
  obtain⟨z,hz⟩:=hex;obtain⟨z1,z2⟩:=p2 z hz;exact p1 d1 (Nat.le_refl _) (by omega)
end Go.Proofs.YtkkecpamnnojoaaGreatDoor.Us
namespace Go.Proofs.YtkkecpamnnojoaaGreatDoor.Us
def z8x(i:Nat):Bool:=z4v (num ((i:Int)-343) (-2-lgp ((i:Int)-343))) (den ((i:Int)-343) (-2-lgp ((i:Int)-343))) 71 144115188075855872
def zek(i:Nat):Bool:=z4v (num ((i:Int)-345) 1076) (den ((i:Int)-345) 1076) 72 144115188075855872
def zaO(i:Nat):Bool:=z4v (num (-skw ((i:Int)-1084+11)) (11+((i:Int)-1084))) (den (-skw ((i:Int)-1084+11)) (11+((i:Int)-1084))) (63+(-((i:Int)-1084+lgp (-skw ((i:Int)-1084+11))+3)).toNat) 72057594037927936
theorem zcS:z4v (num 324 (-1073)) (den 324 (-1073)) 70 36028797018963968=true:=by decide+kernel
theorem z9G:∀i:Fin 653,z8x i.val=true:=by decide+kernel
theorem zdU:∀i:Fin 69,zek i.val=true:=by decide+kernel
theorem zaN:∀i:Fin 2045,zaO i.val=true:=by decide+kernel
theorem z9F{p:Int}(h1:-343<=p)(h2:p<=309):Gap (num p (-2-lgp p)) (den p (-2-lgp p)) 71 144115188075855872:=by have h:=z9G ⟨(p+343).toNat,by omega⟩;unfold z8x at h;simp only at h;rw[show(((p+343).toNat:Nat):Int)-343=p by omega]at h;exact z1Z h
theorem zdT{p:Int}(h1:-345<=p)(h2:p<= -277):Gap (num p 1076) (den p 1076) 72 144115188075855872:=by have h:=zdU ⟨(p+345).toNat,by omega⟩;unfold zek at h;simp only at h;rw[show(((p+345).toNat:Nat):Int)-345=p by omega]at h;exact z1Z h
theorem zaM{e:Int}(h1:-1084<=e)(h2:e<=960):Gap (num (-skw (e+11)) (11+e)) (den (-skw (e+11)) (11+e)) (63+(-(e+lgp (-skw (e+11))+3)).toNat) 72057594037927936:=by have h:=zaN ⟨(e+1084).toNat,by omega⟩;unfold zaO at h;simp only at h;rw[show(((e+1084).toNat:Nat):Int)-1084=e by omega]at h;exact z1Z h
theorem zcT:Gap (num 324 (-1073)) (den 324 (-1073)) 70 36028797018963968:=z1Z zcS
end Go.Proofs.YtkkecpamnnojoaaGreatDoor.Us
namespace Go.Proofs.YtkkecpamnnojoaaGreatDoor.Us
def zaT(i:Nat):Bool:=z4v (num (-lg2 ((i:Int)-1085+11)) (12+((i:Int)-1085))) (den (-lg2 ((i:Int)-1085+11)) (12+((i:Int)-1085))) (63+(-((i:Int)-1085+lgp (-lg2 ((i:Int)-1085+11))+3)).toNat) 36028797018963968
theorem zaS:∀i:Fin 2046,zaT i.val=true:=by decide+kernel
theorem zaR{e:Int}(h1:-1085<=e)(h2:e<=960):Gap (num (-lg2 (e+11)) (12+e)) (den (-lg2 (e+11)) (12+e)) (63+(-(e+lgp (-lg2 (e+11))+3)).toNat) 36028797018963968:=by have h:=zaS ⟨(e+1085).toNat,by omega⟩;unfold zaT at h;simp only at h;rw[show(((e+1085).toNat:Nat):Int)-1085=e by omega]at h;exact z1Z h
end Go.Proofs.YtkkecpamnnojoaaGreatDoor.Us
namespace Go.Proofs.YtkkecpamnnojoaaGreatDoor.Us
def zav(i:Nat):Bool:=decide (4*den (-lg2 ((i:Int)-1085+11)) (12+((i:Int)-1085))<2*num (-lg2 ((i:Int)-1085+11)) (12+((i:Int)-1085)))||decide (i=1074)
theorem zau:∀i:Fin 2046,zav i.val=true:=by decide+kernel
theorem wide{e:Int}(h1:-1085<=e)(h2:e<=960):4*den (-lg2 (e+11)) (12+e)<2*num (-lg2 (e+11)) (12+e)\/e= -11:=by
 have h:=zau ⟨(e+1085).toNat,by omega⟩;unfold zav at h;simp only at h;rw[show(((e+1085).toNat:Nat):Int)-1085=e by omega]at h;simp only[Bool.or_eq_true,decide_eq_true_eq]at h;rcases h with h|h
 ·exact .inl h
 ·right;omega
def zed(i:Nat):Bool:=decide (4*den (-skw ((i:Int)-1084+11)) (11+((i:Int)-1084))<3*num (-skw ((i:Int)-1084+11)) (11+((i:Int)-1084)))
theorem z90:∀i:Fin 2045,zed i.val=true:=by decide+kernel
theorem z8Z{e:Int}(h1:-1084<=e)(h2:e<=960):4*den (-skw (e+11)) (11+e)<3*num (-skw (e+11)) (11+e):=by have h:=z90 ⟨(e+1084).toNat,by omega⟩;unfold zed at h;simp only at h;rw[show(((e+1084).toNat:Nat):Int)-1084=e by omega]at h;exact of_decide_eq_true h
theorem z5F:decide (4*den 324 (-1073)<2*num 324 (-1073))=true:=by decide+kernel
def zV(m0:Nat)(E:Int)(l d:Nat)(q:Int):Prop:=
 (m0%2=0->(4*m0-l)*den q (2-E)<=d*num q (2-E)/\d*num q (2-E)<=(4*m0+2)*den q (2-E))/\
 (m0%2=1->(4*m0-l)*den q (2-E)<d*num q (2-E)/\d*num q (2-E)<(4*m0+2)*den q (2-E))
theorem turn(P k:Int)(r:Nat)(E:Int)(h:2-E=(r:Int)-k):num (-P) (2-E)*num P k=2^r*(den (-P) (2-E)*den P k):=by
 unfold num den;rw[Int.neg_neg];have e:2^(2-E).toNat*2^k.toNat=2^r*2^(-(2-E)).toNat*2^(-k).toNat:=by
  rw[<-Nat.pow_add,<-Nat.pow_add,<-Nat.pow_add]
  congr 1
  omega
 generalize 10^P.toNat=a;generalize 10^(-P).toNat=b;generalize 2^(2-E).toNat=c at*
 generalize 2^k.toNat=d at*
 generalize 2^(-(2-E)).toNat=f at*
 generalize 2^(-k).toNat=g at*
 generalize 2^r=t at*
 calc b*c*(a*d)=a*b*(c*d):=by ac_rfl
  _=a*b*(t*f*g):=by rw[e]
  _=t*(a*f*(b*g)):=by ac_rfl
theorem z5P(P k:Int)(d:Nat):10*d*num (-P) k*den (1-P) k=d*num (1-P) k*den (-P) k:=by
 unfold num den;rw[Int.neg_neg];have e:10*10^(-P).toNat*10^(-(1-P)).toNat=10^(1-P).toNat*10^P.toNat:=by
  rw[<-Nat.pow_succ',<-Nat.pow_add,<-Nat.pow_add]
  congr 1
  omega
 generalize 10^(-P).toNat=a at*
 generalize 10^(-(1-P)).toNat=b at*
 generalize 10^(1-P).toNat=c at*
 generalize 10^P.toNat=f at*
 generalize 2^k.toNat=x;generalize 2^(-k).toNat=y
 calc 10*d*(a*x)*(b*y)=d*x*y*(10*a*b):=by ac_rfl
  _=d*x*y*(c*f):=by rw[e]
  _=d*(c*x)*(f*y):=by ac_rfl
theorem z5i{x y A B A' B':Nat}(hB:0<B)(hB':0<B')(h:x*A*B'=y*A'*B)(t:Nat):(t*B<=x*A↔t*B'<=y*A')/\(x*A<=t*B↔y*A'<=t*B')/\(t*B<x*A↔t*B'<y*A')/\(x*A<t*B↔y*A'<t*B'):=by
 have s:t*B*B'=t*B'*B:=Nat.mul_right_comm ..;have a1:t*B<=x*A↔t*B'<=y*A':=(by rw[<-Nat.mul_le_mul_right_iff hB',s,h,Nat.mul_le_mul_right_iff hB]);have a2:x*A<=t*B↔y*A'<=t*B':=(by rw[<-Nat.mul_le_mul_right_iff hB',s,h,Nat.mul_le_mul_right_iff hB]);refine⟨a1,a2,?_,?_⟩
 ·rw[<-Nat.not_le,<-Nat.not_le,a2]
 ·rw[<-Nat.not_le,<-Nat.not_le,a1]
theorem z2P{m0:Nat}{E P:Int}{l d:Nat}(h:zV m0 E l (10*d) (-P)):zV m0 E l d (1-P):=by
 have k:=fun t=>z5i (yE (-P) (2-E)) (yE (1-P) (2-E)) (z5P P (2-E) d) t;unfold zV at h⊢
 refine⟨fun h0=>?_,fun h1=>?_⟩
 ·have a:=h.1 h0;exact⟨(k _).1.1 a.1,(k _).2.1.1 a.2⟩
 ·have a:=h.2 h1;exact⟨(k _).2.2.1.1 a.1,(k _).2.2.2.1 a.2⟩
theorem z8Y{m0 z l r:Nat}{E P k:Int}{X1 X2 c:Nat}(hr:2-E=(r:Int)-k)(hc:2^r=4*c)(h1:X1*c=4*m0-l)(h2:X2*c=4*m0+2)(hb:z3R (m0%2) (X1*num P k) (X2*num P k) (4*den P k) z):zV m0 E l z (-P):=by
 have hN:=zdg P k;have hB:=yE (-P) (2-E);have t:=turn P k r E hr;have hc0:0<c:=(by have:=Nat.two_pow_pos r;omega);unfold z3R at hb;unfold zV;rw[<-h1,<-h2];generalize num (-P) (2-E)=A at*
 generalize den (-P) (2-E)=B at*
 generalize num P k=N at*
 generalize den P k=D at*
 rw[hc]at t;have key:∀X,(X*N<=z*(4*D)↔X*c*B<=z*A)/\(z*(4*D)<=X*N↔z*A<=X*c*B):=by
  intro X;have s1:z*A*N=z*(4*D)*(c*B):=by
   calc z*A*N=z*(A*N):=Nat.mul_assoc ..
    _=z*(4*c*(B*D)):=by rw[t]
    _=z*(4*D)*(c*B):=by ac_rfl
  have s2:X*c*B*N=X*N*(c*B):=(by ac_rfl);have hcB:0<c*B:=Nat.mul_pos hc0 hB;constructor
  ·exact(Nat.mul_le_mul_right_iff hcB).symm.trans ((by rw[s1,s2]:X*N*(c*B)<=z*(4*D)*(c*B)↔X*c*B*N<=z*A*N).trans (Nat.mul_le_mul_right_iff hN))
  ·exact(Nat.mul_le_mul_right_iff hcB).symm.trans ((by rw[s1,s2]:z*(4*D)*(c*B)<=X*N*(c*B)↔z*A*N<=X*c*B*N).trans (Nat.mul_le_mul_right_iff hN))
 refine⟨fun h0=>?_,fun h0=>?_⟩
 ·have a:=hb.1 h0;exact⟨(key X1).1.1 a.1,(key X2).2.1 a.2⟩
 ·have a:=hb.2 h0
  refine⟨?_,?_⟩
  ·rw[<-Nat.not_le];intro hle;have:=(key X1).2.2 hle;omega
  ·rw[<-Nat.not_le];intro hle;have:=(key X2).1.2 hle;omega
theorem z92{m:Nat}{e:Int}(h:Ok m e){p:Int}(hp:p=pp m e):-348<=p/\p<=347/\(sft m e:Int)= -(e+lgp p+3)/\sft m e<64:=by have:=z0A (m:=m) h.e0 h.e1;rw[<-hp]at this;unfold sft;rw[<-hp];omega
theorem z55{m m0:Nat}{e E:Int}(h:Ok m e)(hm:m=m0*2^zz e)(hE:E=e+zz e):zV m0 E (if qw m e then 1 else 2) (shD m e) (shP m e):=by
 have hz:=z0x h.e0 h.e1;obtain⟨p1,p2,p3,p4⟩:=z92 h rfl;have hlo:=h.lo;have hhi:=h.hi;have hzp:2^zz e=2*2^(zz e-1):=(by have hz1:zz e=(zz e-1)+1:=(by omega);rw[hz1,Nat.pow_succ,Nat.mul_comm,Nat.add_sub_cancel]);have hq:=Nat.two_pow_pos (zz e-1);have p62:2^(zz e-1)<=2^62:=Nat.pow_le_pow_right (by omega) (by omega);have hodd:odd m e=m0%2:=(by unfold odd;rw[hm,Nat.mul_div_cancel _ (Nat.two_pow_pos _)]);have ho:odd m e<=1:=(by rw[hodd];omega);have e9:(2:Nat)^9=512:=by decide
 have main:∃(k:Int) (r X c w1 w2:Nat),2-E=(r:Int)-k/\2^r=4*c/\(X-w1)*c=4*m0-(if qw m e then 1 else 2)/\(X+w2)*c=4*m0+2/\w1<=w2/\w2<=2*w1/\w1<=X/\
   uu m e (mnv m e)=unr ((X-w1)*num (pp m e) k) (den (pp m e) k)/\uu m e (mxv m e)=unr ((X+w2)*num (pp m e) k) (den (pp m e) k)/\uu m e m=unr (X*num (pp m e) k) (den (pp m e) k)/\
   4*den (pp m e) k<=(X+w2)*num (pp m e) k/\(4*den (pp m e) k<w1*num (pp m e) k+w2*num (pp m e) k\/∃z,z3R (odd m e) ((X-w1)*num (pp m e) k) ((X+w2)*num (pp m e) k) (4*den (pp m e) k) z):=by
  by_cases hs:qw m e=true
  ·have hs':=hs
   unfold qw at hs';simp only[Bool.and_eq_true,decide_eq_true_eq]at hs';obtain⟨hm63,he⟩:=hs';have hpp:pp m e= -skw (e+11):=(by unfold pp;rw[if_pos hs]);have hz11:zz e=11:=(by unfold zz;rw[if_pos (by omega)]);rw[hz11]at hm hE;have hm0:m0=4503599627370496:=(by have e11:(2:Nat)^11=2048:=(by decide);omega);have G:=zaM (e:=e) (by omega) h.e1;have hw:=z8Z (e:=e) (by omega) h.e1;rw[<-hpp]at G hw;have ht:63+(-(e+lgp (pp m e)+3)).toNat<=63+sft m e:=(by omega);have U:∀X x,x=X*2^9->x<18446744073709551616->4<=x->X<72057594037927936->uu m e x=unr (X*num (pp m e) (11+e)) (den (pp m e) (11+e)):=fun X x hx hx2 hx4 hX=>
    z0N p1 p2 hx hx2 hx4 p4 (by omega) G hX ht
   refine⟨11+e,2,18014398509481984,1,1,2,by omega,by decide,by rw[if_pos hs,hm0],by rw[hm0],by omega,by omega,by omega,?_,?_,?_,?_,?_⟩
   ·refine U 18014398509481983 _ ?_ ?_ ?_ (by omega)<;>(unfold mnv;rw[if_pos hs,hm63];try decide)
   ·refine U 18014398509481986 _ ?_ ?_ ?_ (by omega)<;>(unfold mxv;rw[hz11,hm63];try decide)
   ·refine U 18014398509481984 _ ?_ ?_ ?_ (by omega)<;>(rw[hm63];try decide)
   ·omega
   ·left;omega
  ·have hsk:qw m e=false:=by cases hh:qw m e with|false=>rfl|true=>exact absurd hh hs
   have hpp:pp m e= -lg2 (e+zz e):=(by unfold pp;rw[if_neg hs]);have hX:m=2*m0*2^(zz e-1):=(by rw[hm,hzp,<-Nat.mul_assoc,Nat.mul_comm m0 2]);have hm1:1<=m0:=(by refine Nat.succ_le_of_lt (Nat.pos_of_ne_zero fun h0=>?_);rw[h0,Nat.zero_mul]at hm;omega);have hmn:mnv m e=(2*m0-1)*2^(zz e-1):=(by unfold mnv;rw[if_neg hs,Nat.sub_mul,Nat.one_mul,<-hX]);have hmx:mxv m e=(2*m0+1)*2^(zz e-1):=(by unfold mxv;rw[Nat.add_mul,Nat.one_mul,<-hX]);have hm54:2*m0<18014398509481984:=(by refine Nat.lt_of_not_le fun hle=>?_;have e10:2^10<=2^(zz e-1):=Nat.pow_le_pow_right (by omega) (by omega);have:=Nat.mul_le_mul hle e10;rw[<-hX]at this;have e10':(18014398509481984:Nat)*2^10=18446744073709551616:=(by decide);omega);have G:Gap (num (pp m e) (E+1)) (den (pp m e) (E+1)) (63+sft m e) 36028797018963968:=by
    by_cases h11:-1085<=e
    ·have hz11:zz e=11:=(by unfold zz;rw[if_pos h11]);have G:=zaR (e:=e) h11 h.e1;rw[hz11]at hpp hE;rw[show-lg2 (e+11)=pp m e from hpp.symm,show 12+e=E+1 by omega,show(-(e+lgp (pp m e)+3)).toNat=sft m e by omega]at G;exact G
    ·have hE2:E= -1074:=by rw[hE];unfold zz;rw[if_neg h11];omega
     have hpp2:pp m e=324:=(by rw[hpp,<-hE,hE2];decide);rw[hE2,hpp2];intro Y n hY0 hY;have g:=zcT Y n hY0 hY;have hsf:7<=sft m e:=(by(rw[hpp2]at p3;have:lgp 324=1076:=by decide);omega);have hpw:2^70<=2^(63+sft m e):=Nat.pow_le_pow_right (by decide) (by omega);rcases g with g|⟨g1,g2⟩|⟨g1,g2⟩
     ·exact .inl g
     ·exact .inr (.inl ⟨g1,Nat.le_trans g2 (Nat.mul_le_mul_left _ hpw)⟩)
     ·exact .inr (.inr ⟨g1,Nat.le_trans g2 (Nat.mul_le_mul_left _ hpw)⟩)
   have U:∀X x,x=X*2^(zz e-1)->x<18446744073709551616->4<=x->X<36028797018963968->uu m e x=unr (X*num (pp m e) (E+1)) (den (pp m e) (E+1)):=fun X x hx hx2 hx4 hX2=>
    z0N p1 p2 hx hx2 hx4 p4 (by omega) G hX2 (Nat.le_refl _)
   refine⟨E+1,3,2*m0,2,1,1,by omega,by decide,?_,by omega,by omega,by omega,by omega,?_,?_,?_,?_,?_⟩
   ·rw[if_neg hs,Nat.sub_mul];omega
   ·refine U (2*m0-1) _ hmn ?_ ?_ (by omega)
    ·unfold mnv;rw[if_neg hs];omega
    ·unfold mnv;rw[if_neg hs];have e62:(2:Nat)^62=4611686018427387904:=(by decide);omega
   ·refine U (2*m0+1) _ hmx ?_ ?_ (by omega)
    ·have hTop:2^(64-zz e)*2^zz e=18446744073709551616:=(by rw[<-Nat.pow_add,show 64-zz e+zz e=64 by omega]);have hlt:m0<2^(64-zz e):=(by refine(Nat.mul_lt_mul_right (Nat.two_pow_pos (zz e))).1 ?_;rw[<-hm,hTop];exact hhi);have:=Nat.mul_le_mul_right (2^zz e) (show m0+1<=2^(64-zz e)from hlt);rw[hTop,Nat.add_mul,Nat.one_mul,<-hm]at this;unfold mxv;omega
    ·unfold mxv;omega
   ·exact U (2*m0) _ hX hhi (by omega) (by omega)
   ·have hge:num (pp m e) (E+1)+num (pp m e) (E+1)<=(2*m0+1)*num (pp m e) (E+1):=by
     have:=Nat.mul_le_mul_right (num (pp m e) (E+1)) (show 2<=2*m0+1 by omega);omega
    by_cases h11:-1085<=e
    ·have hz11:zz e=11:=by unfold zz;rw[if_pos h11]
     rw[hz11]at hpp hE;have hw:=wide (e:=e) h11 h.e1;rw[show-lg2 (e+11)=pp m e from hpp.symm,show 12+e=E+1 by omega]at hw;rcases hw with hw|hw
     ·omega
     ·have hE2:E=0:=(by omega);have hpp2:pp m e=0:=(by rw[hpp,hw];decide);rw[hE2,hpp2];have hn:num 0 (0+1)=2:=(by decide);have hd:den 0 (0+1)=1:=(by decide);rw[hn,hd];omega
    ·have hE2:E= -1074:=by rw[hE];unfold zz;rw[if_neg h11];omega
     have hpp2:pp m e=324:=(by rw[hpp,<-hE,hE2];decide);have hw:=of_decide_eq_true z5F;rw[hE2,hpp2]at hge⊢
     rw[show(-1074:Int)+1= -1073 by decide]at hge⊢
     generalize num 324 (-1073)=N at*
     generalize den 324 (-1073)=D at*
     omega
   ·by_cases h11:-1085<=e
    ·have hz11:zz e=11:=by unfold zz;rw[if_pos h11]
     rw[hz11]at hpp hE;have hw:=wide (e:=e) h11 h.e1;rw[show-lg2 (e+11)=pp m e from hpp.symm,show 12+e=E+1 by omega]at hw;rcases hw with hw|hw
     ·left;omega
     ·right;have hE2:E=0:=(by omega);have hpp2:pp m e=0:=(by rw[hpp,hw];decide);rw[hE2,hpp2];have hn:num 0 (0+1)=2:=(by decide);have hd:den 0 (0+1)=1:=(by decide);rw[hn,hd];exact⟨m0,fun _=>by omega,fun _=>by omega⟩
    ·left
     have hE2:E= -1074:=(by rw[hE];unfold zz;rw[if_neg h11];omega);have hpp2:pp m e=324:=(by rw[hpp,<-hE,hE2];decide);have hw:=of_decide_eq_true z5F;rw[hE2,hpp2];rw[show(-1074:Int)+1= -1073 by decide];generalize num 324 (-1073)=N at*
     generalize den 324 (-1073)=D at*
     omega
 obtain⟨k,r,X,c,w1,w2,hr,hc,h1,h2,hw12,hw21,hwX,u1,u2,u3,h4,hw⟩:=main;have hD:=yE (pp m e) k;have e1:dmn m e=(unr ((X-w1)*num (pp m e) k) (den (pp m e) k)+odd m e+3)/4:=(by unfold dmn;rw[u1]);have e2:dmx m e=(unr ((X+w2)*num (pp m e) k) (den (pp m e) k)-odd m e)/4:=(by unfold dmx;rw[u2]);have h6:4<=unr ((X+w2)*num (pp m e) k) (den (pp m e) k):=by have:=(z76 (n:=(X+w2)*num (pp m e) k) (z:=1) hD);omega
 have P:=zeF (M:=X*num (pp m e) k) (lo:=w1*num (pp m e) k) (up:=w2*num (pp m e) k) hD ho h6 e1 e2
  (by rw[<-Nat.add_mul,show X-w1+w1=X by omega]) (by rw[<-Nat.add_mul]) (Nat.mul_le_mul_right _ hw12) (by rw[<-Nat.mul_assoc];exact Nat.mul_le_mul_right _ hw21) hw
 rw[hodd]at P;have W:∀z,z3R (m0%2) ((X-w1)*num (pp m e) k) ((X+w2)*num (pp m e) k) (4*den (pp m e) k) z->zV m0 E (if qw m e then 1 else 2) z (-(pp m e)):=fun z hb=>z8Y hr hc h1 h2 hb;unfold shD shP;by_cases c1:dmn m e<=dmx m e/10*10
 ·rw[if_pos c1,if_pos c1];exact z2P (W _ (P.1 c1))
 ·rw[if_neg c1,if_neg c1]
  by_cases c2:dmn m e<dmx m e
  ·rw[if_pos c2,u3];exact W _ (P.2.1 c1 c2)
  ·rw[if_neg c2];exact W _ (P.2.2 c2)
end Go.Proofs.YtkkecpamnnojoaaGreatDoor.Us
