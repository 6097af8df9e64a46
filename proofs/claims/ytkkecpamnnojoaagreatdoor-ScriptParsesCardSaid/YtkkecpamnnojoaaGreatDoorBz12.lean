/- A part of the proof of ScriptParses: nothing is assumed. By an AI agent. -/
import Derived.Lib.SmallJoins
import Derived.RangeFuncOwn
import Derived.RangeFuncLeaves
import Derived.Below
import Derived.RangeFuncNested
import Derived.RangeFuncBound
import Derived.RangeFuncCalls
import Derived.Shelf.Abstract
import Derived.Shelf.RegionOpen
import Derived.OwnWalkIn
import Derived.TacticsInMore
import Derived.LoopNIn
import Derived.LoopIn
import Derived.Deep.RegionLaw
import Derived.Laws.Strings
import Derived.ArgAppend
import Derived.RangeFuncBox
import Derived.Maps.OwnIn
import Derived.Test.YtkkecpamnnojoaaGreatDoorBz11
set_option linter.unusedVariables false
set_option linter.unusedSimpArgs false
set_option maxRecDepth 100000
set_option maxHeartbeats 32000000
namespace Go.Proofs.YtkkecpamnnojoaaGreatDoor
open Go.ChangeShapes Go.WideShapes Go.ChangeAt Go.RowKit
open Bt
theorem z5w(u:Nat)(hu:u<18446744073709551616)(hn:Flt.nan u=false):
  ∃s:Nat,Flt.zR u=s/\s<=9218868437227405312/\Sm.qe u=(if u<9223372036854775808 then(if s=0 then 6 else if s<4503599627370496 then 7 else if s<9218868437227405312 then 8 else 9)else 11-(if s=0 then 6 else if s<4503599627370496 then 7 else if s<9218868437227405312 then 8 else 9):Int):=by
 have h1:¬9218868437227405312<u%9223372036854775808:=fun x=>(by rw[(Re.z8A u).2 x]at hn;cases hn);refine⟨u%9223372036854775808,by unfold Flt.zR;rfl,by omega,?_⟩;unfold Sm.qe;rw[if_neg h1];generalize u%9223372036854775808=s at*
 have hx:(if s=9218868437227405312 then(9:Int)else if 4503599627370496<=s then 8 else if 0<s then 7 else 6)=(if s=0 then 6 else if s<4503599627370496 then 7 else if s<9218868437227405312 then 8 else 9):=by
  (repeat' split)<;>first|rfl|omega
 simp only;rw[hx]
theorem z84(u:Nat)(hu:u<18446744073709551616)(w:World):
  Calls Tryz.prog 69 #[.float .f64 u] w fun e w'=>e=.returned (.int .i64 (Sm.qe u))/\w=w':=by
 have e1:=z1W;have HN:=Qh (z6h u);cases hn:Flt.nan u
 ·rw[hn]at HN
  obtain⟨s,hs,hle,hc⟩:=z5w u hu hn;have el:=z8T u;rw[hs]at el;generalize Sm.qe u=c at*
  clear hs hn hu;have HC:=Qh hc;clear hc;by_cases ht:u<9223372036854775808
  ·have k1:decide ((u:Int)<9223372036854775808)=true:=by rw[decide_eq_true_eq];omega
   have k1':decide (u<9223372036854775808)=true:=(by rw[decide_eq_true_eq];exact ht);by_cases h0:s=0
   ·subst h0;obtain rfl:c=6:=(by rw[HC.out,if_pos ht];rfl);clear ht hle;go_in;go_wp2_with fail;refine(HN.out _).mono ?_;rintro e w1 ⟨rfl,rfl⟩;go_wp2_with fail;go_ret;exact⟨rfl,rfl⟩
   have g0:((s:Int)==0)=false:=Qb (by omega);have g0':(s==0)=false:=Qb (by omega);by_cases h1:s<4503599627370496
   ·have g1:decide ((s:Int)<4503599627370496)=true:=(by rw[decide_eq_true_eq];omega);have g1':decide (s<4503599627370496)=true:=(by rw[decide_eq_true_eq];exact h1);obtain rfl:c=7:=(by rw[HC.out,if_pos ht,if_neg h0,if_pos h1]);clear ht hle h0 h1;go_in;go_wp2_with fail;refine(HN.out _).mono ?_;rintro e w1 ⟨rfl,rfl⟩;go_wp2_with fail;go_ret;exact⟨rfl,rfl⟩
   have g1:decide ((s:Int)<4503599627370496)=false:=(by rw[decide_eq_false_iff_not];omega);have g1':decide (s<4503599627370496)=false:=(by rw[decide_eq_false_iff_not];exact h1);by_cases h2:s<9218868437227405312
   ·have g2:decide ((s:Int)<9218868437227405312)=true:=(by rw[decide_eq_true_eq];omega);have g2':decide (s<9218868437227405312)=true:=(by rw[decide_eq_true_eq];exact h2);obtain rfl:c=8:=(by rw[HC.out,if_pos ht,if_neg h0,if_neg h1,if_pos h2]);clear ht hle h0 h1 h2;go_in;go_wp2_with fail;refine(HN.out _).mono ?_;rintro e w1 ⟨rfl,rfl⟩;go_wp2_with fail;go_ret;exact⟨rfl,rfl⟩
   ·have g2:decide ((s:Int)<9218868437227405312)=false:=(by rw[decide_eq_false_iff_not];omega);have g2':decide (s<9218868437227405312)=false:=(by rw[decide_eq_false_iff_not];exact h2);obtain rfl:c=9:=(by rw[HC.out,if_pos ht,if_neg h0,if_neg h1,if_neg h2]);clear ht hle h0 h1 h2;go_in;go_wp2_with fail;refine(HN.out _).mono ?_;rintro e w1 ⟨rfl,rfl⟩;go_wp2_with fail;go_ret;exact⟨rfl,rfl⟩
  ·have k1:decide ((u:Int)<9223372036854775808)=false:=by rw[decide_eq_false_iff_not];omega
   have k1':decide (u<9223372036854775808)=false:=(by rw[decide_eq_false_iff_not];exact ht);by_cases h0:s=0
   ·subst h0;obtain rfl:c=5:=(by rw[HC.out,if_neg ht];rfl);clear ht hle;go_in;go_wp2_with fail;refine(HN.out _).mono ?_;rintro e w1 ⟨rfl,rfl⟩;go_wp2_with fail;go_ret;exact⟨rfl,rfl⟩
   have g0:((s:Int)==0)=false:=Qb (by omega);have g0':(s==0)=false:=Qb (by omega);by_cases h1:s<4503599627370496
   ·have g1:decide ((s:Int)<4503599627370496)=true:=(by rw[decide_eq_true_eq];omega);have g1':decide (s<4503599627370496)=true:=(by rw[decide_eq_true_eq];exact h1);obtain rfl:c=4:=(by rw[HC.out,if_neg ht,if_neg h0,if_pos h1];rfl);clear ht hle h0 h1;go_in;go_wp2_with fail;refine(HN.out _).mono ?_;rintro e w1 ⟨rfl,rfl⟩;go_wp2_with fail;go_ret;exact⟨rfl,rfl⟩
   have g1:decide ((s:Int)<4503599627370496)=false:=(by rw[decide_eq_false_iff_not];omega);have g1':decide (s<4503599627370496)=false:=(by rw[decide_eq_false_iff_not];exact h1);by_cases h2:s<9218868437227405312
   ·have g2:decide ((s:Int)<9218868437227405312)=true:=(by rw[decide_eq_true_eq];omega);have g2':decide (s<9218868437227405312)=true:=(by rw[decide_eq_true_eq];exact h2);obtain rfl:c=3:=(by rw[HC.out,if_neg ht,if_neg h0,if_neg h1,if_pos h2];rfl);clear ht hle h0 h1 h2;go_in;go_wp2_with fail;refine(HN.out _).mono ?_;rintro e w1 ⟨rfl,rfl⟩;go_wp2_with fail;go_ret;exact⟨rfl,rfl⟩
   ·have g2:decide ((s:Int)<9218868437227405312)=false:=(by rw[decide_eq_false_iff_not];omega);have g2':decide (s<9218868437227405312)=false:=(by rw[decide_eq_false_iff_not];exact h2);obtain rfl:c=2:=(by rw[HC.out,if_neg ht,if_neg h0,if_neg h1,if_neg h2];rfl);clear ht hle h0 h1 h2;go_in;go_wp2_with fail;refine(HN.out _).mono ?_;rintro e w1 ⟨rfl,rfl⟩;go_wp2_with fail;go_ret;exact⟨rfl,rfl⟩
 ·rw[hn]at HN;have hc:=Re.zag hn;rw[hc];go_in;go_wp2_with fail;refine(HN.out _).mono ?_;rintro e w1 ⟨rfl,rfl⟩;go_wp2_with fail;go_ret;exact⟨rfl,rfl⟩
end Go.Proofs.YtkkecpamnnojoaaGreatDoor
namespace Go.Proofs.YtkkecpamnnojoaaGreatDoor
open Go.ChangeShapes Go.WideShapes Go.ChangeAt Go.RowKit
open Bt Dc
theorem z94(u:Nat)(w:World)(hu:u<18446744073709551616)(hT:Tb w.heap.size w):
  Calls Tryz.prog 34 #[.float .f64 u] w fun e w'=>e=.returned (.string (txt u))/\Below w.heap.size w w':=by
 have hcs:=z3D u;have HC:=Qh (z84 u hu);have hfin:u%9223372036854775808<9218868437227405312->Us.exb u<2047:=fun h=>(by show u/2^52%2048<2047;omega);have HX:=Qh (Qa hfin hT);have HTX:=Qh (z77 u);have HR:=Qh hcs;generalize Sm.qe u=c at*
 generalize txt u=tx at*
 clear hcs hfin hT;by_cases h1:9218868437227405312<u%9223372036854775808
 ·have e1:=HR.1 h1;have e2:=HTX.out;rw[if_pos h1]at e2;subst e1 e2;clear HR HTX HX h1;go_in;go_wp2_with fail;refine(HC.out _).mono ?_;rintro e w' ⟨rfl,hw⟩;obtain rfl:w=w':=hw;go_wp2_with fail;go_ret;exact⟨rfl,Below.refl _ _⟩
 ·by_cases h2:u%9223372036854775808=9218868437227405312
  ·by_cases h3:u<9223372036854775808
   ·have e1:=HR.2.1 h2 h3;have e2:=HTX.out;rw[if_neg h1,if_pos h2,if_pos h3]at e2;subst e1 e2;clear HR HTX HX h1 h2 h3;go_in;go_wp2_with fail;refine(HC.out _).mono ?_;rintro e w' ⟨rfl,hw⟩;obtain rfl:w=w':=hw;go_wp2_with fail;go_ret;exact⟨rfl,Below.refl _ _⟩
   ·have e1:=HR.2.2.1 h2 h3;have e2:=HTX.out;rw[if_neg h1,if_pos h2,if_neg h3]at e2;subst e1 e2;clear HR HTX HX h1 h2 h3;go_in;go_wp2_with fail;refine(HC.out _).mono ?_;rintro e w' ⟨rfl,hw⟩;obtain rfl:w=w':=hw;go_wp2_with fail;go_ret;exact⟨rfl,Below.refl _ _⟩
  ·have e1:=HR.2.2.2 (by omega)
   have e2:=HTX.out;rw[if_neg h1,if_neg h2]at e2;subst e2;have HF:=Qh (z3s u w hu (HX.1 (by omega)) HX.2);have b1:(c==1)=false:=Qb (by omega);have b2:(c==2)=false:=Qb (by omega);have b9:(c==9)=false:=Qb (by omega);clear HR HTX HX h1 h2 e1;generalize yQ (Us.zQ u)=st at*
   go_in;go_wp2_with fail;refine(HC.out _).mono ?_;rintro e w' ⟨rfl,hw⟩;obtain rfl:w=w':=hw;go_wp2_with fail;refine HF.mono ?_;rintro e w1 ⟨rfl,hb⟩;have HB:=Qh hb;clear hb;go_wp2_with fail;go_ret;exact⟨rfl,HB.out⟩
theorem ze5{s:ByteArray}{i:Nat}(n1:s≠⟨#[110,97,110]⟩)(n2:s≠⟨#[105,110,102]⟩)(n3:s≠⟨#[45,105,110,102]⟩)(hi:i<s.size)(hc:¬Us.Chr (ch s (i:Int))):RrOk s 0 66:=z34 fun u hu e=>by obtain⟨-,-,hk,h4⟩:=z0V hu n1 n2 n3 e;obtain⟨ha,-⟩:=Us.z01 hk;have h256:∀c∈Us.zQ u,c<256:=fun c h=>Us.z3E (ha c h);have hsz:(yQ (Us.zQ u)).size=(Us.zQ u).length:=(by rw[<-xc,z1o h256]);have hil:i<(Us.zQ u).length:=(by rw[h4,hsz]at hi;exact hi);have:=qu h256 i hil;rw[h4,this]at hc;exact hc (ha _ (List.getElem_mem hil))
theorem ze4{s:ByteArray}(n1:s≠⟨#[110,97,110]⟩)(n2:s≠⟨#[105,110,102]⟩)(n3:s≠⟨#[45,105,110,102]⟩)(hi:40<s.size):RrOk s 0 66:=z34 fun u hu e=>by obtain⟨-,-,hk,h4⟩:=z0V hu n1 n2 n3 e;obtain⟨ha,hl⟩:=Us.z01 hk;have h256:∀c∈Us.zQ u,c<256:=fun c h=>Us.z3E (ha c h);have hsz:(yQ (Us.zQ u)).size=(Us.zQ u).length:=(by rw[<-xc,z1o h256]);rw[h4,hsz]at hi;omega
theorem za5(x:Int)(w:World):(callFunc 58 #[.int .u64 x]).run Tryz.prog w=.ok (.value (.float .f64 x.toNat)) w:=by kernel_rfl
theorem z7p(s:ByteArray)(w:World)(hs:s.size<=1073741824)(hE:Env w.heap.size w)(hX:∀w',Below w.heap.size w w'->z3P w')(hT:Tb w.heap.size w):Calls Tryz.prog 86 #[.string s] w (RdR s w):=by
 have HA:=Qh (xx s w hs hE hX);have HT:=Qh (fun(u:Nat) (w1:World) (hu:u<18446744073709551616) (hb:Below w.heap.size w w1)=>z94 u w1 hu (z4c (hT.on hb)));have HW:=Qh (Below.refl w.heap.size w);have HS:=Qh hs;clear hs hE hX hT;have hfb:=za5;by_cases n1:s=⟨#[110,97,110]⟩
 ·subst n1;go_in;go_wp2_with fail;go_ret2;exact RdR.of _ 0 rfl zaZ HW.out
 ·have q1:(s.toList==[110,97,110])=false:=z23 n1 (by rw[ByteArray.toList_eq])
  by_cases n2:s=⟨#[105,110,102]⟩
  ·subst n2;go_in;go_wp2_with fail;refine(Sm.zbX _).mono ?_;rintro e w1 ⟨rfl,rfl⟩;go_wp2_with fail;go_ret2;exact RdR.of _ 0 rfl zb0 HW.out
  ·have q2:(s.toList==[105,110,102])=false:=z23 n2 (by rw[ByteArray.toList_eq])
   by_cases n3:s=⟨#[45,105,110,102]⟩
   ·subst n3;go_in;go_wp2_with fail;refine(Sm.z6v _).mono ?_;rintro e w1 ⟨rfl,rfl⟩;go_wp2_with fail;go_ret2;exact RdR.of _ 0 rfl z8m HW.out
   ·have q3:(s.toList==[45,105,110,102])=false:=z23 n3 (by rw[ByteArray.toList_eq])
    have HN:=Qh (Qa n1 (Qa n2 n3));clear n1 n2 n3;by_cases hl:40<s.size
    ·have hl':(40:Int)<((s.size:Nat):Int):=(by omega);have hbad:=Qh (ze4 HN.1 HN.2.1 HN.2.2 hl);clear hl;go_in;go_wp2_with fail;go_ret2;exact RdR.of 0 66 rfl hbad.out HW.out
    ·have hl':¬(40:Int)<((s.size:Nat):Int):=by omega
     clear hl;go_in;go_wp2_with fail;go_loopg[4] s.size (fun gq s4 wx=>∃i:Nat,gq+i=s.size/\s4=.int .i64 (i:Int)/\wx=w)
     case atStart=>exact⟨0,by omega,rfl,rfl⟩
     case round=>
      obtain⟨i,hgi,rfl,hwr⟩:=hrel;subst hwr;have hw1:wrap64 ((i:Int)+1)=((i+1:Nat):Int):=(by have:=HS.out;unfold wrap64;omega);by_cases hi:i<s.size
      ·have hi':(i:Int)<((s.size:Nat):Int):=by omega
       have HRn:RowKit.Hid (wr=wr):=Qh rfl;by_cases c0:48<=ch s (i:Int)/\ch s (i:Int)<=57
       ·have d1:¬((ch s (i:Int):Nat):Int)<48:=by omega
        have d2:¬(57:Int)<((ch s (i:Int):Nat):Int):=(by omega);clear c0;go_wp2_with fail;go_roundg(gk-1)
        case measure=>omega
        case rel=>exact⟨i+1,by omega,by first|rfl|(rw[hw1];done),rfl⟩
       ·by_cases c1:Us.Chr (ch s (i:Int))
        ·have c2:ch s (i:Int)=45\/ch s (i:Int)=43\/ch s (i:Int)=46\/ch s (i:Int)=101:=c1.resolve_left c0
         clear c0 c1;rcases c2 with c|c|c|c
         all_goals
          have c':((ch s (i:Int):Nat):Int)=(ch s (i:Int):Nat):=rfl;rw[c]at c';generalize hcc:ch s (i:Int)=cc at*
          subst c;go_wp2_with fail;go_roundg(gk-1)
          case measure=>omega
          case rel=>exact⟨i+1,by omega,by first|rfl|(rw[hw1];done),rfl⟩
        ·have hbad:=Qh (ze5 HN.1 HN.2.1 HN.2.2 hi c1)
         have m1:(((ch s (i:Int):Nat):Int) != 45)=true:=(by rw[bne_iff_ne];intro e;exact c1 (Or.inr (Or.inl (by omega))));have m2:(((ch s (i:Int):Nat):Int) != 43)=true:=(by rw[bne_iff_ne];intro e;exact c1 (Or.inr (Or.inr (Or.inl (by omega)))));have m3:(((ch s (i:Int):Nat):Int) != 46)=true:=(by rw[bne_iff_ne];intro e;exact c1 (Or.inr (Or.inr (Or.inr (Or.inl (by omega))))));have m4:(((ch s (i:Int):Nat):Int) != 101)=true:=(by rw[bne_iff_ne];intro e;exact c1 (Or.inr (Or.inr (Or.inr (Or.inr (by omega))))));have hcond:((ch s (i:Int):Nat):Int)<48\/(¬((ch s (i:Int):Nat):Int)<48/\(57:Int)<((ch s (i:Int):Nat):Int)):=(by omega);clear c0 c1;rcases hcond with d|⟨d,d2⟩
         all_goals
          go_wp2_with fail;go_ret2;exact RdR.of 0 66 rfl hbad.out HW.out
      ·have hi':¬(i:Int)<((s.size:Nat):Int):=by omega
       clear hi;go_wp2_with fail;refine HA.mono ?_;rintro e w1 ⟨⟨f,v,rfl,hq⟩,hb⟩;have HU:RowKit.Hid (f<18446744073709551616/\∀u,Rds s u->f=u):=Qh ⟨hq.out.1,fun u hu=>(hq.out.2.2 u hu).1⟩;have HB1:=Qh hb;clear hq hb;have HTx:=Qh (HT.out f w1 HU.1 HB1.out);go_wp2_with fail;refine HTx.mono ?_;rintro e w2 ⟨rfl,hb2⟩;have HB2:=Qh (HB1.trans (hb2.mono HB1.size));clear hb2;by_cases ht:txt f=s
       ·have ht1:((txt f).toList==s.toList)=true:=by rw[ht];simp
        have ht2:((txt f).toList != s.toList)=false:=(by rw[ht];simp);have hgood:=Qh (z8n HN.1 HN.2.1 HN.2.2 HU.1 HU.2 ht);clear ht;generalize txt f=tx at*
        go_wp2_with fail;go_ret2;exact RdR.of f 0 rfl hgood.out HB2.out
       ·have ht1:((txt f).toList==s.toList)=false:=by rw[beq_eq_false_iff_ne];exact fun e=>ht (z2S e)
        have ht2:((txt f).toList != s.toList)=true:=(by rw[bne_iff_ne];exact fun e=>ht (z2S e));have hbad:RowKit.Hid (RrOk s 0 66):=Qh (z34 fun u hu e=>by
         obtain⟨h1,-,-,-⟩:=z0V hu HN.1 HN.2.1 HN.2.2 e;have:=HU.2 u h1;exact ht (by rw[this];exact e.symm))
        clear ht;generalize txt f=tx at*
        go_wp2_with fail;go_ret2;exact RdR.of 0 66 rfl hbad.out HB2.out
end Go.Proofs.YtkkecpamnnojoaaGreatDoor
namespace Go.Proofs.YtkkecpamnnojoaaGreatDoor
open Go.ChangeShapes Go.WideShapes Go.ChangeAt Go.RowKit
open Bt
end Go.Proofs.YtkkecpamnnojoaaGreatDoor
namespace Go.Proofs.YtkkecpamnnojoaaGreatDoor
open Go.ChangeShapes Go.WideShapes Go.ChangeAt Go.RowKit
open Bt Dc
theorem z7Y{B:Nat}{w:World}(h:Env B w):Env w.heap.size w:=by
 refine⟨fun w' k=>?_,Nat.le_refl _,Nat.lt_of_lt_of_le h.2.2 h.2.1⟩;have e:=h.1 w' (k.mono h.2.1);have hB:=h.2.1;refine⟨e.opt,e.p10,e.pows,?_,?_,e.blk⟩
 ·obtain⟨ad,cap,c1,h1,h2,c2⟩:=e.chs;exact⟨ad,cap,c1,by omega,by omega,c2⟩
 ·obtain⟨⟨ad,cap,c1,h1,h2,c2⟩,h3,h4⟩:=e.pws;exact⟨⟨ad,cap,c1,by omega,by omega,c2⟩,by omega,h4⟩
theorem zcZ{s:ByteArray}{y y':Nat}{k k':Int}(h:RrOk s y k)(h':RrOk s y' k'):y'=y/\k'=k:=by
 by_cases hx:∃u,u<18446744073709551616/\s=txt u
 ·obtain⟨u,hu,hs⟩:=hx;exact⟨(h'.yes u hu hs).1.trans (h.yes u hu hs).1.symm,(h'.yes u hu hs).2.trans (h.yes u hu hs).2.symm⟩
 ·have hn:∀u,u<18446744073709551616->s≠txt u:=fun u hu e=>hx ⟨u,hu,e⟩;exact⟨(h'.no hn).1.trans (h.no hn).1.symm,(h'.no hn).2.trans (h.no hn).2.symm⟩
theorem z57{s:ByteArray}{y:Nat}{k:Int}(h:RrOk s y k):k=0\/k=66:=by
 by_cases hx:∃u,u<18446744073709551616/\s=txt u
 ·obtain⟨u,hu,hs⟩:=hx;exact Or.inl (h.yes u hu hs).2
 ·exact Or.inr (h.no fun u hu e=>hx ⟨u,hu,e⟩).2
theorem z5H{u:Nat}(hu:u<18446744073709551616):(txt u).size<=1073741824:=by
 rcases z2t hu with⟨h1,h2⟩|⟨h1,h2⟩|⟨h1,h2⟩|⟨h1,h2,h3⟩
 ·rw[h2];decide
 ·rw[h2];decide
 ·rw[h2];decide
 ·rw[h3];obtain⟨hc,hl⟩:=Us.z01 h1;have h256:∀c∈Us.zQ u,c<256:=fun c h=>Us.z3E (hc c h);have hsz:(yQ (Us.zQ u)).size=(Us.zQ u).length:=(by rw[<-xc,z1o h256]);omega
end Go.Proofs.YtkkecpamnnojoaaGreatDoor
namespace Go.Proofs.YtkkecpamnnojoaaGreatDoor
open Go.ChangeShapes Go.WideShapes Go.ChangeAt Go.RowKit
open Bt Dc
namespace Sc
structure Ev (B:Nat) (w:World):Prop where
 env:Env B w
 tb:Tb B w
 errs:∀w',Below B w w'->z3P w'
 mx:∀w',Below B w w'->∃m,w'.cell? ⟨1,0,none⟩=some (.int .i64 m)
theorem Ev.on{B:Nat}{w w':World}(h:Ev B w)(k:Below B w w'):Ev B w':=
 ⟨h.env.on k,h.tb.on k,fun w2 k2=>h.errs w2 (k.trans k2),fun w2 k2=>h.mx w2 (k.trans k2)⟩
theorem Ev.le{B:Nat}{w:World}(h:Ev B w):B<=w.heap.size:=h.tb.size
theorem Ev.kept{B:Nat}{w w':World}(h:Ev B w)(k:Below w.heap.size w w'):Ev B w':=h.on (k.mono h.le)
theorem Ev.read{B:Nat}{w:World}(h:Ev B w)(s:ByteArray)(hs:s.size<=1073741824):Calls Tryz.prog 98 #[.string s] w (RdR s w):=
 z9j s w hs (z7Y h.env) (fun w' k=>h.errs w' (k.mono h.le)) (z4c h.tb)
theorem Ev.text{B:Nat}{w:World}(h:Ev B w)(u:Nat)(hu:u<18446744073709551616):Calls Tryz.prog 64 #[.float .f64 u] w fun e w'=>e=.returned (.string (txt u))/\Below w.heap.size w w':=
 z5O u w hu (z4c h.tb)
theorem zeS(s:Str)(w:World):Calls Tryz.prog 45 #[.string (zc s)] w fun e w'=>e=.returned (.int .i64 (zk s))/\w'=w:=by have h:=zbO (zc s) w;rwa[ze]at h
theorem z3G(s:Str)(w:World):Calls Tryz.prog 77 #[.string (zc s)] w fun e w'=>e=.returned (.int .i64 (zb s))/\w'=w:=by have h:=z1Y (zc s) w;rwa[ze]at h
theorem z6G(s:Str)(w:World):Calls Tryz.prog 99 #[.string (zc s)] w fun e w'=>e=.returned (.int .i64 (zq s))/\w'=w:=by have h:=z3X (zc s) w;rwa[ze]at h
theorem zcv(s:Str)(b:UInt8)(B:Nat)(w:World)(hE:Ev B w)(hs:s.length<=1073741824):
  Calls Tryz.prog 41 #[.string (zc s),.string ⟨#[b]⟩] w fun e w'=>e=.returned (.tuple #[.string (zc (ya b.toNat s)),.string (zc (yt b.toNat s)),.bool (has b.toNat s)])/\∃n,w'=w.drewN n:=by
 obtain⟨m,hm⟩:=hE.mx w (Below.refl _ _);have h:=Tryz.strings_Cut (zc s) ⟨#[b]⟩ m w (by rw[zw];omega) hm;rw[ze,show(⟨#[b]⟩:ByteArray).data.toList=[b]from rfl,zdW]at h;exact h
theorem zeM{s:Str}{v:Int}(h:Lib.parseIntB 64 s=.ok v):-9223372036854775808<=v/\v<=9223372036854775807:=by have:=Lib.parseIntB_bounds h;have e:(2^(64-1):Nat)=9223372036854775808:=(by decide);rw[e]at this;omega
theorem z0B(s:Str)(B:Nat)(w:World)(hE:Ev B w)(hs:s.length<=1073741824):
  Calls Tryz.prog 84 #[.string (zc s)] w fun e w'=>(∃(n:Int) (ok:Bool),e=.returned (.tuple #[.int .i64 n,.bool ok])/\RowKit.Hid (zh s=if ok then some n else none))/\Below w.heap.size w w':=by
 obtain⟨es,hes,hes2⟩:=(hE.errs w (Below.refl _ _)).1;obtain⟨er,her,her2⟩:=(hE.errs w (Below.refl _ _)).2;have hE2:=Qh hE;clear hE;cases hp:Lib.parseIntB 64 s with
 |ok v=>
  have hv:=zeM hp;have HP:=Qh (Tryz.strconv_ParseInt_10_at64_ok (zc s) (by rw[zw];omega) v (by rw[ze];exact hp) w);have HB:=Qh hv;have HS:=Qh hp;clear hp hv hes hes2 her her2;go_in;go_wp2_with fail;refine HP.mono ?_;rintro e w1 ⟨rfl,hw⟩;have hb1:Below w.heap.size w w1:=by
   rcases hw with rfl|⟨t,rfl⟩
   ·exact Below.refl _ _
   ·exact Go.Joins.below_bytesWorld _ _ 5 t (Nat.le_refl _)
  have HF:=Qh (Tryz.strconv_FormatInt_10 v HB.1 HB.2 w1 ((hE2.out.kept hb1).tb.tens w1 (Below.refl _ _)));have H1:=Qh hb1;clear hw hb1;by_cases hi:Lib.itoa v=s
  ·have hq:=Qh hi;have hs':((zc (Lib.itoa v)).toList==(zc s).toList)=true:=(by rw[hi];exact beq_self_eq_true _);clear hi;go_wp2_with(go_at_call 91;refine HF.mono ?_;rintro e w' ⟨rfl,k,os,rfl⟩;rw[show(⟨(Lib.itoa v).toArray⟩:ByteArray)=zc (Lib.itoa v)from rfl]);go_ret2;refine⟨⟨v,true,rfl,?_⟩,H1.trans ((Lib.below_grow _ _ (Nat.le_refl _) k os).mono H1.size)⟩;show zh s=_;unfold zh;rw[HS.out];simp[hq.out]
  ·have hq:=Qh hi;have hs':((zc (Lib.itoa v)).toList==(zc s).toList)=false:=(by refine z5e ?_;rw[ze];exact fun e=>hi e.symm);clear hi;go_wp2_with(go_at_call 91;refine HF.mono ?_;rintro e w' ⟨rfl,k,os,rfl⟩;rw[show(⟨(Lib.itoa v).toArray⟩:ByteArray)=zc (Lib.itoa v)from rfl]);go_ret2;refine⟨⟨v,false,rfl,?_⟩,H1.trans ((Lib.below_grow _ _ (Nat.le_refl _) k os).mono H1.size)⟩;show zh s=_;unfold zh;rw[HS.out];simp[hq.out]
 |range=>
  have HP:=Qh (Tryz.strconv_ParseInt_10_at64_range (zc s) (by rw[zw];omega) (by rw[ze];exact hp) er w her her2);have HS:=Qh hp;clear hp hes hes2 her her2;generalize Lib.intSat 64 (zc s).data.toList=z at*
  go_in;go_wp2_with fail;refine HP.mono ?_;rintro e w1 ⟨N,rfl,hN,hc,hb1⟩;have H1:=Qh hb1;clear hb1 hc hN;go_wp2_with fail;go_ret2;refine⟨⟨z,false,rfl,?_⟩,H1.out⟩;show zh s=_;unfold zh;rw[HS.out];rfl
 |_=>
  have HP:=Qh (Tryz.strconv_ParseInt_10_at64_syntax (zc s) (by rw[zw];omega) (by rw[ze];exact hp.trans rfl) es w hes hes2);have HS:=Qh hp;clear hp hes hes2 her her2;go_in;go_wp2_with fail;refine HP.mono ?_;rintro e w1 ⟨N,rfl,hN,hc,hb1⟩;have H1:=Qh hb1;clear hb1 hc hN;go_wp2_with fail;go_ret2;refine⟨⟨0,false,rfl,?_⟩,H1.out⟩;show zh s=_;unfold zh;rw[HS.out];rfl
theorem z54{st:Nat}(h:st<=5):stV st=.func (.func (stF st)) #[] #[]:=by unfold stV;rw[if_neg (by omega)]
theorem z4q(k:Int)(w:World):Calls Tryz.prog 109 #[.int .i64 k] w fun e w'=>e=.returned (stV (xQ k))/\w'=w:=by
 by_cases h1:k=6
 ·subst h1;go_in;go_wp2_with fail;go_ret;exact⟨rfl,rfl⟩
 by_cases h2:k=7
 ·subst h2;go_in;go_wp2_with fail;go_ret;exact⟨rfl,rfl⟩
 have h3:=Qh (show xQ k=6 from by unfold xQ;rw[if_neg h1,if_neg h2]);go_in;go_wp2_with fail;go_ret;exact⟨by rw[h3.out];rfl,rfl⟩
theorem z4d(k:Int)(w:World):Calls Tryz.prog 96 #[.int .i64 k] w fun e w'=>e=.returned (stV (xP k))/\w'=w:=by
 by_cases h1:k=4
 ·subst h1;go_in;go_wp2_with fail;go_ret;exact⟨rfl,rfl⟩
 by_cases h2:k=5
 ·subst h2;go_in;go_wp2_with fail;go_ret;exact⟨rfl,rfl⟩
 have b1:(k==4)=false:=(by rw[beq_eq_false_iff_ne];exact h1);have b2:(k==5)=false:=(by rw[beq_eq_false_iff_ne];exact h2);have h3:=Qh (show xP k=xQ k from by unfold xP;rw[if_neg (by omega)]);have hp:=Qh (z4q k w);generalize xQ k=m at*
 go_in;go_wp2_with(go_at_call 109;refine hp.out.mono ?_;rintro e w' ⟨rfl,hw⟩;obtain rfl:w=w':=hw.symm);go_ret;exact⟨by rw[h3.out];rfl,rfl⟩
theorem z5o(k:Int)(w:World):Calls Tryz.prog 72 #[.int .i64 k] w fun e w'=>e=.returned (stV (nxt 2 k))/\w'=w:=by
 by_cases h1:k=3
 ·subst h1;go_in;go_wp2_with fail;go_ret;exact⟨rfl,rfl⟩
 by_cases h2:k=5
 ·subst h2;go_in;go_wp2_with fail;go_ret;exact⟨rfl,rfl⟩
 have h3:=Qh (show nxt 2 k=xP k from by unfold nxt;rw[if_neg (by omega),if_neg (by omega),if_pos rfl,if_neg h1,if_neg h2]);have hp:=Qh (z4d k w);generalize xP k=m at*
 go_in;go_wp2_with(go_at_call 96;refine hp.out.mono ?_;rintro e w' ⟨rfl,hw⟩;obtain rfl:w=w':=hw.symm);go_ret;exact⟨by rw[h3.out];rfl,rfl⟩
theorem za1(k:Int)(w:World):Calls Tryz.prog 17 #[.int .i64 k] w fun e w'=>e=.returned (stV (nxt 0 k))/\w'=w:=by
 by_cases h1:k=1
 ·subst h1;go_in;go_wp2_with fail;go_ret;exact⟨rfl,rfl⟩
 have h3:=Qh (show nxt 0 k=6 from by unfold nxt;rw[if_pos rfl,if_neg h1]);go_in;go_wp2_with fail;go_ret;exact⟨by rw[h3.out];rfl,rfl⟩
theorem z7l(k:Int)(w:World):Calls Tryz.prog 39 #[.int .i64 k] w fun e w'=>e=.returned (stV (nxt 1 k))/\w'=w:=by
 by_cases h1:k=2
 ·subst h1;go_in;go_wp2_with fail;go_ret;exact⟨rfl,rfl⟩
 have h3:=Qh (show nxt 1 k=6 from by unfold nxt;rw[if_neg (by omega),if_pos rfl,if_neg h1]);go_in;go_wp2_with fail;go_ret;exact⟨by rw[h3.out];rfl,rfl⟩
theorem zcm(k:Int)(w:World):Calls Tryz.prog 137 #[.int .i64 k] w fun e w'=>e=.returned (stV (nxt 5 k))/\w'=w:=by
 by_cases h1:k=3
 ·subst h1;go_in;go_wp2_with fail;go_ret;exact⟨rfl,rfl⟩
 by_cases h2:k=7
 ·subst h2;go_in;go_wp2_with fail;go_ret;exact⟨rfl,rfl⟩
 have b1:(k==3)=false:=(by rw[beq_eq_false_iff_ne];exact h1);have b2:(k==7)=false:=(by rw[beq_eq_false_iff_ne];exact h2);have h3:=Qh (show nxt 5 k=6 from by unfold nxt;rw[if_neg (by omega),if_neg (by omega),if_neg (by omega),if_neg (by omega),if_neg (by omega),if_neg (by omega)]);go_in;go_wp2_with fail;go_ret;exact⟨by rw[h3.out];rfl,rfl⟩
theorem z25(st:Nat)(hst:st<=5)(k:Int)(w:World):Calls Tryz.prog (stF st) #[.int .i64 k] w fun e w'=>e=.returned (stV (nxt st k))/\w'=w:=by
 obtain rfl|rfl|rfl|rfl|rfl|rfl:st=0\/st=1\/st=2\/st=3\/st=4\/st=5:=by omega
 ·exact za1 k w
 ·exact z7l k w
 ·exact z5o k w
 ·exact z4d k w
 ·exact z4q k w
 ·exact zcm k w
theorem zbt{st:Nat}{k:Int}:nxt st k<=6:=by
 (unfold nxt xP xQ;repeat' split);all_goals omega
def blN(n:Nat):Bool:=decide (n=32)||decide (n=9)
def okN(n:Nat):Bool:=blN n||(decide (33<=n)&&decide (n<=126))
theorem qu(s:Str)(i:Nat)(h:i<s.length):ch (zc s) (i:Int)=(s[i]).toNat:=by unfold ch zc;rw[Int.toNat_natCast,getElem!_pos _ i (by simpa using h)];simp
theorem z8P(n:Nat)(w:World)(hn:n<256):Calls Tryz.prog 74 #[.int .u8 (n:Int)] w fun e w'=>e=.returned (.bool (blN n))/\w'=w:=by have h:=zaj (UInt8.ofNat n) w;have e:(UInt8.ofNat n).toNat=n:=(by simp[UInt8.toNat_ofNat'];omega);unfold yC at h;rw[e]at h;exact h
theorem zfe{s:Str}(h:∀i (hi:i<s.length),okN (s[i]).toNat=true):s.all okB=true:=by rw[List.all_eq_true];intro c hc;obtain⟨i,hi,rfl⟩:=List.mem_iff_getElem.1 hc;exact h i hi
theorem zeO{s:Str}{i:Nat}(hi:i<s.length)(h:okN (s[i]).toNat=false):s.all okB=false:=by rw[List.all_eq_false];exact⟨s[i],List.getElem_mem hi,by rw[show okB s[i]=okN (s[i]).toNat from rfl,h];simp⟩
theorem zd6(s:Str)(w:World)(hs:s.length<=1073741824):Calls Tryz.prog 42 #[.string (zc s)] w fun e w'=>e=.returned (.bool (s.all okB))/\w'=w:=by
 obtain⟨N,hN⟩:=Qx s.length;have hZ:((zc s).size:Int)=(N:Int):=(by rw[zw s,hN]);have HCH:=Qh (qu s);have HN:=Qh hN;have HNO:=Qh (fun i=>@zeO s i);have HAL:=Qh (@zfe s);generalize s.all okB=R at*
 rw[hN]at hs;clear hN;generalize hS:zc s=S at*
 clear hS;go_in;go_wp2_with fail;go_loopg[3,4] N (fun gq s3 s4 wr=>∃k:Nat,gq+k=N/\s3=.int .i64 (k:Int)/\wr=w/\Hid (∀j (hj:j<s.length),j<k->okN (s[j]).toNat=true))
 case atStart=>exact⟨0,by omega,rfl,rfl,fun j _ h=>by omega⟩
 case round=>
  obtain⟨k,hgk,rfl,rfl,HK⟩:=hrel;by_cases hk:k<N
  ·have hkl:k<s.length:=by rw[HN.out];exact hk
   have h1:(k:Int)<(S.size:Int):=(by omega);have h2:(0:Int)<=(k:Int):=(by omega);have hlt:=yU S (k:Int);have HG:=Qh (show okN (ch S (k:Int))=true->∀j (hj:j<s.length),j<k+1->okN (s[j]).toNat=true from fun hh j hj hjk=>by
    rcases Nat.lt_or_ge j k with h|h
    ·exact HK.out j hj h
    ·obtain rfl:j=k:=by omega
     rw[HCH.out j hj]at hh;exact hh)
   have HF:=Qh (show okN (ch S (k:Int))=false->R=false from fun hh=>by
    rw[HCH.out k hkl]at hh;exact HNO.out k hkl hh)
   clear hkl;generalize hn:ch S (k:Int)=n at*
   have HB:=Qh (z8P n wr hlt);by_cases hb:blN n=true
   ·rw[hb]at HB
    have hok:=Qh (show okN n=true from by unfold okN;rw[hb];rfl);clear hb;go_wp2_with(go_at_call 74;refine HB.mono ?_;rintro e w' ⟨rfl,hw⟩;obtain rfl:wr=w':=hw.symm);go_roundg(gk-1);all_goals first|omega|skip
    case rel=>exact⟨k+1,by omega,rfl,rfl,HG.out hok.out⟩
   ·have hb':blN n=false:=by simpa using hb
    rw[hb']at HB;clear hb;by_cases h33:n<33
    ·have hok:=Qh (show okN n=false from by unfold okN;rw[hb',decide_eq_false (by omega)];rfl);clear hb';have h33':(n:Int)<33:=(by omega);go_wp2_with(go_at_call 74;refine HB.mono ?_;rintro e w' ⟨rfl,hw⟩;obtain rfl:wr=w':=hw.symm);go_ret;exact⟨by rw[HF.out hok.out];rfl,rfl⟩
    ·have h33':¬(n:Int)<33:=by omega
     by_cases h126:126<n
     ·have hok:=Qh (show okN n=false from by unfold okN;rw[hb',decide_eq_false (show¬n<=126 by omega),Bool.and_false];rfl);clear hb';have h126':(126:Int)<n:=(by omega);go_wp2_with(go_at_call 74;refine HB.mono ?_;rintro e w' ⟨rfl,hw⟩;obtain rfl:wr=w':=hw.symm);go_ret;exact⟨by rw[HF.out hok.out];rfl,rfl⟩
     ·have hok:=Qh (show okN n=true from by unfold okN;rw[hb',decide_eq_true (show 33<=n by omega),decide_eq_true (show n<=126 by omega)];rfl)
      clear hb';have h126':¬(126:Int)<n:=(by omega);go_wp2_with(go_at_call 74;refine HB.mono ?_;rintro e w' ⟨rfl,hw⟩;obtain rfl:wr=w':=hw.symm);go_roundg(gk-1);all_goals first|omega|skip
      case rel=>exact⟨k+1,by omega,rfl,rfl,HG.out hok.out⟩
  ·obtain rfl:k=N:=(by omega);go_wp2_with fail;go_ret;exact⟨by rw[HAL.out fun i hi=>HK.out i hi (by rw[<-HN.out];exact hi)];rfl,rfl⟩
end Sc
end Go.Proofs.YtkkecpamnnojoaaGreatDoor
namespace Go.Proofs.YtkkecpamnnojoaaGreatDoor.It
open Go.RowKit
variable {F:Fence} {n:Nat} {P:Program}
structure Left (n0 b:Nat) (A B:World):Prop where
 below:Below n0 A B
 cell:B.heap[b]?=A.heap[b]?
theorem Left.trans{n0 b:Nat}{A B C:World}(h:Left n0 b A B)(k:Left n0 b B C):Left n0 b A C:=⟨h.below.trans k.below,k.cell.trans h.cell⟩
theorem Left.put{n0 b:Nat}(A:World){l:Nat}(o:Obj)(hl:n0<=l)(hb:b≠l):Left n0 b A (A.putObj l o):=
 ⟨⟨rfl,rfl,rfl,by simp,fun k hk=>World.putObj_heap_other (by omega)⟩,World.putObj_heap_other hb⟩
def zfL{α:Type}(n0 b d:Nat)(I Ix:List α->World->Prop)(ys:List α)(W:World):Exit->Act->World->Prop
 | .normal,_,W'=>(W'.heap[d]?=W.heap[d]?/\W'.heap[d+1]?=W.heap[d+1]?)/\Left n0 b W W'/\I ys W'
 | .ret,_,W'=>(W'.heap[d]?=W.heap[d]?/\W'.heap[d+1]?=W.heap[d+1]?)/\Ix ys W'
 |_,_,_=>False
def z8U{α:Type}(F:Fence)(n:Nat)(P:Program)(gf:Nat)(lb:Array Value)(encs:α->Array Value)(n0 b:Nat)(xs:List α)(w:World):Prop:=
 ∀(l:Nat) (J Jx:List α->World->Prop) (W:World),Left n0 b w W->w.heap.size<=W.heap.size->
  (∀pre A A',J pre A->A.grownBy A' none->J pre A')->(∀pre A v,J pre A->J pre (A.setCell ⟨b,0,none⟩ v))->
  (∀pre x A,pre++[x]<+:xs->J pre A->YieldAt F (n-1) P l (encs x) A fun e A'=>(e=.returned (.bool true)/\J (pre++[x]) A'/\Left n0 b A A')\/(e=.returned (.bool false)/\Jx (pre++[x]) A'))->
  J [] W->CallsIn F n P gf (#[.func (.yield l) #[] #[]]++lb) W fun e W'=>(∃v,e=.returned v)/\(J xs W'\/∃pre x,pre++[x]<+:xs/\Jx (pre++[x]) W')
theorem z6a{α:Type}{g:Operand}{ps:Array Tmp}{assign body:Code}{Q:Exit->Act->World->Prop}{a:Act}{w:World}
  (hro:F.round=none)(h1:1<=n){gf:Nat}{lb:Array Value}(hg:a.eval g=.func (.func gf) #[] lb)(hFg:F.fn gf)(eg:∀args w,(callFunc gf args).run P w=.ok (.enter gf args) w)
  {encs:α->Array Value}(hps:∀x,(encs x).size=ps.size)(n0 b:Nat)(hn0:n0<=w.heap.size)(hb:b<w.heap.size)(xs:List α)(hseq:z8U F (n-1) P gf lb encs n0 b xs w)
  (I Ix:List α->World->Prop)
  (hIg:∀pre A A',I pre A->A.grownBy A' none->I pre A')(hIb:∀pre A v,I pre A->I pre (A.setCell ⟨b,0,none⟩ v))(hIl:∀pre A o lp,I pre A->A.heap[w.heap.size+1]?=some (.loop lp)->I pre (A.putObj (w.heap.size+1) o))(hIxl:∀pre A o lp,Ix pre A->A.heap[w.heap.size+1]?=some (.loop lp)->Ix pre (A.putObj (w.heap.size+1) o))
  (h0:I [] w)(a₁:α->Act)
  (hassign:∀(l:Nat) (x:α) (W:World) (K:Act->World->Prop),K (a₁ x) W->
   assign.wpIn (F.inRound l) (n-1-1) P (Exit.then K (fun _ _ _=>False)) {tmps:=(ps.zip (encs x)).foldl (fun t (p,v)=>t.setIfInBounds p v) a.tmps,defers:=[]} W)
  (hbody:∀(l:Nat) (pre:List α) (x:α) (W:World),pre++[x]<+:xs->W.heap[w.heap.size]?=some (.deferred (some []))->(∃lp,W.heap[w.heap.size+1]?=some (.loop lp))->I pre W->body.wpIn (F.inRound l) (n-1-1) P (zfL n0 b w.heap.size I Ix (pre++[x]) W) (a₁ x) W)
  (hdone:∀(W:World),I xs W->W.heap[w.heap.size]?=some (.deferred (some []))->Q .normal {a with defers:={target:=.collected w.heap.size,args:=#[]}::a.defers} W)
  (hstop:∀(pre:List α) (x:α) (W:World),pre++[x]<+:xs->Ix (pre++[x]) W->W.heap[w.heap.size]?=some (.deferred (some []))->Code.ret.wpIn F n P Q {a with defers:={target:=.collected w.heap.size,args:=#[]}::a.defers} W):
  (Code.rangeFunc g ps assign body).wpIn F n P Q a w:=by
 refine wpIn_rangeFunc ?_;intro fn hfn;rw[hro];obtain⟨rec,hrec⟩:∃rec:LoopState->Option Code->Loop,rec=fun st pe=>{state:=st,pending:=pe,fn,tmps:=a.tmps,params:=ps,assign,body,defers:=w.heap.size}:=⟨_,rfl⟩;obtain⟨W1,hW1⟩:=Qx ((w.alloc (.deferred (some []))).alloc (.loop (rec .ready none)));have hold:∀k,k<w.heap.size->W1.heap[k]?=w.heap[k]?:=fun k hk=>(by rw[<-hW1];exact(Below.heap_alloc _ _ k (by simp;omega)).trans (Below.heap_alloc _ _ k hk));have hsz:W1.heap.size=w.heap.size+2:=(by rw[<-hW1];simp);have hL1:W1.heap[w.heap.size+1]?=some (.loop (rec .ready none)):=(by rw[<-hW1];have:=World.alloc_heap_new (w.alloc (.deferred (some []))) (.loop (rec .ready none));rwa[World.size_alloc]at this);have hK1:W1.heap[w.heap.size]?=some (.deferred (some [])):=(by rw[<-hW1];exact(Below.heap_alloc _ _ _ (by simp)).trans (World.alloc_heap_new w _));have hI1:I [] W1:=(by rw[<-hW1];exact hIg _ _ _ (hIg _ _ _ h0 (World.grownBy_alloc w _ none)) (World.grownBy_alloc _ _ none));have hleft:Left n0 b w W1:=⟨⟨by rw[<-hW1];rfl,by rw[<-hW1];rfl,by rw[<-hW1];rfl,by omega,fun k hk=>hold k (by omega)⟩,hold b hb⟩
 refine⟨w.heap.size+1,[{target:=.collected w.heap.size,args:=#[]}],W1,{target:=.fn (.func gf) lb,args:=#[.func (.yield (w.heap.size+1)) #[] #[]]},W1,gf,
  #[.func (.yield (w.heap.size+1)) #[] #[]]++lb,W1,?_,?_,?_,?_,fun _=>h1,?_⟩
 ·rw[<-hW1,hrec];exact run_enterLoop_outer _ _ _ _ _
 ·simp only[resolve,hg];simp[go_sem]
 ·intro f' hf';simp[Target.leads]at hf';subst hf';exact hFg
 ·simp[invoke,go_sem,eg]
 refine(hseq (w.heap.size+1) (fun pre W=>I pre W/\W.heap[w.heap.size+1]?=some (.loop (rec .ready none))/\W.heap[w.heap.size]?=some (.deferred (some [])))
  (fun pre W=>Ix pre W/\W.heap[w.heap.size+1]?=some (.loop (rec .done (some .ret)))/\W.heap[w.heap.size]?=some (.deferred (some [])))
  W1 hleft (by omega) ?_ ?_ ?_ ⟨hI1,hL1,hK1⟩).mono ?_
 ·rintro pre A A' ⟨hi,hl,hk⟩ hg';exact⟨hIg _ _ _ hi hg',(hg'.block _ (Array.getElem?_eq_some_iff.1 hl).1 (by simp)).trans hl,(hg'.block _ (Array.getElem?_eq_some_iff.1 hk).1 (by simp)).trans hk⟩
 ·rintro pre A v ⟨hi,hl,hk⟩;exact⟨hIb _ _ _ hi,(Below.heap_setCell A ⟨b,0,none⟩ v _ (show w.heap.size+1≠b by omega)).trans hl,(Below.heap_setCell A ⟨b,0,none⟩ v _ (show w.heap.size≠b by omega)).trans hk⟩
 ·rintro pre x A hpre ⟨hi,hl,hk⟩
  have hlt:w.heap.size+1<A.heap.size:=(Array.getElem?_eq_some_iff.1 hl).1;have hy:=run_yield (P:=P) (args:=encs x) hl (by rw[hrec];exact hps x);rw[hrec]at hy;refine⟨fn,_,assign,body,hy,roundIn_of_wpIn hfn (hassign _ x A _ ⟨_,run_beginRound hl (by rw[hrec]),?_⟩)⟩;obtain⟨A2,hA2⟩:∃A2,A.putObj (w.heap.size+1) (.loop {rec .ready none with state:=.busy})=A2:=⟨_,rfl⟩;have hl2:A2.heap[w.heap.size+1]?=some (.loop {rec .ready none with state:=.busy}):=(by rw[<-hA2];exact World.putObj_heap_same hlt);have hk2:A2.heap[w.heap.size]?=some (.deferred (some [])):=(by rw[<-hA2];exact(World.putObj_heap_other (by omega)).trans hk);have hi2:I pre A2:=(by rw[<-hA2];exact hIl _ _ _ _ hi hl);have hlf:Left n0 b A A2:=(by rw[<-hA2];exact Left.put A _ (by omega) (by omega));rw[hA2];refine wpIn_mono (hbody _ pre x A2 hpre hk2 ⟨_,hl2⟩ hi2) ?_;rintro e a3 W3 hp;cases e with
  |normal=>
   obtain⟨⟨hd,hd1⟩,hl3,hi3⟩:=hp;have hr:=run_endRound (P:=P) none (hd1.trans hl2);rw[hrec]at hr hl2⊢
   refine⟨_,_,hr,Or.inl ⟨rfl,⟨hIl _ _ _ _ hi3 (hd1.trans hl2),World.putObj_heap_same (Array.getElem?_eq_some_iff.1 (hd1.trans hl2)).1,(World.putObj_heap_other (by omega)).trans (hd.trans hk2)⟩,(hlf.trans hl3).trans (Left.put W3 _ (by omega) (by omega))⟩⟩
  |ret=>
   obtain⟨⟨hd,hd1⟩,hi3⟩:=hp;have hr:=run_endRound (P:=P) (some .ret) (hd1.trans hl2);rw[hrec]at hr hl2⊢
   exact⟨_,_,hr,Or.inr ⟨rfl,hIxl _ _ _ _ hi3 (hd1.trans hl2),World.putObj_heap_same (Array.getElem?_eq_some_iff.1 (hd1.trans hl2)).1,(World.putObj_heap_other (by omega)).trans (hd.trans hk2)⟩⟩
  |exit id=>exact hp.elim
  |goto t=>exact hp.elim
  |panic ch=>exact hp.elim
  |outgrown=>exact hp.elim
 ·rintro e W2 ⟨⟨v,rfl⟩,(⟨hi,hl,hk⟩|⟨pre,x,hpre,hi,hl,hk⟩)⟩
  ·exact⟨none,_,by have:=run_endLoop (P:=P) hl (by rw[hrec];simp);rw[hrec]at this;exact this,hdone _ (hIl _ _ _ _ hi hl) ((World.putObj_heap_other (by omega)).trans hk)⟩
  ·exact⟨some .ret,_,by have:=run_endLoop (P:=P) hl (by rw[hrec];simp);rw[hrec]at this;exact this,hstop pre x _ hpre (hIxl _ _ _ _ hi hl) ((World.putObj_heap_other (by omega)).trans hk)⟩
end Go.Proofs.YtkkecpamnnojoaaGreatDoor.It
namespace Go.Proofs.YtkkecpamnnojoaaGreatDoor
open Go.ChangeShapes Go.WideShapes Go.ChangeAt Go.RowKit Go.Shelf
open Bt Dc
namespace Sc
theorem z7R(s:ByteArray)(w:World):Calls Tryz.prog 18 #[.string s] w fun e w'=>e=.returned (.func (.func 40) #[] #[.pointer (some ⟨w.heap.size,0,none⟩)])/\w'=w.alloc (.cells #[.string s] 9):=by go_in;go_wp2_with fail;go_ret;exact⟨rfl,rfl⟩
theorem z70(s:ByteArray)(w:World):Calls Tryz.prog 44 #[.string s] w fun e w'=>e=.returned (.func (.func 76) #[] #[.pointer (some ⟨w.heap.size,0,none⟩)])/\w'=w.alloc (.cells #[.string s] 9):=by go_in;go_wp2_with fail;go_ret;exact⟨rfl,rfl⟩
theorem z7V(w:World)(k:Nat):w.grownBy (w.drewN k) none:=⟨rfl,rfl,rfl,Nat.le_refl _,fun _ _ _=>rfl⟩
def z7e(b:Nat)(w:World):Nat:=match w.cell? ⟨b,0,none⟩with
 |some (.string s)=>s.size
 |_=>0
theorem z4e{b:Nat}{w:World}{s:Str}(h:w.cell? ⟨b,0,none⟩=some (.string (zc s))):z7e b w=s.length:=by unfold z7e;rw[h];exact zw s
theorem z6m(n n0 b:Nat)(s:Str)(w:World)(hn:1<=n)(hb0:n0<=b)(hE:Ev n0 w)(hb:w.heap[b]?=some (.cells #[.string (zc s)] 9 (0,0)))(hs:s.length<=1073741824):
  It.z8U Fence.wide n Tryz.prog 40 #[.pointer (some ⟨b,0,none⟩)] (fun x:Str=>#[.string (zc x)]) n0 b (zA s) w:=by
 intro l J Jx W hL hsz hJg hJb hY h0;have HE:=Qh (hE.on hL.below);have HB:=Qh (hL.cell.trans hb);have HY:=Qh hY;have HJ:=Qh (Qa hJg hJb);have HS:=Qh hs;have hcW:=za HB.out 0;have hfW:=zd HB.out 0;clear hY hJg hJb hE hb hL hsz hs;refine callsIn_of_wp Tryz.func40 rfl trivial ?_ rfl;simp only[Tryz.ntmps40,List.size_toArray,List.length_cons,List.length_nil,Nat.reduceAdd,Nat.reduceSub,Array.replicate_succ,Array.replicate_zero,List.push_toArray,List.append_toArray,List.nil_append,List.cons_append];gi_wp2
 gi_loopw [3,4,5] (fun _ _ _ wr=>∃(pre:List Str) (rest:Str),zA s=pre++zA rest/\wr.cell? ⟨b,0,none⟩=some (.string (zc rest))/\wr.frozen? ⟨b,0,none⟩=false/\J pre wr/\Ev n0 wr/\rest.length<=1073741824)
  (fun _ _ _ wr=>z7e b wr)
 case atStart=>
  exact⟨[],s,rfl,hcW,hfW,h0,HE.out,HS.out⟩
 case round=>
  obtain⟨pre,rest,hl,hc,hf,hJ,hE,hlen⟩:=hrel;have HM:=Qh (z4e hc);cases rest with
  |nil=>
   have HL:=Qh hl;have hz:(zc ([]:Str)).size=0:=rfl;clear hl;gi_wp2;go_end0;refine⟨⟨_,rfl⟩,.inl ?_⟩;rw[HL.out];simpa[zA]using hJ
  |cons c0 r0=>
   obtain⟨rest,hr⟩:∃rest,c0::r0=rest:=⟨_,rfl⟩;have hne:rest≠[]:=(by rw[<-hr];simp);rw[hr]at hl hc hlen HM;clear hr;have hz:(0:Int)<((zc rest).size:Int):=(by rw[zw];have:=List.length_pos_iff.2 hne;omega);have HL:=Qh (show zA s=(pre++[ya 10 rest])++zA (yt 10 rest)from by rw[hl,z2f hne];simp);have HLT:=Qh (z0r 10 rest hne);have HEN:=Qh (Qa hE hlen);have HCUT:=Qh (zcv rest 10 n0 wr hE hlen);have HJ0:=Qh hJ;clear hl hE hlen hJ hne;have hfc:Fence.wide.fn 41:=trivial;have hpre:pre++[ya 10 rest]<+:zA s:=⟨zA (yt 10 rest),HL.symm⟩;gi_wp2_with(gi_at_call 41;refine(callsIn_wide.2 HCUT.out).mono ?_;rintro e w2 ⟨rfl,q,rfl⟩;obtain⟨fn,tmps,assign,body,hy,hR⟩:=HY.out pre (ya 10 rest) (wr.drewN q) hpre (HJ.1 _ _ _ HJ0.out (z7V wr q)));refine hR.mono ?_;rintro e W3 (⟨rfl,hJ3,hk3⟩|⟨rfl,hJx3⟩)
   ·have hc3:W3.cell? ⟨b,0,none⟩=some (.string (zc rest)):=(World.cell?_of_block (w:=wr.drewN q) hk3.cell).trans hc
    have hf3:W3.frozen? ⟨b,0,none⟩=false:=(World.frozen?_of_block (w:=wr.drewN q) hk3.cell).trans hf;have H3:=Qh (Qa hJ3 hk3);clear hJ3 hk3 hc hf hR hy;gi_wp2;go_roundw
    case rel=>
     refine⟨_,_,HL.out,World.cell?_setCell_same' _ _ _ (by rw[hc3];rfl),by rw[World.frozen?_setCell];exact hf3,HJ.2 _ _ _ H3.1,HEN.1.on ?_,Nat.le_trans (Nat.le_of_lt HLT.out) HEN.2⟩;have k1:Below n0 wr (wr.drewN q):=⟨rfl,rfl,rfl,Nat.le_refl _,fun _ _=>rfl⟩;exact(k1.trans H3.2.below).setCell (p:=⟨b,0,none⟩) hb0 _
    case measure=>
     rw[HM.out,z4e (World.cell?_setCell_same' _ _ _ (by rw[hc3];rfl))];exact HLT.out
   ·gi_wp2;refine bodyPost_ret (results_none rfl _ _ _) rfl ?_;exact⟨⟨_,rfl⟩,.inr ⟨pre,ya 10 rest,hpre,hJx3⟩⟩
def cur(s:Str)(fr k:Nat):Str:=(s.drop fr).take (k-fr)
theorem zdX{s:Str}{fr k:Nat}(h:fr<=k)(hk:k<=s.length):(cur s fr k).length=k-fr:=by unfold cur;rw[List.length_take,List.length_drop];omega
theorem z0G(s:Str)(k:Nat):cur s k k=[]:=by simp[cur]
theorem z6L{s:Str}{fr k:Nat}(h:fr<k)(hk:k<=s.length):cur s fr k≠[]:=by intro e;have:=zdX (Nat.le_of_lt h) hk;rw[e]at this;simp at this;omega
theorem zcw{s:Str}{fr k:Nat}(h:fr<=k)(hk:k<s.length):cur s fr (k+1)=cur s fr k++[s[k]]:=by unfold cur;rw[show k+1-fr=(k-fr)+1 by omega,List.take_add_one,List.getElem?_drop,show fr+(k-fr)=k by omega,List.getElem?_eq_getElem hk];rfl
theorem z0p{s:Str}{fr k:Nat}(h:fr<=k)(hk:k<=s.length):(zc s).extract fr k=zc (cur s fr k):=by unfold zc cur;apply ByteArray.ext;rw[ByteArray.data_extract];apply Array.ext';simp
def zU(s:Str)(fr k:Nat):List Str:=if k<=s.length then wsp (cur s fr k) (s.drop k)else[]
theorem z81(s:Str):zU s 0 0=zu s:=by unfold zU zu;rw[if_pos (Nat.zero_le _),z0G];rfl
theorem zcz(s:Str)(fr k:Nat)(h:s.length<k):zU s fr k=[]:=by unfold zU;rw[if_neg (by omega)]
theorem zaf{s:Str}{fr:Nat}(h:fr<s.length):zU s fr s.length=cur s fr s.length::zU s (s.length+1) (s.length+1):=by unfold zU;rw[if_pos (Nat.le_refl _),if_neg (by omega),List.drop_length,wsp,if_neg (z6L h (Nat.le_refl _))]
theorem z82(s:Str):zU s s.length s.length=zU s (s.length+1) (s.length+1):=by unfold zU;rw[if_pos (Nat.le_refl _),if_neg (by omega),List.drop_length,z0G,wsp,if_pos rfl]
theorem zae{s:Str}{fr k:Nat}(h:fr<=k)(hk:k<s.length)(hb:yC s[k]=false):zU s fr k=zU s fr (k+1):=by unfold zU;rw[if_pos (by omega),if_pos (by omega),List.drop_eq_getElem_cons hk,z5A hb,zcw h hk]
theorem zad{s:Str}{fr k:Nat}(h:fr<k)(hk:k<s.length)(hb:yC s[k]=true):zU s fr k=cur s fr k::zU s (k+1) (k+1):=by unfold zU;rw[if_pos (by omega),if_pos (by omega),List.drop_eq_getElem_cons hk,z45 hb (z6L h (by omega)),z0G]
theorem z83{s:Str}{k:Nat}(hk:k<s.length)(hb:yC s[k]=true):zU s k k=zU s (k+1) (k+1):=by unfold zU;rw[if_pos (by omega),if_pos (by omega),List.drop_eq_getElem_cons hk,z0G,z0G,z6Y hb]
theorem z5B(n n0 b:Nat)(s:Str)(w:World)(hn:1<=n)(hb:w.heap[b]?=some (.cells #[.string (zc s)] 9 (0,0)))(hs:s.length<=1073741824):
  It.z8U Fence.wide n Tryz.prog 76 #[.pointer (some ⟨b,0,none⟩)] (fun x:Str=>#[.string (zc x)]) n0 b (zu s) w:=by
 intro l J Jx W hL hsz hJg hJb hY h0;obtain⟨N,hN⟩:=Qx s.length;have hZ:((zc s).size:Int)=(N:Int):=(by rw[zw s,hN]);have hZ2:(zc s).size=N:=(by rw[zw s,hN]);have HB:=Qh (hL.cell.trans hb);have HY:=Qh hY;have HJ:=Qh (Qa hJg hJb);have HN:=Qh hN;have HCH:=Qh (qu s);have HEX:=Qh (fun fr k=>@z0p s fr k);have hcW:=za HB.out 0;have hfc:Fence.wide.fn 74:=trivial;rw[hN]at hs;clear hY hJg hJb hb hL hsz hN;generalize hS:zc s=S at*
 have HSS:=Qh hS;clear hS;refine callsIn_of_wp Tryz.func76 rfl trivial ?_ rfl;simp only[Tryz.ntmps76,List.size_toArray,List.length_cons,List.length_nil,Nat.reduceAdd,Nat.reduceSub,Array.replicate_succ,Array.replicate_zero,List.push_toArray,List.append_toArray,List.nil_append,List.cons_append];gi_wp2
 gi_loopw [3,4] (fun p3 p4 wr=>∃(k fr:Nat) (pre:List Str),p3=.int .i64 (fr:Int)/\p4=.int .i64 (k:Int)/\fr<=k/\k<=N+1/\Hid (zu s=pre++zU s fr k)/\wr.cell? ⟨b,0,none⟩=some (.string S)/\J pre wr)
  (fun _ p4 _=>N+1-(intOf p4).toNat)
 case atStart=>
  exact⟨0,0,[],rfl,rfl,Nat.le_refl _,by omega,(show zu s=[]++zU s 0 0 from by rw[z81];rfl),hcW,h0⟩
 case round=>
  obtain⟨k,fr,pre,rfl,rfl,hfk,hkN,HW,hc,hJ⟩:=hrel;have HJ0:=Qh hJ;clear hJ;rcases Nat.lt_or_ge N k with hk|hk
  ·have hk':¬(k:Int)<=(S.size:Int):=(by omega);gi_wp2;go_end0;refine⟨⟨_,rfl⟩,.inl ?_⟩;rw[HW.out,zcz s fr k (by rw[HN.out];exact hk),List.append_nil];exact HJ0.out
  ·have hk1:(k:Int)<=(S.size:Int):=by omega
   rcases Nat.lt_or_ge k N with hkn|hkn
   ·have hks:k<s.length:=by rw[HN.out];exact hkn
    have hk2:(k:Int)<(S.size:Int):=(by omega);have hk0:(0:Int)<=(k:Int):=(by omega);have hlt:=yU S (k:Int);have HBL:=Qh (show yC s[k]=blN (ch S (k:Int))from by rw[HCH.out k hks];rfl);have HMO:=Qh (fun h=>zae (s:=s) hfk hks h);have HWO:=Qh (fun(h1:fr<k) h=>zad (s:=s) h1 hks h);have HBK:=Qh (fun h=>z83 (s:=s) hks h);rw[HBL.out]at HMO HWO HBK;generalize hn:ch S (k:Int)=m at*
    have HBN:=Qh (fun(W:World)=>z8P m W hlt);clear HBL hks;by_cases hb:blN m=true
    ·rw[hb]at HBN HWO HBK
     clear hb HMO;rcases Nat.lt_or_ge fr k with hf|hf
     ·have hf1:(fr:Int)<(k:Int):=by omega
      have hf2:(fr:Int)<=(S.size:Int):=(by omega);have HC:=Qh (show zu s=(pre++[cur s fr k])++zU s (k+1) (k+1)from by
       have h:=HW.out;rw[HWO.out hf rfl]at h;rw[h];simp)
      have hpre:pre++[cur s fr k]<+:zu s:=⟨_,HC.symm⟩;obtain⟨fn,tmps,assign,body,hy,hR⟩:=HY.out pre (cur s fr k) wr hpre HJ0.out;rw[<-HEX.out fr k hfk (by rw[HN.out];omega)]at hy;gi_wp2_with(gi_at_call 74;refine(callsIn_wide.2 (HBN.out _)).mono ?_;rintro e w' ⟨rfl,hw⟩;obtain rfl:wr=w':=hw.symm);refine hR.mono ?_;rintro e W3 (⟨rfl,hJ3,hk3⟩|⟨rfl,hJx3⟩)
      ·have hc3:W3.cell? ⟨b,0,none⟩=some (.string S):=(World.cell?_of_block (w:=wr) hk3.cell).trans hc
       have H3:=Qh hJ3;clear hJ3 hk3 hR hy hc;gi_wp2;go_roundw
       case rel=>exact⟨k+1,k+1,_,by simp,by simp,Nat.le_refl _,by omega,HC.out,hc3,H3.out⟩
       case measure=>simp[intOf]<;>omega
      ·gi_wp2;refine bodyPost_ret (results_none rfl _ _ _) rfl ?_;exact⟨⟨_,rfl⟩,.inr ⟨pre,_,hpre,hJx3⟩⟩
     ·obtain rfl:fr=k:=by omega
      have hf1:¬(fr:Int)<(fr:Int):=(by omega);have HC:=Qh (show zu s=pre++zU s (fr+1) (fr+1)from by
       have h:=HW.out;rwa[HBK.out rfl]at h)
      gi_wp2_with(gi_at_call 74;refine(callsIn_wide.2 (HBN.out _)).mono ?_;rintro e w' ⟨rfl,hw⟩;obtain rfl:wr=w':=hw.symm);refine⟨fun _ h=>(by cases h),?_⟩;gi_wp2;go_roundw
      case rel=>exact⟨fr+1,fr+1,_,by simp,by simp,Nat.le_refl _,by omega,HC.out,hc,HJ0.out⟩
      case measure=>simp[intOf]<;>omega
    ·have hb':blN m=false:=by simpa using hb
     rw[hb']at HBN HMO;have HC:=Qh (show zu s=pre++zU s fr (k+1)from by
      have h:=HW.out;rwa[HMO.out rfl]at h)
     clear hb hb' HWO HBK;gi_wp2_with(gi_at_call 74;refine(callsIn_wide.2 (HBN.out _)).mono ?_;rintro e w' ⟨rfl,hw⟩;obtain rfl:wr=w':=hw.symm);go_roundw
     case rel=>exact⟨k+1,fr,_,by simp,by simp,by omega,by omega,HC.out,hc,HJ0.out⟩
     case measure=>simp[intOf]<;>omega
   ·obtain rfl:k=N:=by omega
    have hk2:¬(k:Int)<(S.size:Int):=(by omega);rcases Nat.lt_or_ge fr k with hf|hf
    ·have hf1:(fr:Int)<(k:Int):=by omega
     have hf2:(fr:Int)<=(S.size:Int):=(by omega);have HC:=Qh (show zu s=(pre++[cur s fr k])++zU s (k+1) (k+1)from by
      have h:=HW.out;rw[<-HN.out,zaf (by rw[HN.out];exact hf),HN.out]at h;rw[h];simp)
     have hpre:pre++[cur s fr k]<+:zu s:=⟨_,HC.symm⟩;obtain⟨fn,tmps,assign,body,hy,hR⟩:=HY.out pre (cur s fr k) wr hpre HJ0.out;rw[<-HEX.out fr k hfk (by rw[HN.out];exact Nat.le_refl _)]at hy;gi_wp2;refine hR.mono ?_;rintro e W3 (⟨rfl,hJ3,hk3⟩|⟨rfl,hJx3⟩)
     ·have hc3:W3.cell? ⟨b,0,none⟩=some (.string S):=(World.cell?_of_block (w:=wr) hk3.cell).trans hc
      have H3:=Qh hJ3;clear hJ3 hk3 hR hy hc;gi_wp2;go_roundw
      case rel=>exact⟨k+1,k+1,_,by simp,by simp,Nat.le_refl _,by omega,HC.out,hc3,H3.out⟩
      case measure=>simp[intOf]<;>omega
     ·gi_wp2;refine bodyPost_ret (results_none rfl _ _ _) rfl ?_;exact⟨⟨_,rfl⟩,.inr ⟨pre,_,hpre,hJx3⟩⟩
    ·obtain rfl:fr=k:=by omega
     have hf1:¬(fr:Int)<(fr:Int):=(by omega);have HC:=Qh (show zu s=pre++zU s (fr+1) (fr+1)from by
      have h:=HW.out;rwa[show zU s fr fr=zU s (fr+1) (fr+1)from by rw[<-HN.out];exact z82 s]at h)
     gi_wp2;refine⟨fun _ h=>(by cases h),?_⟩;gi_wp2;go_roundw
     case rel=>exact⟨fr+1,fr+1,_,by simp,by simp,Nat.le_refl _,by omega,HC.out,hc,HJ0.out⟩
     case measure=>simp[intOf]<;>omega
end Sc
end Go.Proofs.YtkkecpamnnojoaaGreatDoor
namespace Go.Proofs.YtkkecpamnnojoaaGreatDoor
open Go.ChangeShapes Go.WideShapes Go.ChangeAt Go.RowKit
end Go.Proofs.YtkkecpamnnojoaaGreatDoor
namespace Go.Proofs.YtkkecpamnnojoaaGreatDoor.By
open Go.ChangeShapes Go.WideShapes Go.ChangeAt Go.RowKit
def zfE(w:World)(o:Option Addr)(xs:List Value):Prop:=∀j u,xs[j]?=some u->∃ad,o=some ad/\w.cell? (ad.add j)=some u
theorem zG{w:World}{a:Addr}{v:Value}(h:w.cell? a=some v):a.block<w.heap.size:=by
 unfold World.cell? at h;split at h
 ·rename_i hq
  rcases Nat.lt_or_ge a.block w.heap.size with h|h
  ·exact h
  ·rw[Array.getElem?_eq_none h]at hq;cases hq
 ·cases h
theorem z9l{w:World}{base n:Nat}{e:TypeId}{v:Value}{xs:List Value}(h:w.ownsRow base e 1 v n xs):∃o cap,v=.slice o xs.length cap/\xs.length=n/\zfE w o xs/\xs.length<=cap/\(o=none->cap=0)/\(∀a,o=some a->a=⟨a.block,0,none⟩/\base<=a.block/\a.block<w.heap.size/\v.ownBlock=some a.block):=by
 have hl:xs.length=n:=(by have:=h.1;omega);subst hl;rcases h.2 with⟨h1,h2⟩|⟨g,cap,cells,rfl,h1,h2,h3,h4,-⟩
 ·refine⟨none,0,by rw[h1,h2],rfl,?_,by omega,fun _=>rfl,fun a ha=>by cases ha⟩;intro j u hj;have:xs=[]:=List.length_eq_zero_iff.1 h2;subst this;simp at hj
 ·refine⟨_,cap,rfl,rfl,fun j u hj=>⟨_,rfl,h.cells rfl j u hj⟩,h3,(fun h=>nomatch h),fun a ha=>?_⟩;cases ha;exact⟨rfl,h1,lt_of_block h2,rfl⟩
theorem zf{bs:Nat->Prop}{w w':World}{base size n:Nat}{e:TypeId}{v:Value}{xs:List Value}(h:w.ownsRow base e size v n xs)(k:Keep bs w w')(hn:∀g,v.ownBlock=some g->¬bs g):w'.ownsRow base e size v n xs:=by
 refine⟨h.1,?_⟩;rcases h.2 with h1|⟨g,cap,cur,rfl,h1,h2,h3⟩
 ·exact Or.inl h1
 ·exact Or.inr ⟨g,cap,cur,rfl,h1,k.same h2 (hn g rfl),h3⟩
theorem xE{w:World}{base size n:Nat}{e:TypeId}{v:Value}{xs:List Value}(h:w.ownsRow base e size v n xs){g:Nat}(hg:v.ownBlock=some g):g<w.heap.size:=by
 rcases h.2 with⟨rfl,-⟩|⟨g',cap,cur,rfl,h1,h2,h3⟩
 ·cases hg
 ·cases hg;exact lt_of_block h2
theorem qx{w:World}{base b' size n:Nat}{e:TypeId}{v:Value}{xs:List Value}(h:w.ownsRow base e size v n xs)(hb:∀g,v.ownBlock=some g->b'<=g):w.ownsRow b' e size v n xs:=by
 refine⟨h.1,?_⟩;rcases h.2 with h1|⟨g,cap,cur,rfl,h1,h3⟩
 ·exact Or.inl h1
 ·exact Or.inr ⟨g,cap,cur,rfl,hb g rfl,h3⟩
theorem yi(w:World)(base:Nat)(e:TypeId)(size:Nat):w.ownsRow base e size (.slice none 0 0) 0 []:=⟨by simp,Or.inl ⟨rfl,rfl⟩⟩
theorem z8o(w:World)(base:Nat)(e:TypeId)(xs:List Value)(hb:base<=w.heap.size)(hl:xs.length<=maxLen):(w.alloc (.cells xs.toArray e (0,0))).ownsRow base e 1 (.slice (some ⟨w.heap.size,0,none⟩) xs.length xs.length) xs.length xs:=by refine⟨by simp,Or.inr ⟨w.heap.size,xs.length,xs.toArray,rfl,hb,zm w _,Nat.le_refl _,hl,by simp,by simp⟩⟩
theorem zp{w w':World}{v:Value}(hg:w.grownBy w' v.ownBlock):Keep (fun g=>v.ownBlock=some g) w w':=
 ⟨hg.os,hg.tape,hg.output,hg.size,fun i hi hn=>hg.block i hi (fun e=>hn e.symm)⟩
end Go.Proofs.YtkkecpamnnojoaaGreatDoor.By
namespace Go.Proofs.YtkkecpamnnojoaaGreatDoor
open Go.ChangeShapes Go.WideShapes Go.ChangeAt Go.RowKit Go.Shelf
open Bt Dc By
attribute [local go_sem] Oper.semAt_some
namespace Sc
def qE(x:Str):Value:=.string (zc x)
def z44(w:World)(b Bs:Nat)(pre:List Str)(W:World):Prop:=
 ∃v,W.heap[Bs]?=some (.cells #[v] 22 (0,0))/\W.ownsRow w.heap.size 9 1 v pre.length (pre.map qE)/\v.ownBlock≠some Bs/\Keep (fun g=>g=b) w W
theorem z8G:∃i,Tryz.prog.info? 9=some i/\i.zero=some (.string .empty)/\i.size=1/\i.bytes=16:=by have h:(Tryz.prog.info? 9).map (fun i=>(i.zero,i.size,i.bytes))=some (some (.string .empty),1,16):=(by kernel_rfl);exact info_parts h
theorem z44.grown{w A A':World}{b Bs:Nat}{pre:List Str}(h:z44 w b Bs pre A)(hg:A.grownBy A' none):z44 w b Bs pre A':=by obtain⟨v,h1,h2,h3,h4⟩:=h;have k:Keep (fun _=>False) A A':=⟨hg.os,hg.tape,hg.output,hg.size,fun i hi _=>hg.block i hi (by simp)⟩;exact⟨v,k.same h1 id,zf h2 k fun _ _=>id,h3,h4.trans (k.mono fun _ _ h=>h.elim)⟩
theorem z44.set{w A:World}{b Bs:Nat}{pre:List Str}(h:z44 w b Bs pre A)(hb:b<w.heap.size)(hB:w.heap.size<=Bs)(u:Value):z44 w b Bs pre (A.setCell ⟨b,0,none⟩ u):=by
 obtain⟨v,h1,h2,h3,h4⟩:=h;have k:Keep (fun g=>g=b) A (A.setCell ⟨b,0,none⟩ u):=(Keep.refl (fun g=>g=b) A).setCell (p:=⟨b,0,none⟩) (Or.inl rfl) u;refine⟨v,k.same h1 (by omega),zf h2 k fun g hg e=>?_,h3,h4.trans k⟩;subst e;rcases h2.2 with⟨rfl,-⟩|⟨g',cap,cur,rfl,hb',-⟩
 ·cases hg
 ·cases hg;exact absurd hb (Nat.not_lt.2 hb')
theorem z44.put{w A:World}{b Bs l:Nat}{pre:List Str}{o':Obj}(h:z44 w b Bs pre A)(hl:A.heap[l]?=some o')(ho:∀c t f,o'≠ .cells c t f)(hlw:w.heap.size<=l)(o:Obj):z44 w b Bs pre (A.putObj l o):=by
 obtain⟨v,h1,h2,h3,h4⟩:=h;have k:Keep (fun g=>g=l) A (A.putObj l o):=⟨rfl,rfl,rfl,by simp,fun i _ hn=>World.putObj_heap_other hn⟩;refine⟨v,k.same h1 ?_,zf h2 k fun g hg e=>?_,h3,h4.own k fun i hi=>Or.inr (by omega)⟩
 ·intro e;subst e;rw[h1]at hl;cases hl;exact ho _ _ _ rfl
 ·subst e
  rcases h2.2 with⟨rfl,-⟩|⟨g',cap,cur,rfl,-,hc,-⟩
  ·cases hg
  ·cases hg;rw[hc]at hl;cases hl;exact ho _ _ _ rfl
theorem z8c(gf:Nat)(lb:Array Value)(b:Nat)(xs:List Str)(w:World)(hb:b<w.heap.size)(eg:∀args w,(callFunc gf args).run Tryz.prog w=.ok (.enter gf args) w)
  (hx:xs.length<=1073741824)
  (hseq:∀W,Keep (fun g=>g=b) w W->W.heap[b]?=w.heap[b]?->It.z8U Fence.wide 3 Tryz.prog gf lb (fun x:Str=>#[.string (zc x)]) w.heap.size b xs W):
  Calls Tryz.prog 75 #[.slice none 0 0,.func (.func gf) #[] lb] w fun e w'=>∃v,e=.returned v/\w'.ownsRow w.heap.size 9 1 v xs.length (xs.map qE)/\Keep (fun g=>g=b) w w':=by
 refine(callsIn_wide (n:=4)).1 ?_;refine callsIn_of_wp_marks Tryz.func75 rfl trivial ?_ rfl;simp only[Tryz.ntmps75,List.size_toArray,List.length_cons,List.length_nil,Nat.reduceAdd,Nat.reduceSub,Array.replicate_succ,Array.replicate_zero,List.push_toArray,List.append_toArray,List.nil_append,List.cons_append];gi_wp2;obtain⟨i0,hi0,hz0,hz1,hz2⟩:=z8G;have HI:=Qh (Qa hi0 (Qa hz0 (Qa hz1 hz2)));clear hi0 hz0 hz1 hz2
 refine It.z6a rfl (by omega) (gf:=gf) (lb:=lb) rfl trivial eg (encs:=fun x:Str=>#[.string (zc x)]) (fun _=>rfl) w.heap.size b (by simp) (by simp;omega) xs (hseq _ ((Keep.refl _ w).alloc _) (Below.heap_alloc _ _ _ hb)) (z44 w b w.heap.size) (fun _ _=>False)
  (fun pre A A' h hg=>h.grown hg) (fun pre A v h=>h.set hb (Nat.le_refl _) v) ?hIl (fun _ _ _ _ h=>h.elim) ?h0
  (fun x=>{tmps:=#[.slice none 0 0,.func (.func gf) #[] lb,.pointer (some ⟨w.heap.size,0,none⟩),undef,.slice none 0 0,.string (zc x),.func (.func gf) #[] lb,.string (zc x),undef,undef,undef,undef,undef],defers:=[]}) ?assign ?body ?done ?stop
 case assign=>
  intro l x W K hK;gi_wp2;exact hK
 case hIl=>
  intro pre A o lp h hl;rw[World.size_alloc]at hl⊢
  exact h.put hl (fun _ _ _ e=>by cases e) (by omega) o
 case h0=>
  exact⟨_,zm w _,yi _ _ _ _,by simp[Value.ownBlock],(Keep.refl _ w).alloc _⟩
 case body=>
  rintro l pre x W hpre hD ⟨lp,hLp⟩ ⟨v,hbx,hrow,hne,hk⟩;rw[World.size_alloc]at hD hLp;have hlen:pre.length+1<=1073741824:=(by have:=hpre.length_le;simp at this;omega);have hcx:=za hbx 0;have hfx:=zd hbx 0;have HH:=Qh (Qa hbx (Qa hne (Qa hk (Qa hD hLp))));have HR:=Qh hrow;clear hbx hne hk hpre hrow hD hLp;gi_wp2_with(gi_at_builtin;refine wpListIn_append_own_at _ rfl _ _ 22 rfl w.heap.size 9 i0 _ 1 16 Tryz.underlying22 HI.1 HI.2.1 HI.2.2.1 HI.2.2.2 rfl (by decide) v pre.length (pre.map qE) rfl (zf HR.out ((Keep.refl (fun _=>False) W).alloc _) fun _ _=>id) ⟨W.heap.size,0,none⟩ 1 1 [.string (zc x)] rfl rfl (cell_one_new _ _ _) (by simp[Value.oneCell']) (by unfold maxLen;omega) (by omega) (by have:=HH.2.2.1.size;simp;omega) ?_;intro v' w1 hown' hgrow _ hob;obtain⟨g',cap',rfl⟩:=ownsRow_succ hown';have hbx1:=(hgrow.block w.heap.size (Nat.lt_of_lt_of_le (lt_of_block HH.1) (by simp)) (fun e=>HH.2.1 e.symm)).trans (zr HH.1 _);have hcx1:=za hbx1 0;have hfx1:=zd hbx1 0);have hown:∀g,v.ownBlock=some g->w.heap.size<=g/\(∃c t f,W.heap[g]?=some (.cells c t f)):=fun g hg=>by
   rcases HR.2 with⟨rfl,-⟩|⟨g2,c2,cur,rfl,h1,h2,-⟩
   ·cases hg
   ·cases hg;exact⟨h1,_,_,_,h2⟩
  have kk:Keep (fun g=>v.ownBlock=some g\/g=w.heap.size) W (w1.setCell ⟨w.heap.size,0,none⟩ (.slice (some ⟨g',0,none⟩) (pre.length+1) cap')):=
   ((((Keep.refl (fun g=>v.ownBlock=some g\/g=w.heap.size) W).alloc _).trans ((zp hgrow).mono fun g _ h=>Or.inl h)).setCell (p:=⟨w.heap.size,0,none⟩) (Or.inl (Or.inr rfl)) _)
  have hnot:∀g o,W.heap[g]?=some o->(∀c t f,o≠ .cells c t f)->g≠w.heap.size->(w1.setCell ⟨w.heap.size,0,none⟩ (.slice (some ⟨g',0,none⟩) (pre.length+1) cap')).heap[g]?=W.heap[g]?:=fun g o ho hc hg=>by
   refine kk.block g (lt_of_block ho) ?_;rintro(h|h)
   ·obtain⟨-,c,t,f,h2⟩:=hown g h;rw[ho]at h2;cases h2;exact hc _ _ _ rfl
   ·exact hg h
  have hbw:b<W.heap.size:=Nat.lt_of_lt_of_le hb HH.2.2.1.size;refine⟨⟨?_,?_⟩,⟨kk.below HH.2.2.1.size ?_,kk.block b hbw ?_⟩,?_⟩
  ·rw[World.size_alloc];exact hnot _ _ HH.2.2.2.1 (fun _ _ _ e=>by cases e) (by omega)
  ·rw[World.size_alloc];exact hnot _ _ HH.2.2.2.2 (fun _ _ _ e=>by cases e) (by omega)
  ·rintro k (h|h)
   ·exact(hown k h).1
   ·omega
  ·rintro(h|h)
   ·have:=(hown b h).1;omega
   ·omega
  ·refine⟨_,zg hbx1 0 _,?_,?_,HH.2.2.1.own kk ?_⟩
   ·have h:=zf hown' ((Keep.refl (fun g=>g=w.heap.size) w1).setCell (p:=⟨w.heap.size,0,none⟩) (Or.inl rfl) (.slice (some ⟨g',0,none⟩) (pre.length+1) cap')) ?_
    ·simpa[List.length_append,List.map_append,qE]using h
    ·intro g hg e
     subst e;rcases hob with h|h
     ·exact HH.2.1 (h.symm.trans hg)
     ·rw[hg]at h;have:=lt_of_block HH.1;simp at h;omega
   ·intro e
    rcases hob with h|h
    ·exact HH.2.1 (h.symm.trans e)
    ·rw[e]at h;have:=lt_of_block HH.1;simp at h;omega
   ·rintro i (h|h)
    ·exact Or.inr (hown i h).1
    ·right;omega
 case done=>
  rintro W ⟨v,hbx,hrow,hne,hk⟩ hD;have hcx:=za hbx 0;have HH:=Qh (Qa hrow (Qa hk hD));clear hbx hrow hne hk;gi_wp2;refine⟨by simp,.inl ⟨_,_,rfl,run_takeDeferred HH.2.2,?_⟩⟩;refine⟨_,results_tmp rfl _ _ _,?_⟩;rw[World.size_alloc]at HH⊢
  have kp:Keep (fun g=>g=w.heap.size+1) W (W.putObj (w.heap.size+1) (.deferred none)):=⟨rfl,rfl,rfl,by simp,fun i _ hn=>World.putObj_heap_other hn⟩;refine⟨v,rfl,zf HH.1 kp fun g hg e=>?_,HH.2.1.own kp fun i hi=>Or.inr (by omega)⟩;subst e;rcases HH.1.2 with⟨rfl,-⟩|⟨g2,c2,cur,rfl,h1,h2,-⟩
  ·cases hg
  ·cases hg;have h3:=h2.symm.trans HH.2.2;cases h3
 case stop=>
  intro pre x W _ h;exact h.elim
theorem z42(b:Nat)(s:Str)(w:World)(hb:w.heap[b]?=some (.cells #[.string (zc s)] 9 (0,0)))(hs:s.length<=1073741824)(hl:(zu s).length<=1073741824):
  Calls Tryz.prog 43 #[.func (.func 76) #[] #[.pointer (some ⟨b,0,none⟩)]] w fun e w'=>∃v,e=.returned v/\w'.ownsRow w.heap.size 9 1 v (zu s).length ((zu s).map qE)/\Keep (fun g=>g=b) w w':=by
 have hA:=Qh (z8c 76 #[.pointer (some ⟨b,0,none⟩)] b (zu s) w (lt_of_block hb) (enters_of Tryz.func76 (by kernel_rfl) rfl) hl
  (fun W k h=>z5B 3 w.heap.size b s W (by omega) (h.trans hb) hs))
 clear hb hs hl;go_in;go_wp2_with(go_at_call 75;refine hA.out.mono ?_;rintro e w' ⟨v,rfl,h1,h2⟩);go_ret;exact⟨v,rfl,h1,h2⟩
theorem z0K:∀(s cur:Str),(wsp cur s).length<=s.length+1
 |[],cur=>by rw[wsp];split<;>simp
 |c::s,cur=>by
  rw[wsp];split
  ·split
   ·exact Nat.le_trans (z0K s []) (by simp)
   ·have:=z0K s [];simp;omega
  ·exact Nat.le_trans (z0K s _) (by simp)
end Sc
end Go.Proofs.YtkkecpamnnojoaaGreatDoor
namespace Go.Proofs.YtkkecpamnnojoaaGreatDoor
open Go.ChangeShapes Go.WideShapes Go.ChangeAt Go.RowKit
theorem z22{P:Program}{ops:Array Oper}{rest:List Oper}{o:Oper}{a:Act}{w:World}{Q:Exit->Act->World->Prop}(hgd:o.guard=none)(ty:TypeId)(x y:Operand)(ho:o.op=.store ty x y)
  (g:Nat)(cells:Array Value)(hx:a.eval x=.pointer (some ⟨g,0,none⟩))(hy:a.eval y=.agg cells)
  (t:TypeId)(old:Array Value)(hg:w.heap[g]?=some (.cells old t (0,0)))(hi:(P.info? ty).map (·.size)=some cells.size)
  (hold:old.size=cells.size)(h1:cells.all (·.oneCell')=true)
  (h:wpList P ops Q rest (a.put o.dst undef) (w.setRow g cells)):wpList P ops Q (o::rest) a w:=
 wpList_plain hgd fun _ hK=>wp_store_row ty x y ho g cells hx hy t old hg hi hold h1 (hK _ _ h)
theorem qK{P:Program}{ops:Array Oper}{rest:List Oper}{o:Oper}{a:Act}{w:World}{Q:Exit->Act->World->Prop}(x y:Operand)(ty:TypeId)(ho:o.op=.store ty x y)
  (h:wpList P ops Q (o::rest) a w):wpList P ops Q (o::rest) a w:=h
theorem yO{P:Program}{ops:Array Oper}{rest:List Oper}{o:Oper}{a:Act}{w:World}{Q:Exit->Act->World->Prop}(x:Operand)(ty:TypeId)(ho:o.op=.load ty x)
  (h:wpList P ops Q (o::rest) a w):wpList P ops Q (o::rest) a w:=h
theorem Keep.setRow{bs:Nat->Prop}{a w:World}(h:Keep bs a w){g:Nat}(hg:bs g\/a.heap.size<=g)(c:Array Value):Keep bs a (w.setRow g c):=
 ⟨h.os,h.tape,h.output,by rw[size_setRow];exact h.size,fun k hk hn=>(setRow_other w g k c (by rcases hg with hg|hg;(intro e;subst e;exact hn hg);omega)).trans (h.block k hk hn)⟩
theorem zS{w:World}{b g:Nat}{x:Obj}(h:w.heap[b]?=some x)(hne:b≠g)(i:Nat)(u:Value):(w.setCell ⟨g,i,none⟩ u).heap[b]?=some x:=by rw[Below.heap_setCell _ _ _ _ hne];exact h
end Go.Proofs.YtkkecpamnnojoaaGreatDoor
