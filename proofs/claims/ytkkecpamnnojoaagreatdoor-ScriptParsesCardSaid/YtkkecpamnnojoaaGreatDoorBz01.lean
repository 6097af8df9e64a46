/- A part of the proof of ScriptParses: nothing is assumed. By an AI agent. -/
import Derived.Laws.OwnMore
import Derived.Deep.Cut
import Derived.Test.YtkkecpamnnojoaaGreatDoorBz00
set_option linter.unusedVariables false
set_option linter.unusedSimpArgs false
set_option maxRecDepth 100000
set_option maxHeartbeats 32000000
namespace Go.Proofs.YtkkecpamnnojoaaGreatDoor
open Go.ChangeShapes Go.WideShapes Go.ChangeAt Go.RowKit
open Bt
def zfO(b x:Nat)(u:Nat)(w0:World)(n:Nat):Prop:=Calls Tryz.prog 155 #[.int .u64 (x:Int),.pointer (some ⟨b,0,none⟩)] (w0.drewN n) fun e w'=>e=.returned (.int .u64 (u:Int))/\∃n,w'=w0.drewN n
theorem z17{b x s hi lo u:Nat}{w0:World}(h:z2D w0 b hi lo (s:Int))(hx:x<18446744073709551616)(hhi:hi<18446744073709551616)(hlo:lo<18446744073709551616)(hs:s<64)(hu:Us.usc x s hi lo=u)(n:Nat):zfO b x u w0 n:=by subst hu;exact(z2Q x s hi lo b (w0.drewN n) h hx hhi hlo hs).mono fun _ _ ⟨he,k,hw⟩=>⟨he,n+k,by rw[hw,World.drewN_drewN]⟩
structure SfW (m mn mx od u1 u2 u3:Nat) (e q lp:Int) (s:Nat):Prop where
 lm:m<18446744073709551616
 lmn:mn<18446744073709551616
 lmx:mx<18446744073709551616
 hi:Us.yK (-q)<18446744073709551616
 lo:Us.qO (-q)<18446744073709551616
 ls:s<64
 hs:-(e+lp+3)=(s:Int)
 hu1:Us.usc mn s (Us.yK (-q)) (Us.qO (-q))=u1
 hu2:Us.usc mx s (Us.yK (-q)) (Us.qO (-q))=u2
 hu3:Us.usc m s (Us.yK (-q)) (Us.qO (-q))=u3
theorem yy{k j:IntKind}{a b c d:Int}(h:a=b)(h2:c=d):Ending.returned (.tuple #[.int k a,.int j c])=.returned (.tuple #[.int k b,.int j d]):=by rw[h,h2]
theorem zv{b:Nat}{a w:World}(h:Below b a w)(n:Nat):Below b a (w.drewN n):=⟨h.os,h.tape,h.output,h.size,h.block⟩
def yJ(d1 d2 u3:Nat)(q:Int):Nat×Int:=if d1<=d2/10*10 then(d2/10,q+1)else if d1<d2 then(Us.rnd u3,q)else(d1,q)
theorem z9c(m mn mx od u1 u2 u3:Nat)(e q lp:Int)(s:Nat)(w:World)(hT:z0t w)(hg:6<w.heap.size)(S:SfW m mn mx od u1 u2 u3 e q lp s)
  (he0:-1200<=e)(he1:e<=1000)(hq0:-340<=q)(hq1:q<=340)(hlp:-2000<=lp/\lp<=2000)(hod:od<=1)(h1:1<=u1)(h1':u1<9223372036854775800)(h2:1<=u2)(h2':u2<9223372036854775800)(h3:u3<9223372036854775800)
  (hLp:∀w,Calls Tryz.prog 154 #[.int .i64 (-q)] w fun e w'=>e=.returned (.int .i64 lp)/\w'=w)
  (hm:((m:Int)==9223372036854775808)=false)(he:decide (-1085<=e)=true)(hmn:IntKind.u64.wrap ((m:Int)-1024)=(mn:Int))(hmx:IntKind.u64.wrap ((m:Int)+1024)=(mx:Int))(ho:bits BinOp.and IntKind.i64 (wrap64 ((m:Int)/2048)) 1=(od:Int))
  (hC:∀w,Calls Tryz.prog 131 #[.int .i64 (e+11)] w fun e w'=>e=.returned (.int .i64 q)/\w'=w):
  Calls Tryz.prog 136 #[.int .u64 (m:Int),.int .i64 e] w fun en w'=>en=.returned (.tuple #[.int .u64 ((yJ ((u1+od+3)/4) ((u2-od)/4) u3 q).1:Nat),.int .i64 (yJ ((u1+od+3)/4) ((u2-od)/4) u3 q).2])/\Below w.heap.size w w':=by
 have HFX:=Qh (Qa hm (Qa he (Qa hmn (Qa hmx ho))));clear hm he hmn hmx ho;have hC3:=fun w=>z0H ((u1:Int)+(od:Int)) w (by omega) (by omega);have hC4:=fun w=>z08 ((u2:Int)+ -(od:Int)) w (by omega) (by omega);have E1:((u1:Int)+od+3)/4=(((u1+od+3)/4:Nat):Int):=(by omega);have E2:((u2:Int)+ -(od:Int))/4=(((u2-od)/4:Nat):Int):=(by omega);simp only[E1]at hC3;simp only[E2]at hC4;have HN1:=Qh (fun w=>yX (u1:Int) (od:Int) w (by omega) (by omega) (by omega) (by omega) (by omega));have HN2:=Qh (fun w=>yX (u2:Int) (-(od:Int)) w (by omega) (by omega) (by omega) (by omega) (by omega));have HN3:=Qh hC3;have HN4:=Qh hC4;have HN5:=Qh (fun w=>xw u3 w (by omega));obtain⟨d1,hd1⟩:∃x,x=(u1+od+3)/4:=⟨_,rfl⟩;obtain⟨d2,hd2⟩:∃x,x=(u2-od)/4:=⟨_,rfl⟩;have hl1:d1<4611686018427387904:=(by omega);have hl2:d2<4611686018427387904:=(by omega);rw[<-hd1]at HN3⊢
 rw[<-hd2]at HN4⊢
 clear E1 E2 hC3 hC4 hd1 hd2 h1 h1' h2 h2' h3;have HLp:=Qh hLp;have HC:=Qh hC;clear hC;have HS:=Qh (Qa S (Qa hT (Qa hg hlp)));clear hLp S hT hg hlp;have hnew:z2D (w.alloc (.cells (scA 0 0 0) 201)) w.heap.size 0 0 0:=zm _ _;have hPo:z0t (w.alloc (.cells (scA 0 0 0) 201)):=fun i hi=>⟨by rw[World.cell?_alloc_past _ _ _ HS.2.2.1];exact(HS.2.1 i hi).1,by rw[World.cell?_alloc_past _ _ _ HS.2.2.1];exact(HS.2.1 i hi).2⟩;have hpr:=qj w.heap.size 0 0 0 e (-q) lp _ hnew (by have:=HS.2.2.1;omega) hPo (by omega) (by omega) (by omega) (by have:=HS.2.2.2;omega);have HPr:=Qh hpr;clear hnew hPo hpr;obtain⟨hm,he,hmn,hmx,ho⟩:=HFX.out;clear HFX;go_in;go_wp2_with fail;refine(HC.out _).mono ?_;rintro en w' ⟨rfl,hw⟩;obtain rfl:=hw.symm;go_wp2_with fail;clear hm he hmn hmx ho;refine(HLp.out _).mono ?_;rintro en w' ⟨rfl,hw⟩;obtain rfl:=hw.symm;go_wp2_with fail;refine(HPr.out).mono ?_;rintro en w1 ⟨rfl,hsc,hk⟩;have hb1:Below w.heap.size w w1:=((Keep.alloc (Keep.refl (fun _=>False) w) _).own hk (fun i hi=>Or.inr (by subst hi;exact Nat.le_refl _))).none;rw[HS.1.hs]at hsc;have H1:=Qh (Qa hsc hb1);clear hsc hk hb1 HPr;have HU1:=Qh (fun n=>z17 H1.1 HS.1.lmn HS.1.hi HS.1.lo HS.1.ls HS.1.hu1 n);have HU2:=Qh (fun n=>z17 H1.1 HS.1.lmx HS.1.hi HS.1.lo HS.1.ls HS.1.hu2 n);have HU3:=Qh (fun n=>z17 H1.1 HS.1.lm HS.1.hi HS.1.lo HS.1.ls HS.1.hu3 n);have HB:=Qh H1.2;clear H1;go_wp2_with fail;refine(HU1.out 0).mono ?_;rintro en w2 ⟨rfl,n2,hw⟩;subst hw;go_wp2_with fail;refine(HN1.out _).mono ?_;rintro en w' ⟨rfl,hw⟩;obtain rfl:=hw.symm;go_wp2_with fail;refine(HN3.out _).mono ?_;rintro en w' ⟨rfl,hw⟩;obtain rfl:=hw.symm;go_wp2_with fail;refine(HU2.out n2).mono ?_;rintro en w2 ⟨rfl,n3,hw⟩;subst hw;go_wp2_with fail;refine(HN2.out _).mono ?_;rintro en w' ⟨rfl,hw⟩;obtain rfl:=hw.symm;go_wp2_with fail;refine(HN4.out _).mono ?_;rintro en w' ⟨rfl,hw⟩;obtain rfl:=hw.symm;by_cases c1:d1<=d2/10*10
 ·have c1':decide ((d1:Int)<=(d2:Int)/10*10)=true:=(by rw[decide_eq_true_eq];clear hl1 hl2;omega);go_wp2_with fail;go_ret2;refine⟨?_,zv HB.out _⟩;unfold yJ;rw[if_pos c1];exact yy (by push_cast;rfl) (by show-(-q-1)=q+1;omega)
 ·have c1':decide ((d1:Int)<=(d2:Int)/10*10)=false:=by rw[decide_eq_false_iff_not];clear hl1 hl2;omega
  by_cases c2:d1<d2
  ·go_wp2_with fail;refine(HU3.out n3).mono ?_;rintro en w2 ⟨rfl,n4,hw⟩;subst hw;go_wp2_with fail;refine(HN5.out _).mono ?_;rintro en w' ⟨rfl,hw⟩;obtain rfl:=hw.symm;go_wp2_with fail;go_ret2;refine⟨?_,zv HB.out _⟩;unfold yJ;rw[if_neg c1,if_pos c2];exact yy (by unfold Us.rnd;push_cast;rfl) (by show q=q;rfl)
  ·go_wp2_with fail;go_ret2;refine⟨?_,zv HB.out _⟩;unfold yJ;rw[if_neg c1,if_neg c2];exact yy rfl rfl
theorem z9d(m mn mx od u1 u2 u3:Nat)(e q lp:Int)(s:Nat)(w:World)(hT:z0t w)(hg:6<w.heap.size)(S:SfW m mn mx od u1 u2 u3 e q lp s)
  (he0:-1200<=e)(he1:e<=1000)(hq0:-340<=q)(hq1:q<=340)(hlp:-2000<=lp/\lp<=2000)(hod:od<=1)(h1:1<=u1)(h1':u1<9223372036854775800)(h2:1<=u2)(h2':u2<9223372036854775800)(h3:u3<9223372036854775800)
  (hLp:∀w,Calls Tryz.prog 154 #[.int .i64 (-q)] w fun e w'=>e=.returned (.int .i64 lp)/\w'=w)
  (hm:((m:Int)==9223372036854775808)=true)(hg1:decide (-1085<e)=true)(hmn:IntKind.u64.wrap ((m:Int)-512)=(mn:Int))(hmx:IntKind.u64.wrap ((m:Int)+1024)=(mx:Int))(ho:bits BinOp.and IntKind.i64 (wrap64 ((m:Int)/2048)) 1=(od:Int))
  (hC:∀w,Calls Tryz.prog 152 #[.int .i64 (e+11)] w fun e w'=>e=.returned (.int .i64 q)/\w'=w):
  Calls Tryz.prog 136 #[.int .u64 (m:Int),.int .i64 e] w fun en w'=>en=.returned (.tuple #[.int .u64 ((yJ ((u1+od+3)/4) ((u2-od)/4) u3 q).1:Nat),.int .i64 (yJ ((u1+od+3)/4) ((u2-od)/4) u3 q).2])/\Below w.heap.size w w':=by
 have HFX:=Qh (Qa hm (Qa hg1 (Qa hmn (Qa hmx ho))));clear hm hg1 hmn hmx ho;have hC3:=fun w=>z0H ((u1:Int)+(od:Int)) w (by omega) (by omega);have hC4:=fun w=>z08 ((u2:Int)+ -(od:Int)) w (by omega) (by omega);have E1:((u1:Int)+od+3)/4=(((u1+od+3)/4:Nat):Int):=(by omega);have E2:((u2:Int)+ -(od:Int))/4=(((u2-od)/4:Nat):Int):=(by omega);simp only[E1]at hC3;simp only[E2]at hC4;have HN1:=Qh (fun w=>yX (u1:Int) (od:Int) w (by omega) (by omega) (by omega) (by omega) (by omega));have HN2:=Qh (fun w=>yX (u2:Int) (-(od:Int)) w (by omega) (by omega) (by omega) (by omega) (by omega));have HN3:=Qh hC3;have HN4:=Qh hC4;have HN5:=Qh (fun w=>xw u3 w (by omega));obtain⟨d1,hd1⟩:∃x,x=(u1+od+3)/4:=⟨_,rfl⟩;obtain⟨d2,hd2⟩:∃x,x=(u2-od)/4:=⟨_,rfl⟩;have hl1:d1<4611686018427387904:=(by omega);have hl2:d2<4611686018427387904:=(by omega);rw[<-hd1]at HN3⊢
 rw[<-hd2]at HN4⊢
 clear E1 E2 hC3 hC4 hd1 hd2 h1 h1' h2 h2' h3;have HLp:=Qh hLp;have HC:=Qh hC;clear hC;have HS:=Qh (Qa S (Qa hT (Qa hg hlp)));clear hLp S hT hg hlp;have hnew:z2D (w.alloc (.cells (scA 0 0 0) 201)) w.heap.size 0 0 0:=zm _ _;have hPo:z0t (w.alloc (.cells (scA 0 0 0) 201)):=fun i hi=>⟨by rw[World.cell?_alloc_past _ _ _ HS.2.2.1];exact(HS.2.1 i hi).1,by rw[World.cell?_alloc_past _ _ _ HS.2.2.1];exact(HS.2.1 i hi).2⟩;have hpr:=qj w.heap.size 0 0 0 e (-q) lp _ hnew (by have:=HS.2.2.1;omega) hPo (by omega) (by omega) (by omega) (by have:=HS.2.2.2;omega);have HPr:=Qh hpr;clear hnew hPo hpr;obtain⟨hm,hg1,hmn,hmx,ho⟩:=HFX.out;clear HFX;go_in;go_wp2_with fail;refine(HC.out _).mono ?_;rintro en w' ⟨rfl,hw⟩;obtain rfl:=hw.symm;go_wp2_with fail;clear hm hg1 hmn hmx ho;refine(HLp.out _).mono ?_;rintro en w' ⟨rfl,hw⟩;obtain rfl:=hw.symm;go_wp2_with fail;refine(HPr.out).mono ?_;rintro en w1 ⟨rfl,hsc,hk⟩;have hb1:Below w.heap.size w w1:=((Keep.alloc (Keep.refl (fun _=>False) w) _).own hk (fun i hi=>Or.inr (by subst hi;exact Nat.le_refl _))).none;rw[HS.1.hs]at hsc;have H1:=Qh (Qa hsc hb1);clear hsc hk hb1 HPr;have HU1:=Qh (fun n=>z17 H1.1 HS.1.lmn HS.1.hi HS.1.lo HS.1.ls HS.1.hu1 n);have HU2:=Qh (fun n=>z17 H1.1 HS.1.lmx HS.1.hi HS.1.lo HS.1.ls HS.1.hu2 n);have HU3:=Qh (fun n=>z17 H1.1 HS.1.lm HS.1.hi HS.1.lo HS.1.ls HS.1.hu3 n);have HB:=Qh H1.2;clear H1;go_wp2_with fail;refine(HU1.out 0).mono ?_;rintro en w2 ⟨rfl,n2,hw⟩;subst hw;go_wp2_with fail;refine(HN1.out _).mono ?_;rintro en w' ⟨rfl,hw⟩;obtain rfl:=hw.symm;go_wp2_with fail;refine(HN3.out _).mono ?_;rintro en w' ⟨rfl,hw⟩;obtain rfl:=hw.symm;go_wp2_with fail;refine(HU2.out n2).mono ?_;rintro en w2 ⟨rfl,n3,hw⟩;subst hw;go_wp2_with fail;refine(HN2.out _).mono ?_;rintro en w' ⟨rfl,hw⟩;obtain rfl:=hw.symm;go_wp2_with fail;refine(HN4.out _).mono ?_;rintro en w' ⟨rfl,hw⟩;obtain rfl:=hw.symm;by_cases c1:d1<=d2/10*10
 ·have c1':decide ((d1:Int)<=(d2:Int)/10*10)=true:=(by rw[decide_eq_true_eq];clear hl1 hl2;omega);go_wp2_with fail;go_ret2;refine⟨?_,zv HB.out _⟩;unfold yJ;rw[if_pos c1];exact yy (by push_cast;rfl) (by show-(-q-1)=q+1;omega)
 ·have c1':decide ((d1:Int)<=(d2:Int)/10*10)=false:=by rw[decide_eq_false_iff_not];clear hl1 hl2;omega
  by_cases c2:d1<d2
  ·go_wp2_with fail;refine(HU3.out n3).mono ?_;rintro en w2 ⟨rfl,n4,hw⟩;subst hw;go_wp2_with fail;refine(HN5.out _).mono ?_;rintro en w' ⟨rfl,hw⟩;obtain rfl:=hw.symm;go_wp2_with fail;go_ret2;refine⟨?_,zv HB.out _⟩;unfold yJ;rw[if_neg c1,if_pos c2];exact yy (by unfold Us.rnd;push_cast;rfl) (by show q=q;rfl)
  ·go_wp2_with fail;go_ret2;refine⟨?_,zv HB.out _⟩;unfold yJ;rw[if_neg c1,if_neg c2];exact yy rfl rfl
theorem z5T(m mn mx od u1 u2 u3:Nat)(e q lp:Int)(s:Nat)(w:World)(hT:z0t w)(hg:6<w.heap.size)(S:SfW m mn mx od u1 u2 u3 e q lp s)
  (he0:-1200<=e)(he1:e<=1000)(hq0:-340<=q)(hq1:q<=340)(hlp:-2000<=lp/\lp<=2000)(hod:od<=1)(h1:1<=u1)(h1':u1<9223372036854775800)(h2:1<=u2)(h2':u2<9223372036854775800)(h3:u3<9223372036854775800)
  (hLp:∀w,Calls Tryz.prog 154 #[.int .i64 (-q)] w fun e w'=>e=.returned (.int .i64 lp)/\w'=w)
  (hm:((m:Int)==9223372036854775808)=true)(hg1:decide (-1085<e)=false)(he:decide (-1085<=e)=true)(hmn:IntKind.u64.wrap ((m:Int)-1024)=(mn:Int))(hmx:IntKind.u64.wrap ((m:Int)+1024)=(mx:Int))(ho:bits BinOp.and IntKind.i64 (wrap64 ((m:Int)/2048)) 1=(od:Int))
  (hC:∀w,Calls Tryz.prog 131 #[.int .i64 (e+11)] w fun e w'=>e=.returned (.int .i64 q)/\w'=w):
  Calls Tryz.prog 136 #[.int .u64 (m:Int),.int .i64 e] w fun en w'=>en=.returned (.tuple #[.int .u64 ((yJ ((u1+od+3)/4) ((u2-od)/4) u3 q).1:Nat),.int .i64 (yJ ((u1+od+3)/4) ((u2-od)/4) u3 q).2])/\Below w.heap.size w w':=by
 have HFX:=Qh (Qa hm (Qa hg1 (Qa he (Qa hmn (Qa hmx ho)))));clear hm hg1 he hmn hmx ho;have hC3:=fun w=>z0H ((u1:Int)+(od:Int)) w (by omega) (by omega);have hC4:=fun w=>z08 ((u2:Int)+ -(od:Int)) w (by omega) (by omega);have E1:((u1:Int)+od+3)/4=(((u1+od+3)/4:Nat):Int):=(by omega);have E2:((u2:Int)+ -(od:Int))/4=(((u2-od)/4:Nat):Int):=(by omega);simp only[E1]at hC3;simp only[E2]at hC4;have HN1:=Qh (fun w=>yX (u1:Int) (od:Int) w (by omega) (by omega) (by omega) (by omega) (by omega));have HN2:=Qh (fun w=>yX (u2:Int) (-(od:Int)) w (by omega) (by omega) (by omega) (by omega) (by omega));have HN3:=Qh hC3;have HN4:=Qh hC4;have HN5:=Qh (fun w=>xw u3 w (by omega));obtain⟨d1,hd1⟩:∃x,x=(u1+od+3)/4:=⟨_,rfl⟩;obtain⟨d2,hd2⟩:∃x,x=(u2-od)/4:=⟨_,rfl⟩;have hl1:d1<4611686018427387904:=(by omega);have hl2:d2<4611686018427387904:=(by omega);rw[<-hd1]at HN3⊢
 rw[<-hd2]at HN4⊢
 clear E1 E2 hC3 hC4 hd1 hd2 h1 h1' h2 h2' h3;have HLp:=Qh hLp;have HC:=Qh hC;clear hC;have HS:=Qh (Qa S (Qa hT (Qa hg hlp)));clear hLp S hT hg hlp;have hnew:z2D (w.alloc (.cells (scA 0 0 0) 201)) w.heap.size 0 0 0:=zm _ _;have hPo:z0t (w.alloc (.cells (scA 0 0 0) 201)):=fun i hi=>⟨by rw[World.cell?_alloc_past _ _ _ HS.2.2.1];exact(HS.2.1 i hi).1,by rw[World.cell?_alloc_past _ _ _ HS.2.2.1];exact(HS.2.1 i hi).2⟩;have hpr:=qj w.heap.size 0 0 0 e (-q) lp _ hnew (by have:=HS.2.2.1;omega) hPo (by omega) (by omega) (by omega) (by have:=HS.2.2.2;omega);have HPr:=Qh hpr;clear hnew hPo hpr;obtain⟨hm,hg1,he,hmn,hmx,ho⟩:=HFX.out;clear HFX;go_in;go_wp2_with fail;refine(HC.out _).mono ?_;rintro en w' ⟨rfl,hw⟩;obtain rfl:=hw.symm;go_wp2_with fail;clear hm hg1 he hmn hmx ho;refine(HLp.out _).mono ?_;rintro en w' ⟨rfl,hw⟩;obtain rfl:=hw.symm;go_wp2_with fail;refine(HPr.out).mono ?_;rintro en w1 ⟨rfl,hsc,hk⟩;have hb1:Below w.heap.size w w1:=((Keep.alloc (Keep.refl (fun _=>False) w) _).own hk (fun i hi=>Or.inr (by subst hi;exact Nat.le_refl _))).none;rw[HS.1.hs]at hsc;have H1:=Qh (Qa hsc hb1);clear hsc hk hb1 HPr;have HU1:=Qh (fun n=>z17 H1.1 HS.1.lmn HS.1.hi HS.1.lo HS.1.ls HS.1.hu1 n);have HU2:=Qh (fun n=>z17 H1.1 HS.1.lmx HS.1.hi HS.1.lo HS.1.ls HS.1.hu2 n);have HU3:=Qh (fun n=>z17 H1.1 HS.1.lm HS.1.hi HS.1.lo HS.1.ls HS.1.hu3 n);have HB:=Qh H1.2;clear H1;go_wp2_with fail;refine(HU1.out 0).mono ?_;rintro en w2 ⟨rfl,n2,hw⟩;subst hw;go_wp2_with fail;refine(HN1.out _).mono ?_;rintro en w' ⟨rfl,hw⟩;obtain rfl:=hw.symm;go_wp2_with fail;refine(HN3.out _).mono ?_;rintro en w' ⟨rfl,hw⟩;obtain rfl:=hw.symm;go_wp2_with fail;refine(HU2.out n2).mono ?_;rintro en w2 ⟨rfl,n3,hw⟩;subst hw;go_wp2_with fail;refine(HN2.out _).mono ?_;rintro en w' ⟨rfl,hw⟩;obtain rfl:=hw.symm;go_wp2_with fail;refine(HN4.out _).mono ?_;rintro en w' ⟨rfl,hw⟩;obtain rfl:=hw.symm;by_cases c1:d1<=d2/10*10
 ·have c1':decide ((d1:Int)<=(d2:Int)/10*10)=true:=(by rw[decide_eq_true_eq];clear hl1 hl2;omega);go_wp2_with fail;go_ret2;refine⟨?_,zv HB.out _⟩;unfold yJ;rw[if_pos c1];exact yy (by push_cast;rfl) (by show-(-q-1)=q+1;omega)
 ·have c1':decide ((d1:Int)<=(d2:Int)/10*10)=false:=by rw[decide_eq_false_iff_not];clear hl1 hl2;omega
  by_cases c2:d1<d2
  ·go_wp2_with fail;refine(HU3.out n3).mono ?_;rintro en w2 ⟨rfl,n4,hw⟩;subst hw;go_wp2_with fail;refine(HN5.out _).mono ?_;rintro en w' ⟨rfl,hw⟩;obtain rfl:=hw.symm;go_wp2_with fail;go_ret2;refine⟨?_,zv HB.out _⟩;unfold yJ;rw[if_neg c1,if_pos c2];exact yy (by unfold Us.rnd;push_cast;rfl) (by show q=q;rfl)
  ·go_wp2_with fail;go_ret2;refine⟨?_,zv HB.out _⟩;unfold yJ;rw[if_neg c1,if_neg c2];exact yy rfl rfl
theorem z7i(m mn mx od u1 u2 u3:Nat)(e q lp:Int)(s:Nat)(w:World)(hT:z0t w)(hg:6<w.heap.size)(S:SfW m mn mx od u1 u2 u3 e q lp s)
  (he0:-1200<=e)(he1:e<=1000)(hq0:-340<=q)(hq1:q<=340)(hlp:-2000<=lp/\lp<=2000)(hod:od<=1)(h1:1<=u1)(h1':u1<9223372036854775800)(h2:1<=u2)(h2':u2<9223372036854775800)(h3:u3<9223372036854775800)
  (hLp:∀w,Calls Tryz.prog 154 #[.int .i64 (-q)] w fun e w'=>e=.returned (.int .i64 lp)/\w'=w)
  (hm:((m:Int)==9223372036854775808)=false)(he:decide (-1085<=e)=false)(z:Nat)(hz:11+(-1085-e)=(z:Int))(hz1:12<=z)(hz2:z<=63)(B:Nat)(hB:IntKind.u64.wrap (2^(z-1))=(B:Int))(hmn:IntKind.u64.wrap ((m:Int)-B)=(mn:Int))(hmx:IntKind.u64.wrap ((m:Int)+B)=(mx:Int))(ho:bits BinOp.and IntKind.i64 (wrap64 ((m:Int)/2^z)) 1=(od:Int))
  (hC:∀w,Calls Tryz.prog 131 #[.int .i64 (e+z)] w fun e w'=>e=.returned (.int .i64 q)/\w'=w):
  Calls Tryz.prog 136 #[.int .u64 (m:Int),.int .i64 e] w fun en w'=>en=.returned (.tuple #[.int .u64 ((yJ ((u1+od+3)/4) ((u2-od)/4) u3 q).1:Nat),.int .i64 (yJ ((u1+od+3)/4) ((u2-od)/4) u3 q).2])/\Below w.heap.size w w':=by
 have HFX:=Qh (Qa hm (Qa he (Qa hz (Qa hB (Qa hmn (Qa hmx ho))))));clear hm he hz hB hmn hmx ho;have hC3:=fun w=>z0H ((u1:Int)+(od:Int)) w (by omega) (by omega);have hC4:=fun w=>z08 ((u2:Int)+ -(od:Int)) w (by omega) (by omega);have E1:((u1:Int)+od+3)/4=(((u1+od+3)/4:Nat):Int):=(by omega);have E2:((u2:Int)+ -(od:Int))/4=(((u2-od)/4:Nat):Int):=(by omega);simp only[E1]at hC3;simp only[E2]at hC4;have HN1:=Qh (fun w=>yX (u1:Int) (od:Int) w (by omega) (by omega) (by omega) (by omega) (by omega));have HN2:=Qh (fun w=>yX (u2:Int) (-(od:Int)) w (by omega) (by omega) (by omega) (by omega) (by omega));have HN3:=Qh hC3;have HN4:=Qh hC4;have HN5:=Qh (fun w=>xw u3 w (by omega));obtain⟨d1,hd1⟩:∃x,x=(u1+od+3)/4:=⟨_,rfl⟩;obtain⟨d2,hd2⟩:∃x,x=(u2-od)/4:=⟨_,rfl⟩;have hl1:d1<4611686018427387904:=(by omega);have hl2:d2<4611686018427387904:=(by omega);rw[<-hd1]at HN3⊢
 rw[<-hd2]at HN4⊢
 clear E1 E2 hC3 hC4 hd1 hd2 h1 h1' h2 h2' h3;have HLp:=Qh hLp;have HC:=Qh hC;clear hC;have HS:=Qh (Qa S (Qa hT (Qa hg hlp)));clear hLp S hT hg hlp;have hnew:z2D (w.alloc (.cells (scA 0 0 0) 201)) w.heap.size 0 0 0:=zm _ _;have hPo:z0t (w.alloc (.cells (scA 0 0 0) 201)):=fun i hi=>⟨by rw[World.cell?_alloc_past _ _ _ HS.2.2.1];exact(HS.2.1 i hi).1,by rw[World.cell?_alloc_past _ _ _ HS.2.2.1];exact(HS.2.1 i hi).2⟩;have hpr:=qj w.heap.size 0 0 0 e (-q) lp _ hnew (by have:=HS.2.2.1;omega) hPo (by omega) (by omega) (by omega) (by have:=HS.2.2.2;omega);have HPr:=Qh hpr;clear hnew hPo hpr;obtain⟨hm,he,hz,hB,hmn,hmx,ho⟩:=HFX.out;clear HFX;go_in;go_wp2_with fail;refine(HC.out _).mono ?_;rintro en w' ⟨rfl,hw⟩;obtain rfl:=hw.symm;go_wp2_with fail;clear hm he hz hB hmn hmx ho;refine(HLp.out _).mono ?_;rintro en w' ⟨rfl,hw⟩;obtain rfl:=hw.symm;go_wp2_with fail;refine(HPr.out).mono ?_;rintro en w1 ⟨rfl,hsc,hk⟩;have hb1:Below w.heap.size w w1:=((Keep.alloc (Keep.refl (fun _=>False) w) _).own hk (fun i hi=>Or.inr (by subst hi;exact Nat.le_refl _))).none;rw[HS.1.hs]at hsc;have H1:=Qh (Qa hsc hb1);clear hsc hk hb1 HPr;have HU1:=Qh (fun n=>z17 H1.1 HS.1.lmn HS.1.hi HS.1.lo HS.1.ls HS.1.hu1 n);have HU2:=Qh (fun n=>z17 H1.1 HS.1.lmx HS.1.hi HS.1.lo HS.1.ls HS.1.hu2 n);have HU3:=Qh (fun n=>z17 H1.1 HS.1.lm HS.1.hi HS.1.lo HS.1.ls HS.1.hu3 n);have HB:=Qh H1.2;clear H1;go_wp2_with fail;refine(HU1.out 0).mono ?_;rintro en w2 ⟨rfl,n2,hw⟩;subst hw;go_wp2_with fail;refine(HN1.out _).mono ?_;rintro en w' ⟨rfl,hw⟩;obtain rfl:=hw.symm;go_wp2_with fail;refine(HN3.out _).mono ?_;rintro en w' ⟨rfl,hw⟩;obtain rfl:=hw.symm;go_wp2_with fail;refine(HU2.out n2).mono ?_;rintro en w2 ⟨rfl,n3,hw⟩;subst hw;go_wp2_with fail;refine(HN2.out _).mono ?_;rintro en w' ⟨rfl,hw⟩;obtain rfl:=hw.symm;go_wp2_with fail;refine(HN4.out _).mono ?_;rintro en w' ⟨rfl,hw⟩;obtain rfl:=hw.symm;by_cases c1:d1<=d2/10*10
 ·have c1':decide ((d1:Int)<=(d2:Int)/10*10)=true:=(by rw[decide_eq_true_eq];clear hl1 hl2;omega);go_wp2_with fail;go_ret2;refine⟨?_,zv HB.out _⟩;unfold yJ;rw[if_pos c1];exact yy (by push_cast;rfl) (by show-(-q-1)=q+1;omega)
 ·have c1':decide ((d1:Int)<=(d2:Int)/10*10)=false:=by rw[decide_eq_false_iff_not];clear hl1 hl2;omega
  by_cases c2:d1<d2
  ·go_wp2_with fail;refine(HU3.out n3).mono ?_;rintro en w2 ⟨rfl,n4,hw⟩;subst hw;go_wp2_with fail;refine(HN5.out _).mono ?_;rintro en w' ⟨rfl,hw⟩;obtain rfl:=hw.symm;go_wp2_with fail;go_ret2;refine⟨?_,zv HB.out _⟩;unfold yJ;rw[if_neg c1,if_pos c2];exact yy (by unfold Us.rnd;push_cast;rfl) (by show q=q;rfl)
  ·go_wp2_with fail;go_ret2;refine⟨?_,zv HB.out _⟩;unfold yJ;rw[if_neg c1,if_neg c2];exact yy rfl rfl
theorem z7j(m mn mx od u1 u2 u3:Nat)(e q lp:Int)(s:Nat)(w:World)(hT:z0t w)(hg:6<w.heap.size)(S:SfW m mn mx od u1 u2 u3 e q lp s)
  (he0:-1200<=e)(he1:e<=1000)(hq0:-340<=q)(hq1:q<=340)(hlp:-2000<=lp/\lp<=2000)(hod:od<=1)(h1:1<=u1)(h1':u1<9223372036854775800)(h2:1<=u2)(h2':u2<9223372036854775800)(h3:u3<9223372036854775800)
  (hLp:∀w,Calls Tryz.prog 154 #[.int .i64 (-q)] w fun e w'=>e=.returned (.int .i64 lp)/\w'=w)
  (hm:((m:Int)==9223372036854775808)=true)(hg1:decide (-1085<e)=false)(he:decide (-1085<=e)=false)(z:Nat)(hz:11+(-1085-e)=(z:Int))(hz1:12<=z)(hz2:z<=63)(B:Nat)(hB:IntKind.u64.wrap (2^(z-1))=(B:Int))(hmn:IntKind.u64.wrap ((m:Int)-B)=(mn:Int))(hmx:IntKind.u64.wrap ((m:Int)+B)=(mx:Int))(ho:bits BinOp.and IntKind.i64 (wrap64 ((m:Int)/2^z)) 1=(od:Int))
  (hC:∀w,Calls Tryz.prog 131 #[.int .i64 (e+z)] w fun e w'=>e=.returned (.int .i64 q)/\w'=w):
  Calls Tryz.prog 136 #[.int .u64 (m:Int),.int .i64 e] w fun en w'=>en=.returned (.tuple #[.int .u64 ((yJ ((u1+od+3)/4) ((u2-od)/4) u3 q).1:Nat),.int .i64 (yJ ((u1+od+3)/4) ((u2-od)/4) u3 q).2])/\Below w.heap.size w w':=by
 have HFX:=Qh (Qa hm (Qa hg1 (Qa he (Qa hz (Qa hB (Qa hmn (Qa hmx ho)))))));clear hm hg1 he hz hB hmn hmx ho;have hC3:=fun w=>z0H ((u1:Int)+(od:Int)) w (by omega) (by omega);have hC4:=fun w=>z08 ((u2:Int)+ -(od:Int)) w (by omega) (by omega);have E1:((u1:Int)+od+3)/4=(((u1+od+3)/4:Nat):Int):=(by omega);have E2:((u2:Int)+ -(od:Int))/4=(((u2-od)/4:Nat):Int):=(by omega);simp only[E1]at hC3;simp only[E2]at hC4;have HN1:=Qh (fun w=>yX (u1:Int) (od:Int) w (by omega) (by omega) (by omega) (by omega) (by omega));have HN2:=Qh (fun w=>yX (u2:Int) (-(od:Int)) w (by omega) (by omega) (by omega) (by omega) (by omega));have HN3:=Qh hC3;have HN4:=Qh hC4;have HN5:=Qh (fun w=>xw u3 w (by omega));obtain⟨d1,hd1⟩:∃x,x=(u1+od+3)/4:=⟨_,rfl⟩;obtain⟨d2,hd2⟩:∃x,x=(u2-od)/4:=⟨_,rfl⟩;have hl1:d1<4611686018427387904:=(by omega);have hl2:d2<4611686018427387904:=(by omega);rw[<-hd1]at HN3⊢
 rw[<-hd2]at HN4⊢
 clear E1 E2 hC3 hC4 hd1 hd2 h1 h1' h2 h2' h3;have HLp:=Qh hLp;have HC:=Qh hC;clear hC;have HS:=Qh (Qa S (Qa hT (Qa hg hlp)));clear hLp S hT hg hlp;have hnew:z2D (w.alloc (.cells (scA 0 0 0) 201)) w.heap.size 0 0 0:=zm _ _;have hPo:z0t (w.alloc (.cells (scA 0 0 0) 201)):=fun i hi=>⟨by rw[World.cell?_alloc_past _ _ _ HS.2.2.1];exact(HS.2.1 i hi).1,by rw[World.cell?_alloc_past _ _ _ HS.2.2.1];exact(HS.2.1 i hi).2⟩;have hpr:=qj w.heap.size 0 0 0 e (-q) lp _ hnew (by have:=HS.2.2.1;omega) hPo (by omega) (by omega) (by omega) (by have:=HS.2.2.2;omega);have HPr:=Qh hpr;clear hnew hPo hpr;obtain⟨hm,hg1,he,hz,hB,hmn,hmx,ho⟩:=HFX.out;clear HFX;go_in;go_wp2_with fail;refine(HC.out _).mono ?_;rintro en w' ⟨rfl,hw⟩;obtain rfl:=hw.symm;go_wp2_with fail;clear hm hg1 he hz hB hmn hmx ho;refine(HLp.out _).mono ?_;rintro en w' ⟨rfl,hw⟩;obtain rfl:=hw.symm;go_wp2_with fail;refine(HPr.out).mono ?_;rintro en w1 ⟨rfl,hsc,hk⟩;have hb1:Below w.heap.size w w1:=((Keep.alloc (Keep.refl (fun _=>False) w) _).own hk (fun i hi=>Or.inr (by subst hi;exact Nat.le_refl _))).none;rw[HS.1.hs]at hsc;have H1:=Qh (Qa hsc hb1);clear hsc hk hb1 HPr;have HU1:=Qh (fun n=>z17 H1.1 HS.1.lmn HS.1.hi HS.1.lo HS.1.ls HS.1.hu1 n);have HU2:=Qh (fun n=>z17 H1.1 HS.1.lmx HS.1.hi HS.1.lo HS.1.ls HS.1.hu2 n);have HU3:=Qh (fun n=>z17 H1.1 HS.1.lm HS.1.hi HS.1.lo HS.1.ls HS.1.hu3 n);have HB:=Qh H1.2;clear H1;go_wp2_with fail;refine(HU1.out 0).mono ?_;rintro en w2 ⟨rfl,n2,hw⟩;subst hw;go_wp2_with fail;refine(HN1.out _).mono ?_;rintro en w' ⟨rfl,hw⟩;obtain rfl:=hw.symm;go_wp2_with fail;refine(HN3.out _).mono ?_;rintro en w' ⟨rfl,hw⟩;obtain rfl:=hw.symm;go_wp2_with fail;refine(HU2.out n2).mono ?_;rintro en w2 ⟨rfl,n3,hw⟩;subst hw;go_wp2_with fail;refine(HN2.out _).mono ?_;rintro en w' ⟨rfl,hw⟩;obtain rfl:=hw.symm;go_wp2_with fail;refine(HN4.out _).mono ?_;rintro en w' ⟨rfl,hw⟩;obtain rfl:=hw.symm;by_cases c1:d1<=d2/10*10
 ·have c1':decide ((d1:Int)<=(d2:Int)/10*10)=true:=(by rw[decide_eq_true_eq];clear hl1 hl2;omega);go_wp2_with fail;go_ret2;refine⟨?_,zv HB.out _⟩;unfold yJ;rw[if_pos c1];exact yy (by push_cast;rfl) (by show-(-q-1)=q+1;omega)
 ·have c1':decide ((d1:Int)<=(d2:Int)/10*10)=false:=by rw[decide_eq_false_iff_not];clear hl1 hl2;omega
  by_cases c2:d1<d2
  ·go_wp2_with fail;refine(HU3.out n3).mono ?_;rintro en w2 ⟨rfl,n4,hw⟩;subst hw;go_wp2_with fail;refine(HN5.out _).mono ?_;rintro en w' ⟨rfl,hw⟩;obtain rfl:=hw.symm;go_wp2_with fail;go_ret2;refine⟨?_,zv HB.out _⟩;unfold yJ;rw[if_neg c1,if_pos c2];exact yy (by unfold Us.rnd;push_cast;rfl) (by show q=q;rfl)
  ·go_wp2_with fail;go_ret2;refine⟨?_,zv HB.out _⟩;unfold yJ;rw[if_neg c1,if_neg c2];exact yy rfl rfl
end Go.Proofs.YtkkecpamnnojoaaGreatDoor
namespace Go.Proofs.YtkkecpamnnojoaaGreatDoor.Us
structure Ok (m:Nat) (e:Int):Prop where
 lo:9223372036854775808<=m
 hi:m<18446744073709551616
 e0:-1137<=e
 e1:e<=960
 dv:m%2^zz e=0
theorem z0x{e:Int}(h0:-1137<=e)(h1:e<=960):11<=zz e/\zz e<=63:=by unfold zz;split<;>omega
theorem z0A{m:Nat}{e:Int}(h0:-1137<=e)(h1:e<=960):-300<=pp m e/\pp m e<=330/\5<= -(e+lgp (pp m e)+3)/\ -(e+lgp (pp m e)+3)<=58:=by
 unfold pp;by_cases hs:qw m e=true
 ·have h2:-1085<e:=by
   unfold qw at hs;simp only[Bool.and_eq_true,decide_eq_true_eq]at hs;exact hs.2
  rw[if_pos hs];unfold skw lgp;omega
 ·rw[if_neg hs];unfold zz lg2 lgp;split<;>omega
theorem z99:∀i:Fin 696,yK ((i.val:Int)-348)<18446744073709551616/\9223372036854775808<=yK ((i.val:Int)-348)/\qO ((i.val:Int)-348)<18446744073709551616/\qO ((i.val:Int)-348)<=yK ((i.val:Int)-348)*18446744073709551616:=by decide+kernel
theorem z1J{p:Int}(h0:-348<=p)(h1:p<=347):yK p<18446744073709551616/\9223372036854775808<=yK p/\qO p<18446744073709551616/\qO p<=yK p*18446744073709551616:=by have:=z99 ⟨(p+348).toNat,by omega⟩;have e:(((p+348).toNat:Nat):Int)-348=p:=(by omega);simp only[e]at this;exact this
theorem z0g(q:Nat)(b:Bool):q/2*2<=stk q b/\stk q b<=q+1:=by unfold stk;cases b<;>simp<;>omega
theorem z00{x s hi lo:Nat}(hx:x<18446744073709551616)(hx0:4611686018427387904<=x)(hhi:hi<18446744073709551616)(hhi0:9223372036854775808<=hi)(h0:5<=s)(h1:s<=58):1<=usc x s hi lo/\usc x s hi lo<9223372036854775800:=by
 have u1:x*hi<18446744073709551616*18446744073709551616:=Nat.mul_lt_mul'' hx hhi;have u0:4611686018427387904*9223372036854775808<=x*hi:=Nat.mul_le_mul hx0 hhi0;unfold usc;have h1':x*hi/18446744073709551616<18446744073709551616:=(by omega);have h0':2305843009213693952<=x*hi/18446744073709551616:=(by omega);generalize x*hi/18446744073709551616=h at*
 generalize x*hi%18446744073709551616=m at*
 clear u1 u0;have p5:2^5<=2^s:=Nat.pow_le_pow_right (by omega) h0;have p58:2^s<=2^58:=Nat.pow_le_pow_right (by omega) h1;have key:∀a,2305843009213693951<=a->a<18446744073709551616->∀b,1<=stk (a/2^s) b/\stk (a/2^s) b<9223372036854775800:=by
  intro a a0 a1 b;have:=z0g (a/2^s) b;have l1:a/2^s<=a/2^5:=Nat.div_le_div_left p5 (by decide);have l2:a/2^58<=a/2^s:=Nat.div_le_div_left p58 (Nat.two_pow_pos s);have e1:(2:Nat)^5=32:=(by decide);have e2:(2:Nat)^58=288230376151711744:=(by decide);rw[e1]at l1;rw[e2]at l2;generalize a/2^s=q at*
  omega
 by_cases hr:h%2^s≠0
 ·simp only[if_pos hr];exact key h (by omega) h1' _
 ·simp only[if_neg hr]
  refine key _ ?_ ?_ _
  ·split<;>omega
  ·split<;>omega
end Go.Proofs.YtkkecpamnnojoaaGreatDoor.Us
namespace Go.Proofs.YtkkecpamnnojoaaGreatDoor
open Go.ChangeShapes Go.WideShapes Go.ChangeAt Go.RowKit
open Bt
theorem z6U(a:Nat)(h:a<9223372036854775808):bits BinOp.and IntKind.i64 (wrap64 (a:Int)) 1=((a%2:Nat):Int):=by rw[Sm.z0L _ (by omega) (by omega)];have h1:(BitVec.ofInt 64 (a:Int)).toNat=a:=(by rw[BitVec.ofInt_natCast,BitVec.toNat_ofNat];exact Nat.mod_eq_of_lt (by omega));have h3:(BitVec.ofInt 64 (a:Int)&&&BitVec.ofInt 64 1).toNat=a%2:=(by rw[BitVec.toNat_and,h1,show(BitVec.ofInt 64 1).toNat=1 from rfl,Nat.and_one_is_mod]);show IntKind.i64.wrap ((BitVec.ofInt 64 (a:Int)&&&BitVec.ofInt 64 1).toNat:Int)=_;rw[h3];simp only[IntKind.wrap_i64];omega
theorem zeL(m:Nat)(e:Int)(h:Us.Ok m e):bits BinOp.and IntKind.i64 (wrap64 ((m:Int)/2^Us.zz e)) 1=((Us.odd m e:Nat):Int):=by have hz:=Us.z0x h.e0 h.e1;have e1:((m:Int)/2^Us.zz e)=((m/2^Us.zz e:Nat):Int):=(by push_cast;rfl);have h2:m/2^Us.zz e<=m/2^11:=Nat.div_le_div_left (Nat.pow_le_pow_right (by omega) hz.1) (by decide);have:=h.hi;rw[e1,z6U _ (by omega)];rfl
theorem zfl(m:Nat)(e:Int):yJ (Us.dmn m e) (Us.dmx m e) (Us.uu m e m) (-Us.pp m e)=Us.z56 m e:=by
 unfold yJ Us.z56 Us.shD Us.shP;rw[show-Us.pp m e+1=1-Us.pp m e by omega];by_cases c1:Us.dmn m e<=Us.dmx m e/10*10
 ·rw[if_pos c1,if_pos c1,if_pos c1]
 ·rw[if_neg c1,if_neg c1,if_neg c1];split<;>rfl
theorem z9e(m:Nat)(e:Int)(w:World)(h:Us.Ok m e)(hT:z0t w)(hg:6<w.heap.size):
  Calls Tryz.prog 136 #[.int .u64 (m:Int),.int .i64 e] w fun en w'=>en=.returned (.tuple #[.int .u64 (Us.shD m e:Nat),.int .i64 (Us.shP m e)])/\Below w.heap.size w w':=by
 have hp:=Us.z0A (m:=m) h.e0 h.e1;have hz:=Us.z0x h.e0 h.e1;have hpm:=Us.z1J (p:=Us.pp m e) (by omega) (by omega);have ho:=zeL m e h;have h1:=h.lo;have h2:=h.hi;have hdv:=h.dv;have h3:=h.e0;have h4:=h.e1;have hlg:-1000<=Us.lgp (Us.pp m e)/\Us.lgp (Us.pp m e)<=1200:=(by unfold Us.lgp;omega);have p10:2^10<=2^(Us.zz e-1):=Nat.pow_le_pow_right (by omega) (by omega);have p62:2^(Us.zz e-1)<=2^62:=Nat.pow_le_pow_right (by omega) (by omega);have pz:2^Us.zz e=2^(Us.zz e-1)*2:=(by rw[<-Nat.pow_succ];congr 1;omega);have e62:(2:Nat)^62=4611686018427387904:=(by decide);have e10:(2:Nat)^10=1024:=(by decide);have hmx:Us.mxv m e<18446744073709551616:=by
  unfold Us.mxv;have:=Nat.div_add_mod m (2^Us.zz e);have e64:(18446744073709551616:Nat)=2^(64-Us.zz e)*2^Us.zz e:=(by rw[<-Nat.pow_add];rw[show 64-Us.zz e+Us.zz e=64 by omega]);have lt:m/2^Us.zz e<2^(64-Us.zz e):=Nat.div_lt_of_lt_mul (by rw[Nat.mul_comm,<-e64];exact h2);have:=Nat.mul_le_mul_right (2^Us.zz e) (Nat.succ_le_of_lt lt);rw[<-e64,Nat.succ_mul]at this;rw[Nat.mul_comm (2^Us.zz e)]at*
  omega
 have hmn:4611686018427387904<=Us.mnv m e/\Us.mnv m e<18446744073709551616:=(by unfold Us.mnv;have e9:(2:Nat)^9=512:=(by decide);split<;>omega);have hmx0:4611686018427387904<=Us.mxv m e:=(by unfold Us.mxv;omega);have hs:((Us.sft m e:Nat):Int)= -(e+Us.lgp (Us.pp m e)+3):=(by unfold Us.sft;omega);have hs5:5<=Us.sft m e/\Us.sft m e<=58:=(by omega);have hod:Us.odd m e<=1:=(by unfold Us.odd;omega);have r1:=Us.z00 (lo:=Us.qO (Us.pp m e)) hmn.2 hmn.1 hpm.1 hpm.2.1 hs5.1 hs5.2;have r2:=Us.z00 (lo:=Us.qO (Us.pp m e)) hmx hmx0 hpm.1 hpm.2.1 hs5.1 hs5.2;have r3:=Us.z00 (lo:=Us.qO (Us.pp m e)) h2 (by omega) hpm.1 hpm.2.1 hs5.1 hs5.2;have hLp:∀w,Calls Tryz.prog 154 #[.int .i64 (-(-Us.pp m e))] w fun e' w'=>e'=.returned (.int .i64 (Us.lgp (Us.pp m e)))/\w'=w:=fun w=>(by rw[Int.neg_neg];exact z6l _ w (by omega) (by omega));have S:SfW m (Us.mnv m e) (Us.mxv m e) (Us.odd m e) (Us.uu m e (Us.mnv m e)) (Us.uu m e (Us.mxv m e)) (Us.uu m e m) e (-Us.pp m e) (Us.lgp (Us.pp m e)) (Us.sft m e):=by
  refine⟨h2,hmn.2,hmx,?_,?_,by omega,hs.symm,?_,?_,?_⟩<;>rw[Int.neg_neg]
  ·exact hpm.1
  ·exact hpm.2.2.1
  ·rfl
  ·rfl
  ·rfl
 have hsf:=zfl m e;rw[show Us.shD m e=(Us.z56 m e).1 from rfl,show Us.shP m e=(Us.z56 m e).2 from rfl,<-hsf];have wsub:∀b:Nat,b<=m->IntKind.u64.wrap ((m:Int)-(b:Nat))=((m-b:Nat):Int):=fun b hb=>(by rw[IntKind.wrap_u64];omega);have wadd:∀b:Nat,m+b<18446744073709551616->IntKind.u64.wrap ((m:Int)+(b:Nat))=((m+b:Nat):Int):=fun b hb=>(by rw[IntKind.wrap_u64];omega);by_cases hm:m=9223372036854775808
 ·have bm:((m:Int)==9223372036854775808)=true:=by rw[beq_iff_eq];omega
  by_cases hg1:-1085<e
  ·have hsk:Us.qw m e=true:=by unfold Us.qw;simp[hm,hg1]
   have hz11:Us.zz e=11:=(by unfold Us.zz;rw[if_pos (by omega)]);refine z9d m _ _ _ _ _ _ e (-Us.pp m e) (Us.lgp (Us.pp m e)) (Us.sft m e) w hT hg S (by omega) (by omega) (by omega) (by omega) (by omega) hod r1.1 r1.2 r2.1 r2.2 r3.2 hLp bm (decide_eq_true hg1) ?_ ?_ ?_ ?_
   ·unfold Us.mnv;rw[if_pos hsk];exact wsub 512 (by omega)
   ·unfold Us.mxv;rw[hz11];exact wadd 1024 (by omega)
   ·rw[<-ho,hz11];rfl
   ·intro w;unfold Us.pp;rw[if_pos hsk,Int.neg_neg];exact z7f _ w (by omega) (by omega)
  ·have hsk:Us.qw m e=false:=by unfold Us.qw;simp[hg1]
   by_cases he:-1085<=e
   ·have hz11:Us.zz e=11:=by unfold Us.zz;rw[if_pos he]
    refine z5T m _ _ _ _ _ _ e (-Us.pp m e) (Us.lgp (Us.pp m e)) (Us.sft m e) w hT hg S (by omega) (by omega) (by omega) (by omega) (by omega) hod r1.1 r1.2 r2.1 r2.2 r3.2 hLp bm (decide_eq_false hg1) (decide_eq_true he) ?_ ?_ ?_ ?_
    ·unfold Us.mnv;rw[hsk,hz11];exact wsub 1024 (by omega)
    ·unfold Us.mxv;rw[hz11];exact wadd 1024 (by omega)
    ·rw[<-ho,hz11];rfl
    ·intro w;unfold Us.pp;rw[hsk,hz11];simp only[Bool.false_eq_true,if_false,Int.neg_neg];exact z0S _ w (by omega) (by omega)
   ·have hzz:((Us.zz e:Nat):Int)= -1074-e:=by unfold Us.zz;rw[if_neg he];omega
    refine z7j m _ _ _ _ _ _ e (-Us.pp m e) (Us.lgp (Us.pp m e)) (Us.sft m e) w hT hg S (by omega) (by omega) (by omega) (by omega) (by omega) hod r1.1 r1.2 r2.1 r2.2 r3.2 hLp bm (decide_eq_false hg1) (decide_eq_false he) (Us.zz e) (by omega) (by omega) hz.2 (2^(Us.zz e-1)) ?_ ?_ ?_ ?_ ?_
    ·have:(2:Int)^(Us.zz e-1)=((2^(Us.zz e-1):Nat):Int):=(by push_cast;rfl);rw[this,IntKind.wrap_u64];omega
    ·unfold Us.mnv;rw[hsk];exact wsub _ (by omega)
    ·unfold Us.mxv;exact wadd _ (by unfold Us.mxv at hmx;exact hmx)
    ·exact ho
    ·intro w;unfold Us.pp;rw[hsk];simp only[Bool.false_eq_true,if_false,Int.neg_neg];exact z0S _ w (by omega) (by omega)
 ·have bm:((m:Int)==9223372036854775808)=false:=Qb (by omega)
  have hsk:Us.qw m e=false:=(by unfold Us.qw;simp[hm]);by_cases he:-1085<=e
  ·have hz11:Us.zz e=11:=by unfold Us.zz;rw[if_pos he]
   refine z9c m _ _ _ _ _ _ e (-Us.pp m e) (Us.lgp (Us.pp m e)) (Us.sft m e) w hT hg S (by omega) (by omega) (by omega) (by omega) (by omega) hod r1.1 r1.2 r2.1 r2.2 r3.2 hLp bm (decide_eq_true he) ?_ ?_ ?_ ?_
   ·unfold Us.mnv;rw[hsk,hz11];exact wsub 1024 (by omega)
   ·unfold Us.mxv;rw[hz11];exact wadd 1024 (by unfold Us.mxv at hmx;rw[hz11]at hmx;exact hmx)
   ·rw[<-ho,hz11];rfl
   ·intro w;unfold Us.pp;rw[hsk,hz11];simp only[Bool.false_eq_true,if_false,Int.neg_neg];exact z0S _ w (by omega) (by omega)
  ·have hzz:((Us.zz e:Nat):Int)= -1074-e:=by unfold Us.zz;rw[if_neg he];omega
   refine z7i m _ _ _ _ _ _ e (-Us.pp m e) (Us.lgp (Us.pp m e)) (Us.sft m e) w hT hg S (by omega) (by omega) (by omega) (by omega) (by omega) hod r1.1 r1.2 r2.1 r2.2 r3.2 hLp bm (decide_eq_false he) (Us.zz e) (by omega) (by omega) hz.2 (2^(Us.zz e-1)) ?_ ?_ ?_ ?_ ?_
   ·have:(2:Int)^(Us.zz e-1)=((2^(Us.zz e-1):Nat):Int):=(by push_cast;rfl);rw[this,IntKind.wrap_u64];omega
   ·unfold Us.mnv;rw[hsk];exact wsub _ (by omega)
   ·unfold Us.mxv;exact wadd _ (by unfold Us.mxv at hmx;exact hmx)
   ·exact ho
   ·intro w;unfold Us.pp;rw[hsk];simp only[Bool.false_eq_true,if_false,Int.neg_neg];exact z0S _ w (by omega) (by omega)
end Go.Proofs.YtkkecpamnnojoaaGreatDoor
namespace Go.Proofs.YtkkecpamnnojoaaGreatDoor.Us
def qT(u:Nat):Nat->Nat
 |0=>0
 |n+1=>if u%10=0 then qT (u/10) n else n+1
theorem z1a(u n:Nat):qT u (n+1)=if u%10=0 then qT (u/10) n else n+1:=rfl
theorem z1t(u n:Nat):qT u n<=n:=by
 induction n generalizing u with
 |zero=>exact Nat.le_refl _
 |succ n ih=>
  unfold qT;split
  ·exact Nat.le_succ_of_le (ih _)
  ·exact Nat.le_refl _
def digit(u nd t:Nat):Nat:=48+u/10^(nd-1-t)%10
end Go.Proofs.YtkkecpamnnojoaaGreatDoor.Us
namespace Go.Proofs.YtkkecpamnnojoaaGreatDoor
open Go.ChangeShapes Go.WideShapes Go.ChangeAt Go.RowKit
open Bt
def z8f(w:World)(b u nd:Nat):Prop:=∀t,t<nd->w.cell? ⟨b,t,none⟩=some (.int .u8 (Us.digit u nd t:Nat))
theorem z6r{α:Type}[Inhabited α](enc:α->Value)(w:World)(b off:Nat)(d:Array α):Keep (·=b) w (Sort.putRow enc w b off d):=by refine⟨rfl,rfl,rfl,by simp,fun k hk hn=>?_⟩;show(w.heap.modify b _)[k]?=_;rw[Array.getElem?_modify,if_neg (fun h=>hn h.symm)]
theorem zf5(u j:Nat):(Lib.dg u j).toNat=48+u/10^j%10:=by unfold Lib.dg;rw[UInt8.toNat_ofNat'];have:u/10^j%10<10:=Nat.mod_lt _ (by decide);omega
theorem z3S(b u nd:Nat)(p:Int)(t:TypeId)(w:World)(hb:w.heap[b]?=some (.cells (Array.replicate 32 (.int .u8 0)) t (0,0)))(hnd:nd<=20)(hu:u<10^nd)(hu64:u<18446744073709551616)(hp0:-1000<=p)(hp1:p<=1000):
  Calls Tryz.prog 130 #[.slice (some ⟨b,0,none⟩) 32 32,.int .u64 (u:Int),.int .i64 p,.int .i64 (nd:Int)] w fun e w'=>e=.returned (.tuple #[.int .i64 (nd+p),.int .i64 (Us.qT u nd:Nat)])/\RowKit.Hid (z8f w' b u nd/\Keep (·=b) w w'):=by
 have hH:Sort.Holds (fun(b:UInt8)=>Value.int .u8 (b.toNat:Int)) w b 0 (Array.replicate nd (0:UInt8)):=(by intro j hj;have hj':j<nd:=(by simpa using hj);rw[Nat.zero_add];refine⟨?_,zd hb j⟩;have hj2:j<32:=(by omega);rw[za hb j,getElem!_pos _ j hj];simp[hj2]);have hF:=Tryz.internal_strconv_formatBase10 b 0 32 u (Array.replicate nd (0:UInt8)) w hH (by simpa using hu) hu64 (by simp;omega);rw[show(Array.replicate nd (0:UInt8)).size=nd by simp]at hF;have HF:=Qh (Qa hF (Qa hH hb));clear hF hH hb hu;go_in;go_wp2_with fail;refine HF.1.mono ?_;rintro e w1 ⟨rfl,n,v,dk,hw,hI⟩;have hsz:dk.size=nd:=hI.size;have hcell:∀j,j<nd->w1.cell? ⟨b,j,none⟩=some (.int .u8 (Us.digit u nd j:Nat)):=(by intro j hj;have h:=Sort.cell?_putRow (fun(b:UInt8)=>Value.int .u8 (b.toNat:Int)) w b 0 _ dk HF.2.1 (by rw[hsz];simp) j (by rw[hsz];exact hj);rw[Nat.zero_add]at h;rw[hw];show(Sort.putRow _ w b 0 dk).cell? _=_;rw[h,hI.done j (Nat.zero_le _) hj,zf5];rfl);have hk1:Keep (·=b) w w1:=by rw[hw];exact(z6r _ w b 0 dk).drewN n
 have H1:=Qh (Qa hcell hk1);clear hcell hk1 hw hI hsz HF;go_wp2_with fail;go_loopw [3] (fun s3 wx=>∃k:Nat,k<=nd/\s3=.int .i64 (k:Int)/\RowKit.Hid (Us.qT u nd=Us.qT (u/10^(nd-k)) k/\∃n,wx=w1.drewN n)) (fun s3 _=>(intOf s3).toNat)
 case atStart=>exact⟨nd,Nat.le_refl _,rfl,by rw[Nat.sub_self,Nat.pow_zero,Nat.div_one],0,rfl⟩
 case round=>
  obtain⟨k,hk,rfl,HR⟩:=hrel;obtain⟨htr,n2,hwr⟩:=HR.out;clear HR;cases k with
  |zero=>
   have hfin:RowKit.Hid (Us.qT u nd=0/\z8f wr b u nd/\Keep (·=b) w wr):=by
    refine⟨htr,?_,?_⟩
    ·rw[hwr];exact H1.1
    ·rw[hwr];exact H1.2.drewN n2
   clear htr hwr;go_wp2_with fail;go_ret2;exact⟨by rw[hfin.out.1];rfl,hfin.out.2⟩
  |succ k=>
   have hc:wr.cell? ⟨b,k,none⟩=some (.int .u8 (Us.digit u nd k:Nat)):=(by rw[hwr];exact H1.1 k (by omega));have hq:Us.digit u nd k=48+u/10^(nd-(k+1))%10:=(by unfold Us.digit;rw[show nd-1-k=nd-(k+1) by omega]);have hn:u/10^(nd-(k+1))/10=u/10^(nd-k):=(by rw[Nat.div_div_eq_div_mul,<-Nat.pow_succ];congr 2;omega);rw[Us.z1a,hn]at htr;rw[hq]at hc;generalize u/10^(nd-(k+1))=q at*
   have hk2:k<20:=(by omega);by_cases h0:q%10=0
   ·rw[if_pos h0]at htr
    have hd:((48+q%10:Nat):Int)=48:=(by omega);rw[hd]at hc;have HT:=Qh (Qa htr hwr);clear htr hwr hq hn h0 hd;go_wp2_with fail;go_roundw
    case rel=>exact⟨k,by omega,by go_num,HT.1,n2,HT.2⟩
    case measure=>simp[intOf]
   ·rw[if_neg h0]at htr
    have hd:(((48+q%10:Nat):Int)==48)=false:=Qb (by omega);have hfin:RowKit.Hid (Us.qT u nd=k+1/\z8f wr b u nd/\Keep (·=b) w wr):=by
     refine⟨htr,?_,?_⟩
     ·rw[hwr];exact H1.1
     ·rw[hwr];exact H1.2.drewN n2
    clear htr hwr hq hn h0;generalize((48+q%10:Nat):Int)=dg at*
    go_wp2_with fail;go_ret2;exact⟨by rw[hfin.out.1];rfl,hfin.out.2⟩
end Go.Proofs.YtkkecpamnnojoaaGreatDoor
namespace Go.Proofs.YtkkecpamnnojoaaGreatDoor
open Go.ChangeShapes Go.WideShapes Go.ChangeAt Go.RowKit
theorem xZ{P:Program}(w:World){ops:Array Oper}{rest:List Oper}{o:Oper}{a:Act}{Q:Exit->Act->World->Prop}(hgd:o.guard=none)(s x:Operand)(t:TypeId)
  (ho:o.op=.call {callee:=.builtin .append,args:=#[s,x],argTypes:=#[t,t]})
  (base:Nat)(e:TypeId)(i:TypeInfo)(z:Value)(bytes:Nat)(ht:P.underlying t=some (.slice e))(hi:P.info? e=some i)(hz:i.zero=some z)
  (hsize:i.size=1)(hby:i.bytes=bytes)(hzs:z.cells.size=1)
  (v:Value)(n:Nat)(xs:List Value)(hs:a.eval s=v)(hown:w.ownsRow base e 1 v n xs)
  (oa:Option Addr)(m c:Nat)(news:List Value)(hx:a.eval x=.slice oa m c)(hl:news.length=m)(hnews:∀j u,news[j]?=some u->∃ad,oa=some ad/\w.cell? (ad.add j)=some u)(h1:∀u∈news,u.oneCell'=true)
  (hc:oa=none->c=0)(h63:n+m<=maxLen)(hbytes:(n+m)*bytes<=140737488355328)(hbase:base<=w.heap.size)
  (h:∀v' w',w'.ownsRow base e 1 v' (n+m) (xs++news)->w.grownBy w' v.ownBlock->(v'.ownBlock=v.ownBlock\/v'.ownBlock=some w.heap.size)->wpList P ops Q rest (a.put o.dst v') w'):
  wpList P ops Q (o::rest) a w:=by
 cases oa with
 |some ad=>
  refine wpList_append_own_at (P:=P) w hgd s x t ho base e i z 1 bytes ht hi hz hsize hby hzs (by omega) v n xs hs hown ad m c news hx (by omega) ?_ h1 h63 hbytes hbase fun v' w' h2 h3 _ h5=>h v' w' h2 h3 h5;intro j u hj;obtain⟨ad',e1,e2⟩:=hnews j u hj;cases e1;exact e2
 |none=>
  have hn0:news=[]:=by
   cases news with
   |nil=>rfl
   |cons y r=>obtain⟨_,e1,_⟩:=hnews 0 y rfl;cases e1
  subst hn0;have hm0:m=0:=(by rw[<-hl];rfl);subst hm0;rw[hc rfl]at hx;refine wpList_plain hgd fun K hK=>?_;have hr:=run_append_owned_none (P:=P) (w:=w) base t o.type e i 1 ht hi v n xs hown;unfold Oper.wp execOp;simp only[ho,resolve,invoke,builtin,Sem.run_bind,Sem.run_pure,Result.andThen_ok,List.map_toArray,List.map_cons,List.map_nil,hs,hx,hr];refine hK _ _ (h v w ?_ ?_ (Or.inl rfl))
  ·rw[List.append_nil];exact hown
  ·exact⟨rfl,rfl,rfl,Nat.le_refl _,fun _ _ _=>rfl⟩
end Go.Proofs.YtkkecpamnnojoaaGreatDoor
namespace Go.Proofs.YtkkecpamnnojoaaGreatDoor.Us
def z3w(e:Int):List Nat:=
 (if e<0 then 45 else 43)::(if e.natAbs<10 then[48,e.natAbs+48]else if e.natAbs<100 then[e.natAbs/10+48,e.natAbs%10+48]else[e.natAbs/100+48,e.natAbs/10%10+48,e.natAbs%10+48])
def za0(D:List Nat)(dp:Int):List Nat:=D.take 1++(if 1<D.length then 46::D.drop 1 else[])++101::z3w (dp-1)
def z5m(D:List Nat)(dp:Int):List Nat:=
 if 0<dp then D.take dp.toNat++List.replicate (dp.toNat-D.length) 48++(if dp.toNat<D.length then 46::D.drop dp.toNat else[])
 else 48::46::List.replicate (-dp).toNat 48++D
def qG(neg:Bool)(D:List Nat)(dp:Int):List Nat:=
 (if neg then[45]else[])++(if D=[]then[48]else if dp-1< -4\/6<=dp-1 then za0 D dp else z5m D dp)
end Go.Proofs.YtkkecpamnnojoaaGreatDoor.Us
namespace Go.Proofs.YtkkecpamnnojoaaGreatDoor
open Go.ChangeShapes Go.WideShapes Go.ChangeAt Go.RowKit
open Bt
structure Bu (W:World) (base b:Nat) (v:Value) (B:List Nat) (w:World):Prop where
 own:w.ownsRow base 5 1 v B.length (u8s B)
 apart:v.ownBlock≠some b
 below:Below base W w
 base:base<=W.heap.size
 lt:b<W.heap.size
 cell:∀t,w.cell? ⟨b,t,none⟩=W.cell? ⟨b,t,none⟩
theorem Bu.size{W w:World}{base b:Nat}{v:Value}{B:List Nat}(h:Bu W base b v B w):W.heap.size<=w.heap.size:=h.below.size
theorem Bu.alloc{W w:World}{base b:Nat}{v:Value}{B:List Nat}(h:Bu W base b v B w)(o:Obj):Bu W base b v B (w.alloc o):=
 ⟨h.own.alloc _,h.apart,h.below.alloc (Nat.le_trans h.base h.size) _,h.base,h.lt,fun t=>by rw[World.cell?_alloc_past _ _ _ (Nat.lt_of_lt_of_le h.lt h.size)];exact h.cell t⟩
theorem Bu.grown{W w w':World}{base b:Nat}{v v':Value}{B B':List Nat}(h:Bu W base b v B w)(hown:w'.ownsRow base 5 1 v' B'.length (u8s B'))(hg:w.grownBy w' v.ownBlock)(hv:v'.ownBlock=v.ownBlock\/v'.ownBlock=some w.heap.size):Bu W base b v' B' w':=by
 have hlt:=Nat.lt_of_lt_of_le h.lt h.size;refine⟨hown,?_,h.below.grown hg (Nat.le_trans h.base h.size) (fun k hk=>(h.own.lt k hk).1),h.base,h.lt,fun t=>?_⟩
 ·rcases hv with hv|hv
  ·rw[hv];exact h.apart
  ·rw[hv];intro e;injection e with e;omega
 ·rw[<-h.cell t];exact World.cell?_of_block (hg.block b hlt (fun e=>h.apart e.symm))
theorem z3q:∃i,Tryz.prog.info? 5=some i/\i.zero=some (.int .u8 0)/\i.size=1/\i.bytes=1:=by obtain⟨i0,hi,hz0,hz1,hz2⟩:=info_parts zdw;exact⟨i0,hi,hz0,hz1,hz2⟩
theorem yj{W w:World}{base b:Nat}{v:Value}{B:List Nat}(hI:Bu W base b v B w)(hl:B.length<=100000){o':Obj}(z:Int)(u:Nat)(hc:(w.alloc o').cell? ⟨w.heap.size,0,none⟩=some (.int .u8 z))(hu:z=(u:Int))
  {ops:Array Oper}{rest:List Oper}{o:Oper}{a:Act}{Q:Exit->Act->World->Prop}(hgd:o.guard=none)(s x:Operand)
  (ho:o.op=.call {callee:=.builtin .append,args:=#[s,x],argTypes:=#[53,53]})(hs:a.eval s=v)(hx:a.eval x=.slice (some ⟨w.heap.size,0,none⟩) 1 1)
  (h:∀v' w',Bu W base b v' (B++[u]) w'->wpList Tryz.prog ops Q rest (a.put o.dst v') w'):
  wpList Tryz.prog ops Q (o::rest) a (w.alloc o'):=by
 subst hu;obtain⟨i0,hi,hz0,hz1,hz2⟩:=z3q;have hA:=hI.alloc o';refine qL (w.alloc o') hgd s x 53 ho base 5 i0 (.int .u8 0) 1 Tryz.underlying53 hi hz0 hz1 hz2 rfl v B.length _ hs hA.own ⟨w.heap.size,0,none⟩ 1 (.int .u8 (u:Int)) hx hc rfl ?_ ?_ (Nat.le_trans hA.base hA.size) ?_
 ·unfold maxLen;omega
 ·omega
 ·intro g cap w' hown hg hv hge
  refine h _ w' (hA.grown (B':=B++[u]) ?_ hg ?_)
  ·rw[z19,List.length_append];exact hown
  ·rcases hv with hv|hv
   ·exact Or.inl hv.symm
   ·right;show some g=_;rw[hv]
theorem z9w{W w:World}{base b:Nat}{v:Value}{B:List Nat}(hI:Bu W base b v B w)(hl:B.length<=100000)(off:Nat)(C:List Nat)(hC:∀t,t<C.length->W.cell? ⟨b,off+t,none⟩=some (.int .u8 (C.getD t 0:Nat)))(hn:C.length<=100000)(m cap:Nat)(hm:C.length=m)
  {ops:Array Oper}{rest:List Oper}{o:Oper}{a:Act}{Q:Exit->Act->World->Prop}(hgd:o.guard=none)(s x:Operand)
  (ho:o.op=.call {callee:=.builtin .append,args:=#[s,x],argTypes:=#[53,53]})(hs:a.eval s=v)(hx:a.eval x=.slice (some ⟨b,off,none⟩) m cap)
  (h:∀v' w',Bu W base b v' (B++C) w'->wpList Tryz.prog ops Q rest (a.put o.dst v') w'):
  wpList Tryz.prog ops Q (o::rest) a w:=by
 subst hm;obtain⟨i0,hi,hz0,hz1,hz2⟩:=z3q;refine xZ w hgd s x 53 ho base 5 i0 (.int .u8 0) 1 Tryz.underlying53 hi hz0 hz1 hz2 rfl v B.length _ hs hI.own (some ⟨b,off,none⟩) C.length cap (u8s C) hx (z0f C) ?_ ?_ (fun e=>by cases e) ?_ ?_ (Nat.le_trans hI.base hI.size) ?_
 ·intro j u hj;have hlt:j<C.length:=(by rw[<-z0f C];exact(List.getElem?_eq_some_iff.1 hj).1);rw[z4Z C j hlt]at hj;cases hj;refine⟨_,rfl,?_⟩;rw[qg,hI.cell];exact hC j hlt
 ·intro u hu;obtain⟨n,-,rfl⟩:=List.mem_map.1 hu;rfl
 ·unfold maxLen;omega
 ·omega
 ·intro v' w' hown hg hv;refine h v' w' (hI.grown (B':=B++C) ?_ hg hv);rw[z19,List.length_append];exact hown
theorem z5b{W w:World}{base b:Nat}{v:Value}{B:List Nat}(hI:Bu W base b v B w)(hl:B.length<=100000){o':Obj}(C:List Nat)(hC:∀t,t<C.length->(w.alloc o').cell? ⟨w.heap.size,t,none⟩=some (.int .u8 (C.getD t 0:Nat)))(hn:C.length<=100)
  {ops:Array Oper}{rest:List Oper}{o:Oper}{a:Act}{Q:Exit->Act->World->Prop}(hgd:o.guard=none)(s x:Operand)
  (ho:o.op=.call {callee:=.builtin .append,args:=#[s,x],argTypes:=#[53,53]})(hs:a.eval s=v)(hx:a.eval x=.slice (some ⟨w.heap.size,0,none⟩) C.length C.length)
  (h:∀v' w',Bu W base b v' (B++C) w'->wpList Tryz.prog ops Q rest (a.put o.dst v') w'):
  wpList Tryz.prog ops Q (o::rest) a (w.alloc o'):=by
 obtain⟨i0,hi,hz0,hz1,hz2⟩:=z3q;have hA:=hI.alloc o';refine xZ (w.alloc o') hgd s x 53 ho base 5 i0 (.int .u8 0) 1 Tryz.underlying53 hi hz0 hz1 hz2 rfl v B.length _ hs hA.own (some ⟨w.heap.size,0,none⟩) C.length C.length (u8s C) hx (z0f C) ?_ ?_ (fun e=>by cases e) ?_ ?_ (Nat.le_trans hA.base hA.size) ?_
 ·intro j u hj;have hlt:j<C.length:=(by rw[<-z0f C];exact(List.getElem?_eq_some_iff.1 hj).1);rw[z4Z C j hlt]at hj;cases hj;refine⟨_,rfl,?_⟩;rw[qg,Nat.zero_add];exact hC j hlt
 ·intro u hu;obtain⟨n,-,rfl⟩:=List.mem_map.1 hu;rfl
 ·unfold maxLen;omega
 ·omega
 ·intro v' w' hown hg hv;refine h v' w' (hA.grown (B':=B++C) ?_ hg hv);rw[z19,List.length_append];exact hown
theorem z8z(w:World)(x y:Nat)(t:TypeId):∀j,j<[x,y].length->(w.alloc (.cells #[.int .u8 (x:Int),.int .u8 (y:Int)] t)).cell? ⟨w.heap.size,j,none⟩=some (.int .u8 ([x,y].getD j 0:Nat)):=by
 intro j hj;rw[za (zm w _) j]
 match j,hj with
 |0,_=>rfl
 |1,_=>rfl
theorem z9N(w:World)(x y z:Nat)(t:TypeId):∀j,j<[x,y,z].length->(w.alloc (.cells #[.int .u8 (x:Int),.int .u8 (y:Int),.int .u8 (z:Int)] t)).cell? ⟨w.heap.size,j,none⟩=some (.int .u8 ([x,y,z].getD j 0:Nat)):=by
 intro j hj;rw[za (zm w _) j]
 match j,hj with
 |0,_=>rfl
 |1,_=>rfl
 |2,_=>rfl
end Go.Proofs.YtkkecpamnnojoaaGreatDoor
namespace Go.Proofs.YtkkecpamnnojoaaGreatDoor
open Go.ChangeShapes Go.WideShapes Go.ChangeAt Go.RowKit
open Bt
def Dgs(w:World)(b:Nat)(D:List Nat):Prop:=∀t,t<D.length->w.cell? ⟨b,t,none⟩=some (.int .u8 (D.getD t 0:Nat))
theorem Dgs.drop{w:World}{b:Nat}{D:List Nat}(h:Dgs w b D)(k m:Nat)(hm:m=D.length-k):(D.drop k).length=m/\∀t,t<(D.drop k).length->w.cell? ⟨b,k+t,none⟩=some (.int .u8 ((D.drop k).getD t 0:Nat)):=by refine⟨by rw[List.length_drop,hm],fun t ht=>?_⟩;rw[List.length_drop]at ht;rw[h (k+t) (by omega)];simp[List.getD_eq_getElem?_getD,List.getElem?_drop]
theorem zcf(neg:Bool)(D:List Nat)(dp:Int)(b base:Nat)(v:Value)(w:World)(hI:Bu w base b v [] w)(hD:Dgs w b D)(h1:1<=D.length)(h2:D.length<=20)(hd0:-400<=dp)(hd1:dp<=400)(hE:dp-1< -4\/6<=dp-1):
  Calls Tryz.prog 127 #[v,.bool neg,.slice (some ⟨b,0,none⟩) 32 32,.int .i64 dp,.int .i64 (D.length:Int),.int .i64 (D.length:Int),.int .u8 103,.bool true] w fun e w'=>∃v',e=.returned v'/\Bu w base b v' (Us.qG neg D dp) w':=by
 have HI:=Qh (Qa hI hD);clear hI hD;obtain⟨nd,hnd⟩:∃nd,nd=D.length:=⟨_,rfl⟩;rw[<-hnd]at h1 h2⊢
 have hz:((nd:Int)==0)=false:=Qb (by omega);have HN:=Qh hnd;obtain⟨sg,hsg⟩:∃sg:List Nat,sg=(if neg then[45]else[]):=⟨_,rfl⟩;have hsl:sg.length<=1:=(by rw[hsg];split<;>simp);have HSG:=Qh hsg;obtain⟨c0,hcc⟩:∃c0:Nat,c0=D.getD 0 0:=⟨_,rfl⟩;obtain⟨dt,hdt⟩:∃dt:List Nat,dt=D.drop 1:=⟨_,rfl⟩;obtain⟨tl,htl⟩:∃tl:List Nat,tl=(if 1<nd then 46::dt else[]):=⟨_,rfl⟩;have htn:tl.length<=21:=by
  rw[htl];split
  ·rw[hdt];simp;omega
  ·simp
 have hDR:=HI.2.drop 1 (nd-1) (by omega);rw[<-hdt]at hDR;have HDR:=Qh hDR;have hend:(if neg then[45]else[])++(D.take 1++(if 1<D.length then 46::D.drop 1 else[])++101::Us.z3w (dp-1))=Us.qG neg D dp:=(by unfold Us.qG Us.za0;rw[if_neg (show¬D=[]from fun h=>by rw[h]at hnd;simp at hnd;omega),if_pos hE]);have ht1:D.take 1=[c0]:=by
  cases D with
  |nil=>simp at hnd;omega
  |cons y r=>rw[hcc];rfl
 rw[<-hsg,ht1,<-hnd,<-hdt,<-htl]at hend;have HEND:=Qh hend;have HTL:=Qh htl;have HC:=Qh hcc;clear hnd hsg hcc hdt htl hDR hend ht1;go_in;go_upto_if 36 with(fail);go_cut[5,6]from 31 to 73 (fun s5 s6 wx=>s5=.int .i64 ((nd:Int)-1)/\s6=.int .u8 101/\wx=w)
 case first=>
  rcases hE with hE|hE
  ·have hA:decide (dp-1< -4)=true:=decide_eq_true hE;have hB:decide ((nd:Int)<dp)=false:=(by rw[decide_eq_false_iff_not];omega);go_wp2_with fail;all_goals(go_meet;exact⟨rfl,rfl,rfl⟩)
  ·have hA:decide (dp-1< -4)=false:=(by rw[decide_eq_false_iff_not];omega);have hB:decide (6<=dp-1)=true:=decide_eq_true hE;go_wp2_with fail;all_goals(go_meet;exact⟨rfl,rfl,rfl⟩)
 case rest=>
  obtain⟨rfl,rfl,hw⟩:=hcut;obtain rfl:w=wc:=hw.symm;go_upto_if 78 with(fail);go_cut[0]from 79 to 81 (fun s0 wx=>Hid (Bu w base b s0 sg wx))
  case first=>
   cases neg
   ·have hsg:sg=[]:=HSG.out;subst hsg;go_wp2_with fail;go_meet;exact HI.1
   ·have hsg:sg=[45]:=HSG.out
    (subst hsg;go_wp2_with(at_builtin;go_must(refine yj HI.1 (by simp) (45) (45) ?_ ?_ rfl (.tmp 79) (.tmp 80) rfl rfl rfl ?_));try any_goals(first|with_reducible rfl|(show(_:Int)=_;rfl)|exact cell_one_new _ _ _ 0 _ rfl));intro v1 w1 h'
    have H1:=Qh h';clear h';go_wp2_with fail;go_meet;exact H1.out
  case rest=>
   (have HS:=Qh hcut.out;clear hcut;have hc0:wc.cell? ⟨b,0,none⟩=some (.int .u8 (c0:Nat)):=(by rw[HC.out];exact(HS.cell 0).trans (HI.2 0 (by rw[<-HN.out];omega)));go_wp2_with(at_builtin;go_must(refine yj HS.out (by omega) (((c0:Nat):Int)) (c0) ?_ ?_ rfl (.tmp 87) (.tmp 89) rfl rfl rfl ?_));try any_goals(first|with_reducible rfl|(show(_:Int)=_;rfl)|exact cell_one_new _ _ _ 0 _ rfl));intro v2 w2 h'
   generalize hB2:sg++[c0]=B2 at h';have hl2:B2.length<=100:=(by rw[<-hB2];simp;omega);have H2:=Qh h';have HB2:=Qh hB2;clear h' hB2;clear hc0;go_upto_if 92 with(fail);go_cut[0,20,21]from 91 to 119 (fun s0 _ _ wx=>Hid (Bu w base b s0 (B2++tl) wx))
   case first=>
    by_cases hn1:1<nd
    ·have hb:decide ((1:Int)<(nd:Int))=true:=by rw[decide_eq_true_eq];omega
     (go_wp2_with(at_builtin;go_must(refine yj H2.out (by omega) (46) (46) ?_ ?_ rfl (.tmp 93) (.tmp 94) rfl rfl rfl ?_));try any_goals(first|with_reducible rfl|(show(_:Int)=_;rfl)|exact cell_one_new _ _ _ 0 _ rfl));intro v3 w3 h'
     generalize hB3:B2++[46]=B3 at h';have hl3:B3.length<=101:=(by rw[<-hB3];simp;omega);have H3:=Qh h';have HB3:=Qh hB3;clear h' hB3;go_wp2_with(at_builtin;go_must(refine z9w H3.out (by omega) 1 (dt) HDR.2 (by rw[HDR.1];omega) (nd-1) 31 HDR.1 rfl (.tmp 103) (.tmp 107) rfl rfl rfl ?_));intro v4 w4 h';generalize hB4:B3++dt=B4 at h';have hl4:B4.length<=150:=(by rw[<-hB4,List.length_append,HDR.1];omega);have H4:=Qh h';have HB4:=Qh hB4;clear h' hB4;go_wp2_with fail;have hfin:RowKit.Hid (B2++tl=B4):=Qh (by rw[HTL.out,if_pos hn1,<-HB4.out,<-HB3.out];simp);go_loop [0,114] (fun s i=>s=v4/\i=.int .i64 0) (fun _ _=>0)
     case atStart=>exact⟨rfl,rfl⟩
     case round=>
      obtain⟨rfl,rfl⟩:=hrel;go_wp2_with fail;go_meet;rw[hfin.out];exact Qh H4.out
    ·have hb:decide ((1:Int)<(nd:Int))=false:=(by rw[decide_eq_false_iff_not];omega);have hnil:tl=[]:=(by rw[HTL.out,if_neg hn1]);subst hnil;go_wp2_with fail;go_meet;rw[List.append_nil];exact H2.out
   case rest=>
    (have h5:=hcut.out;clear hcut;generalize hB5:B2++tl=B5 at h5;have hl5:B5.length<=150:=(by rw[<-hB5];simp;omega);have H5:=Qh h5;have HB5:=Qh hB5;clear h5 hB5;go_wp2_with(at_builtin;go_must(refine yj H5.out (by omega) (101) (101) ?_ ?_ rfl (.tmp 120) (.tmp 122) rfl rfl rfl ?_));try any_goals(first|with_reducible rfl|(show(_:Int)=_;rfl)|exact cell_one_new _ _ _ 0 _ rfl));intro v6 w6 h'
    generalize hB6:B5++[101]=B6 at h';have hl6:B6.length<=151:=(by rw[<-hB6];simp;omega);have H6:=Qh h';have HB6:=Qh hB6;clear h' hB6;obtain⟨x,hx⟩:∃x:Nat,x=(dp-1).natAbs:=⟨_,rfl⟩;have hx4:x<=401:=(by omega);obtain⟨sb,hsb⟩:∃sb:Nat,sb=(if dp-1<0 then 45 else 43):=⟨_,rfl⟩;obtain⟨xs,hxs⟩:∃xs:List Nat,xs=(if x<10 then[48,x+48]else if x<100 then[x/10+48,x%10+48]else[x/100+48,x/10%10+48,x%10+48]):=⟨_,rfl⟩;have hfin:RowKit.Hid (∀B8,B6++[sb]=B8->B8++xs=Us.qG neg D dp):=Qh (fun B8 h8=>by
     rw[<-HEND.out,<-h8,<-HB6.out,<-HB5.out,<-HB2.out];unfold Us.z3w;rw[<-hx,<-hsb,<-hxs];simp)
    have HX:=Qh (Qa hx (Qa hsb hxs));clear hx hsb hxs;go_upto_if 129 with(fail);go_cut[19,22]from 128 to 131 (fun s19 s22 wx=>s19=.int .u8 (sb:Int)/\s22=.int .i64 (x:Int)/\wx=w6)
    case first=>
     by_cases hneg:dp-1<0
     ·have hb:decide (dp-1<0)=true:=decide_eq_true hneg;have e1:sb=45:=(by rw[HX.2.1,if_pos hneg]);have e2:RowKit.Hid (-(dp-1)=(x:Int)):=Qh (by have:=HX.1;omega);subst e1;go_wp2_with fail;go_meet;exact⟨rfl,by rw[<-e2.out],rfl⟩
     ·have hb:decide (dp-1<0)=false:=(by rw[decide_eq_false_iff_not];exact hneg);have e1:sb=43:=(by rw[HX.2.1,if_neg hneg]);have e2:RowKit.Hid (dp-1=(x:Int)):=Qh (by have:=HX.1;omega);subst e1;go_wp2_with fail;go_meet;exact⟨rfl,by rw[<-e2.out],rfl⟩
    case rest=>
     (obtain⟨rfl,rfl,hw⟩:=hcut;obtain rfl:w6=wc:=hw.symm;go_wp2_with(at_builtin;go_must(refine yj H6.out (by omega) (((sb:Nat):Int)) (sb) ?_ ?_ rfl (.tmp 132) (.tmp 134) rfl rfl rfl ?_));try any_goals(first|with_reducible rfl|(show(_:Int)=_;rfl)|exact cell_one_new _ _ _ 0 _ rfl));intro v7 w7 h'
     generalize hB7:B6++[sb]=B7 at h';have hl7:B7.length<=152:=(by rw[<-hB7];simp;omega);have H7:=Qh h';have HB7:=Qh hB7;clear h' hB7;have HF7:=Qh (hfin.out B7 HB7.out);by_cases c1:x<10
     ·have hb:decide ((x:Int)<10)=true:=by rw[decide_eq_true_eq];omega
      have e3:xs=[48,x+48]:=(by rw[HX.2.2,if_pos c1]);subst e3;go_wp2_with(at_builtin;go_must(refine z5b H7.out (by omega) [48,x+48] ?_ (by simp) rfl (.tmp 155) (.tmp 159) rfl rfl rfl ?_))
      ·exact z8z w7 48 (x+48) _
      intro v8 w8 h';generalize hB8:B7++[48,x+48]=B8 at h';have hl8:B8.length<=160:=(by rw[<-hB8];simp;omega);have H8:=Qh h';have HB8:=Qh hB8;clear h' hB8;go_wp2_with fail;go_ret;have h9:=HF7.out;rw[HB8.out]at h9;exact⟨_,rfl,by rw[<-h9];exact H8.out⟩
     ·have hb:decide ((x:Int)<10)=false:=by rw[decide_eq_false_iff_not];omega
      by_cases c2:x<100
      ·have hb2:decide ((x:Int)<100)=true:=by rw[decide_eq_true_eq];omega
       have e3:xs=[x/10+48,x%10+48]:=(by rw[HX.2.2,if_neg c1,if_pos c2]);subst e3;go_wp2_with(at_builtin;go_must(refine z5b H7.out (by omega) [x/10+48,x%10+48] ?_ (by simp) rfl (.tmp 164) (.tmp 173) rfl rfl rfl ?_))
       ·exact z8z w7 (x/10+48) (x%10+48) _
       intro v8 w8 h';generalize hB8:B7++[x/10+48,x%10+48]=B8 at h';have hl8:B8.length<=160:=(by rw[<-hB8];simp;omega);have H8:=Qh h';have HB8:=Qh hB8;clear h' hB8;go_wp2_with fail;go_ret;have h9:=HF7.out;rw[HB8.out]at h9;exact⟨_,rfl,by rw[<-h9];exact H8.out⟩
      ·have hb2:decide ((x:Int)<100)=false:=by rw[decide_eq_false_iff_not];omega
       have e3:xs=[x/100+48,x/10%10+48,x%10+48]:=(by rw[HX.2.2,if_neg c1,if_neg c2]);subst e3;go_wp2_with(at_builtin;go_must(refine z5b H7.out (by omega) [x/100+48,x/10%10+48,x%10+48] ?_ (by simp) rfl (.tmp 136) (.tmp 150) rfl rfl rfl ?_))
       ·exact z9N w7 (x/100+48) (x/10%10+48) (x%10+48) _
       intro v8 w8 h';generalize hB8:B7++[x/100+48,x/10%10+48,x%10+48]=B8 at h';have hl8:B8.length<=160:=(by rw[<-hB8];simp;omega);have H8:=Qh h';have HB8:=Qh hB8;clear h' hB8;go_wp2_with fail;go_ret;have h9:=HF7.out;rw[HB8.out]at h9;exact⟨_,rfl,by rw[<-h9];exact H8.out⟩
end Go.Proofs.YtkkecpamnnojoaaGreatDoor
