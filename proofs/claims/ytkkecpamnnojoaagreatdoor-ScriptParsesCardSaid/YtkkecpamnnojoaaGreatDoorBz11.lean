/- A part of the proof of ScriptParses: nothing is assumed. By an AI agent. -/
import Derived.Test.YtkkecpamnnojoaaGreatDoorBz10
import Derived.Test.YtkkecpamnnojoaaGreatDoorBz08
import Derived.Test.YtkkecpamnnojoaaGreatDoorBz09
set_option linter.unusedVariables false
set_option linter.unusedSimpArgs false
set_option maxRecDepth 100000
set_option maxHeartbeats 32000000
namespace Go.Proofs.YtkkecpamnnojoaaGreatDoor
open Go.ChangeShapes Go.WideShapes Go.ChangeAt Go.RowKit
open Bt
theorem zb4{V R:Nat}(h:R<=2047*2^52)(hm:Flt.mag R<=V):R<=Sm.zN V:=by have h1:Flt.z2r 1074 false V (Ieee.double.nearest false V (-1074)):=(by have:=Flt.z0k false V (-1074) 1074 (Nat.le_refl _) (by decide);have e:((-1074:Int)+((1074:Nat):Int)).toNat=0:=(by decide);rw[e,Nat.pow_zero,Nat.mul_one]at this;exact this);have h2:=h1.ge h (by rw[Nat.sub_self,Nat.pow_zero,Nat.mul_one];exact hm);rw[Rn.xT,Flt.qi false (by have:=Sm.z0Q V;omega)]at h2;exact h2
theorem zeY:Flt.fv 4831355200913801216=1000000000000000*(Flt.U:Int)/\Flt.fv 14054727237768577024= -(1000000000000000*(Flt.U:Int))/\Flt.nan 4831355200913801216=false/\Flt.nan 14054727237768577024=false:=by decide+kernel
theorem z7J{d j:Nat}{s:Bool}(h:far (Ieee.double.word s (Sm.zN (d*10^j*Flt.U)))=false):d*10^j<=1000000000000000:=by
 refine Nat.le_of_not_lt fun hlt=>?_;obtain⟨R,hR1,hR2⟩:=Flt.zee (k:=1000000000000001) (by decide);have hge:Flt.mag R<=d*10^j*Flt.U:=(by rw[hR2];exact Nat.mul_le_mul_right _ hlt);have h1:=zb4 (Nat.le_of_lt hR1) hge;have h2:=Flt.z2e h1;rw[hR2]at h2;have hU:=Flt.z6X;obtain⟨e1,e2,e3,e4⟩:=zeY;have hn:=Rn.z4W s (d*10^j*Flt.U);have hfv:=Flt.zcK s (r:=Sm.zN (d*10^j*Flt.U)) (by have:=Sm.z0Q (d*10^j*Flt.U);omega);unfold far at h;rw[Flt.zfJ hn e3,Flt.zfI hn e4,Bool.or_eq_false_iff,decide_eq_false_iff_not,decide_eq_false_iff_not,hfv,e1,e2]at h;have e5:1000000000000001*Flt.U=1000000000000000*Flt.U+Flt.U:=(by rw[Nat.add_mul 1000000000000000 1,Nat.one_mul]);rw[e5]at h2;generalize Flt.mag (Sm.zN (d*10^j*Flt.U))=m at*
 generalize Flt.U=UU at*
 unfold Flt.sv at h;cases s
 ·simp only[Bool.false_eq_true,if_false]at h;omega
 ·simp only[if_true]at h;omega
theorem z2O(s:Bool)(V:Nat):Ieee.double.word s (Sm.zN V)<18446744073709551616:=by have h:=Sm.z0Q V;have:=Flt.z4X s (r:=Sm.zN V) (by omega);have e:(2:Nat)^64=18446744073709551616:=(by decide);omega
theorem z8V(d:Ieee.Datum):Ieee.double.write d<18446744073709551616:=by
 have key:∀(s:Bool) (r:Nat),r<2^63->Ieee.double.word s r<18446744073709551616:=fun s r h=>(by have:=Flt.z4X s h;have e:(2:Nat)^64=18446744073709551616:=(by decide);omega);have k1:Ieee.double.infRung<2^63:=(by decide);have k2:Ieee.double.infRung+Ieee.double.binade<=2^63:=(by decide);have k3:0<Ieee.double.binade:=(by decide);cases d with
 |number neg mag zY=>
  unfold Ieee.Format.write Ieee.Format.nearest;by_cases h:mag=0
  ·simp only[if_pos h];exact key _ 0 (by decide)
  ·simp only[if_neg h];exact key _ _ (Nat.lt_of_le_of_lt (Nat.min_le_right ..) k1)
 |infinity neg=>exact key neg _ k1
 |nan neg fr=>
  have h:=Nat.mod_lt fr k3;have h2:Ieee.double.infRung+fr%Ieee.double.binade<2^63:=(by omega);exact key neg _ h2
theorem zd1{a b r:Nat}(h:Ieee.double.div a b=some r):r<18446744073709551616:=by unfold Ieee.Format.div at h;obtain⟨x,-,hx⟩:=Option.map_eq_some_iff.1 h;rw[<-hx];exact z8V x
theorem za8(d:Nat)(p:Int)(s:Bool)(w:World)(h0:1<=d)(h1:d<18446744073709551616)(hP:P10 w):
  Calls Tryz.prog 191 #[.int .u64 (d:Int),.int .i64 p,.bool s] w fun e w'=>∃r b,e=.returned (.tuple #[.float .f64 r,.bool b])/\(b=true->Exa d p s r/\r<18446744073709551616)/\∃n,w'=w.drewN n:=by
 by_cases hb:4503599627370496<=d
 ·refine(ze3 d p s w hb h1 hP).mono ?_;rintro e w' ⟨rfl,rfl⟩;exact⟨0,false,rfl,fun h=>(by cases h),0,rfl⟩
 ·have hd:d<4503599627370496:=by omega
  have hd53:d<=2^53:=(by omega);by_cases hp0:p=0
  ·subst hp0;refine(zci d s w hd hP).mono ?_;rintro e w' ⟨rfl,rfl⟩;refine⟨_,true,rfl,fun _=>⟨fun u hu hk hm hs W=>?_,by rw[(Us.z0m s hd53).2.2.2];exact z2O _ _⟩,0,rfl⟩;rw[<-hs];exact Us.z7X hu hk hm W hd53
  ·by_cases hout:p< -22\/37<p
   ·refine(zdH d p s w hd hout hP).mono ?_;rintro e w' ⟨rfl,rfl⟩;exact⟨_,false,rfl,fun h=>(by cases h),0,rfl⟩
   ·by_cases hneg:p<0
    ·obtain⟨k,rfl⟩:∃k:Nat,p= -(k:Int):=⟨(-p).toNat,by omega⟩;obtain⟨r,hr⟩:∃r,Ieee.double.div (Us.fw s d) (Us.w10 k)=some r:=(by obtain⟨a1,a2,-,-⟩:=Us.z0m s hd53;obtain⟨b1,b2,-,-⟩:=Us.z1q (k:=k) (by omega);have hT:1<=10^k:=Nat.pow_pos (by decide);obtain⟨m,i,r1,-⟩:=Us.qY a2 a1 h0;obtain⟨n,j,r2,-,v2,-⟩:=Us.qY b2 b1 hT;have hU:=Flt.z6X;have hnp:n≠0:=fun h=>(by rw[h,Nat.zero_mul]at v2;rcases Nat.mul_eq_zero.1 v2.symm with h2|h2<;>omega);unfold Ieee.Format.div;rw[r1,r2];unfold Ieee.Datum.quotient;simp only;rw[if_neg hnp];exact⟨_,rfl⟩);refine(zdJ d k s r w hd (by omega) (by omega) hP hr).mono ?_;rintro e w' ⟨rfl,n,rfl⟩;refine⟨r,true,rfl,fun _=>⟨fun u hu hk hm hs W=>?_,zd1 hr⟩,n,rfl⟩;have:=Us.za7 hu hk hm W hd53 h0 (by omega);rw[hs,hr]at this;exact Option.some.inj this
    ·obtain⟨k,rfl⟩:∃k:Nat,p=(k:Int):=⟨p.toNat,by omega⟩
     by_cases hk22:k<=22
     ·have hr:=Us.z2h s hd53 h0 hk22;refine(zdI d k s _ w hd (by omega) hk22 hP hr).mono ?_;rintro e w' ⟨rfl,n,rfl⟩;refine⟨_,_,rfl,fun hb=>?_,n,rfl⟩;have hfar:far (Us.fw s d)=false:=(by simpa using hb);rw[if_neg (by rw[hfar];simp)];refine⟨fun u hu hk hm hs W=>?_,z2O _ _⟩;have:=Us.z4M hu hk hm W hd53 h0 hk22;rw[hs,hr]at this;exact Option.some.inj this
     ·obtain⟨j,rfl⟩:∃j,k=22+j:=⟨k-22,by omega⟩;have hf:=Us.z2h s hd53 h0 (show j<=22 by omega);have hfw:far (Ieee.double.word s (Sm.zN (d*10^j*Flt.U)))=false->d*10^j<=2^53/\Ieee.double.word s (Sm.zN (d*10^j*Flt.U))=Us.fw s (d*10^j):=fun h=>(by have h3:=z7J h;have h4:d*10^j<=2^53:=(by omega);exact⟨h4,(Us.z0m s h4).2.2.2.symm⟩);have hpos:1<=d*10^j:=Nat.mul_pos h0 (Nat.pow_pos (by decide));have hr2:far (Ieee.double.word s (Sm.zN (d*10^j*Flt.U)))=false->Ieee.double.mul (Ieee.double.word s (Sm.zN (d*10^j*Flt.U))) (Us.w10 22)=some (Ieee.double.word s (Sm.zN (d*10^j*10^22*Flt.U))):=fun h=>(by rw[(hfw h).2];exact Us.z2h s (hfw h).1 hpos (Nat.le_refl 22));refine(zcj d j s _ _ w hd (by omega) (by omega) hP hf hr2).mono ?_;rintro e w' ⟨rfl,n,rfl⟩;refine⟨_,_,rfl,fun hb=>?_,n,rfl⟩;have hfar:far (Ieee.double.word s (Sm.zN (d*10^j*Flt.U)))=false:=(by simpa using hb);rw[if_neg (by rw[hfar];simp)];refine⟨fun u hu hk hm hs W=>?_,z2O _ _⟩;have W2:Us.zV (Sm.zt u) (Us.E0 u) (Us.lw u) (10^j*d) ((22:Nat):Int):=(Us.z0M j 22).2 (by rw[show(22:Int)+(j:Int)=((22+j:Nat):Int) by omega];exact W);rw[Nat.mul_comm (10^j) d]at W2;have:=Us.z4M hu hk hm W2 (hfw hfar).1 hpos (Nat.le_refl 22);have h5:=hr2 hfar;rw[hs,<-(hfw hfar).2,h5]at this;exact Option.some.inj this
end Go.Proofs.YtkkecpamnnojoaaGreatDoor
namespace Go.Proofs.YtkkecpamnnojoaaGreatDoor
open Go.ChangeShapes Go.WideShapes Go.ChangeAt Go.RowKit
open Bt
theorem z78{H:Type}{enc:TypeId×Value->H}{P:Program}{w:World}{base:Nat}{spare:Nat->Bool}{held:Bool}{fuel:Nat}{t:TypeId}{cs:List Value}{x:DataW H×List MemPlace}{k:FloatKind}(ht:P.underlying t=some (.float k))(h:DataW.trod enc P w base spare held fuel t cs=some x):∃n,cs=[.float k n]/\x=(.lit (.float k n),[]):=by
 cases fuel with
 |zero=>simp[DataW.trod]at h
 |succ n=>
  unfold DataW.trod at h;rw[ht]at h;split at h<;>simp_all
theorem zdx{W:World}(h:qR W "internal/strconv.float64info" (.agg [.lit (.int .u64 52),.lit (.int .u64 11),.lit (.int .i64 (-1023))])):W.cell? ⟨9,0,none⟩=some (.int .u64 52):=by
 obtain⟨g,t,cs,fuel,p,h1,h2,h3,h4⟩:=h;have hg:Tryz.prog.globalNamed "internal/strconv.float64info" =some 9:=(by kernel_rfl);obtain rfl:=Option.some.inj (hg.symm.trans h1);obtain rfl:=Option.some.inj ((show(Tryz.prog.globals[9]?).map (·.type)=some 242 by kernel_rfl).symm.trans h2)
 obtain⟨ys,n,-,hz,hzl,hzs,hf⟩:=DataW.trod_struct Tryz.underlying242 h4;have hzy:ys.map (·.1)=[.lit (.int .u64 52),.lit (.int .u64 11),.lit (.int .i64 (-1023))]:=by have h5:=congrArg Prod.fst hz;simp only[DataW.agg.injEq]at h5;exact h5.symm
 have hCu:Tryz.prog.cellsOf 152=1:=(by kernel_rfl);have hf0:DataW.trod (fun _=>()) Tryz.prog W 0 (fun _=>true) false n 152 ((cs.toList.drop 0).take (Tryz.prog.cellsOf 152))=ys[0]?:=hf 0 _ rfl;have h6:∃q,ys[0]?=some (.lit (.int .u64 52),q):=(by have h5:=congrArg (fun l=>l[0]?) hzy;simp only[List.getElem?_map]at h5;obtain⟨⟨d,q⟩,h6,h7⟩:=Option.map_eq_some_iff.1 h5;exact⟨q,by rw[h6];simp only at h7;rw[h7]⟩);obtain⟨q,h6⟩:=h6;rw[h6,hCu]at hf0;obtain⟨z',hz1,hz2,-⟩:=DataW.trod_int Tryz.underlying152 hf0;have hz3:(52:Int)=z':=(by have:=congrArg Prod.fst hz2;simpa using this);subst hz3;have h8:=congrArg (fun l=>l[0]?) hz1;simp only[List.drop_zero]at h8;rw[List.getElem?_take_of_lt (by omega)]at h8;rw[World.var?_cell hg h3 0,<-Array.getElem?_toList];exact h8
theorem zeB{W:World}(h:qR W "internal/strconv.float64pow10" Rows.laid_internal_strconv_float64pow10):∃ad cap,W.cell? ⟨14,0,none⟩=some (.slice (some ad) 23 cap)/\∀i,i<23->W.cell? (ad.add i)=some (.float .f64 (Us.w10 i)):=by
 obtain⟨g,t,cs,fuel,p,h1,h2,h3,h4⟩:=h;have hg:Tryz.prog.globalNamed "internal/strconv.float64pow10" =some 14:=(by kernel_rfl);obtain rfl:=Option.some.inj (hg.symm.trans h1);obtain rfl:=Option.some.inj ((show(Tryz.prog.globals[14]?).map (·.type)=some 257 by kernel_rfl).symm.trans h2)
 rcases Go.Deep.open_slice1 Tryz.underlying257 (by kernel_rfl) h4 with⟨k1,k2⟩|⟨a,len,cap,m,n,V,D,Pl,hcs,hb,hl1,hm,hmm,hx,hi⟩
 ·have:=congrArg Prod.fst k2;cases this
 ·have hd:Rows.laid_internal_strconv_float64pow10=DataW.slice ((List.range len).map D) ((List.range (m-len)).map fun j=>D (len+j)):=congrArg Prod.fst hx
  unfold Rows.laid_internal_strconv_float64pow10 at hd;simp only[DataW.slice.injEq]at hd;have hlen:len=23:=(by have:=congrArg List.length hd.1;simpa using this.symm);subst hlen;have hc0:=World.var?_cell hg h3 0;rw[<-Array.getElem?_toList,hcs]at hc0;refine⟨a,cap,hc0,fun i hi23=>?_⟩;have hm23:i<m:=(by rw[hmm];simp;omega);obtain⟨q1,q2⟩:=hi i hm23;obtain⟨z,q3,q4⟩:=z78 Tryz.underlying30 q2;rw[q1];have q5:V i=.float .f64 z:=(by simpa using q3);have q6:D i=.lit (.float .f64 z):=congrArg Prod.fst q4;have q7:=congrArg (fun l=>l[i]?) hd.1;simp only[List.getElem?_map,List.getElem?_range hi23,Option.map_some,q6]at q7;rw[q5];have hz:z=Us.w10 i:=by
   unfold Us.w10
   match i,hi23 with
   |0,_|1,_|2,_|3,_|4,_|5,_|6,_|7,_|8,_|9,_|10,_|11,_|12,_|13,_|14,_|15,_|16,_|17,_|18,_|19,_|20,_|21,_|22,_=>simpa using q7.symm
  rw[hz]
theorem zeG{W:World}(h:laidMetH Tryz.prog Rows.scriptPrintsRow.laid W):P10 W:=by rw[MakeChecks.laidMetH_plain _ _ _ (by kernel_rfl)]at h;obtain⟨ps,hv,-⟩:=h;exact⟨zdx (yL hv 3 _ _ rfl),zeB (yL hv 6 _ _ rfl)⟩
theorem zbn{w w':World}{b:Nat}(h:P10 w)(hb:Below b w w')(hg1:9<b)(hg2:14<b)(hr:∀ad cap,w.cell? ⟨14,0,none⟩=some (.slice (some ad) 23 cap)->ad.block<b):P10 w':=by obtain⟨ad,cap,c1,c2⟩:=h.row;refine⟨(hb.cell (p:=⟨9,0,none⟩) hg1).trans h.bits,ad,cap,(hb.cell (p:=⟨14,0,none⟩) hg2).trans c1,fun i hi=>(hb.cell ?_).trans (c2 i hi)⟩;have hbk:(ad.add i).block=ad.block:=(by unfold Addr.add;split<;>rfl);rw[hbk];exact hr ad cap c1
end Go.Proofs.YtkkecpamnnojoaaGreatDoor
namespace Go.Proofs.YtkkecpamnnojoaaGreatDoor
open Go.ChangeShapes Go.WideShapes Go.ChangeAt Go.RowKit
open Bt Dc
theorem zfo{n:Nat}{neg h:Bool}{R:Us.Rs×List Nat}{o:Us.Ro}(H:Us.rdT n neg h R=some o):o.m=R.1.m/\o.hex=h:=by
 unfold Us.rdT at H;by_cases hs:R.1.saw=false
 ·rw[if_pos hs]at H;cases H
 ·rw[if_neg hs]at H
  cases he:Us.z1X h R.2 with
  |none=>rw[he]at H;cases H
  |some x=>
   obtain⟨e,us,rest⟩:=x;rw[he]at H;injection H with H;rw[<-H];exact⟨rfl,rfl⟩
theorem z9t{s:List Nat}{o:Us.Ro}(h:Us.rdF s=some o):o.m<18446744073709551616/\(o.hex=false->o.m<10000000000000000000):=by
 by_cases hs:s=[]
 ·subst hs;cases h
 ·have h2:Us.rdT s.length (Us.qW s).1 (Us.hxL (Us.qW s).2) (Us.zW (Us.hxL (Us.qW s).2) Us.rs0 (if Us.hxL (Us.qW s).2 then(Us.qW s).2.drop 2 else(Us.qW s).2))=some o:=by
   unfold Us.rdF at h;rw[if_neg hs]at h;exact h
  obtain⟨e1,e2⟩:=zfo h2;have hb:=(Us.z5W (h:=Us.hxL (Us.qW s).2) (if Us.hxL (Us.qW s).2 then(Us.qW s).2.drop 2 else(Us.qW s).2) (Us.z7o _)).1;have h64:=Us.z8E hb;have hm:=hb.m;have hn:=hb.nm;rw[<-e1]at h64 hm;refine⟨h64,fun hx=>?_⟩;have e3:Us.hxL (Us.qW s).2=false:=(by rw[<-e2,hx]);have e4:Us.bse (Us.hxL (Us.qW s).2)=10:=(by rw[e3];rfl);have e5:Us.mxd (Us.hxL (Us.qW s).2)=19:=(by rw[e3];rfl);rw[e5]at hn;rw[e4]at hm;have h19:=Nat.pow_le_pow_right (n:=10) (by decide) hn;have e19:(10:Nat)^19=10000000000000000000:=(by decide);rw[e19]at h19;exact Nat.lt_of_lt_of_le hm h19
def sgw(neg:Bool):Nat:=if neg then 9223372036854775808 else 0
structure Rds (s:ByteArray) (u:Nat):Prop where
 num:xY s
 rd:∃(m:Nat) (p:Int) (neg:Bool),Us.rdF (Bs s)=some ⟨m,p,neg,false,false,s.size,false⟩/\((m=0/\u=sgw neg)\/
  (1<=m/\m<144115188075855872/\ -343<=p/\p<=309/\Us.zV (Sm.zt u) (Us.E0 u) (Us.lw u) m p/\Sm.zt u≠0/\Us.exb u<2047/\u<18446744073709551616/\Sm.yv u=neg))
def z3Y(k:Nat):Value:=if k=0 then .nilIface else .iface 184 (.int .i64 (k:Int))
theorem z5a(b:Bool):z2B b=z3Y b.toNat:=by cases b<;>rfl
structure EnvAt (B:Nat) (w:World):Prop where
 opt:Opt w
 p10:P10 w
 pows:z0t w
 chs:Chs B w
 pws:Pws B w
 blk:∃(ca:Array Value) (ta:TypeId) (cb:Array Value) (tb:TypeId),w.heap[9]?=some (.cells ca ta (0,0))/\w.heap[8]?=some (.cells cb tb (0,0))
def Env(B:Nat)(w:World):Prop:=(∀w',Below B w w'->EnvAt B w')/\B<=w.heap.size/\6<B
theorem Env.on{B:Nat}{w w':World}(h:Env B w)(k:Below B w w'):Env B w':=⟨fun w2 k2=>h.1 w2 (k.trans k2),Nat.le_trans h.2.1 k.size,h.2.2⟩
theorem Env.at_{B:Nat}{w:World}(h:Env B w):EnvAt B w:=h.1 w (Below.refl _ _)
theorem zar:Tryz.zeroCells179=dA ⟨fun _=>0,0,0,false,false⟩:=by kernel_rfl
theorem zdV(w:World):DAt (w.alloc (.cells Tryz.zeroCells179 179 (0,0))) w.heap.size ⟨fun _=>0,0,0,false,false⟩:=by rw[zar];exact zm w _
def AtQ(s:ByteArray)(w:World)(e:Ending)(w':World):Prop:=(∃(f:Nat) (n:Int) (k:Nat),e=.returned (.tuple #[.float .f64 f,.int .i64 n,z3Y k])/\RowKit.Hid (f<18446744073709551616/\k<=2/\∀u,Rds s u->f=u/\n=s.size/\k=0))/\Below w.heap.size w w'
theorem AtQ.of{s:ByteArray}{w w':World}{e:Ending}(f:Nat)(n:Int)(k:Nat)(he:e=.returned (.tuple #[.float .f64 f,.int .i64 n,z3Y k]))(hf:f<18446744073709551616)(hk:k<=2)(h:∀u,Rds s u->f=u/\n=s.size/\k=0)(hb:Below w.heap.size w w'):AtQ s w e w':=⟨⟨f,n,k,he,hf,hk,h⟩,hb⟩
theorem z1m{w w':World}(h:∃n,w'=w.drewN n):Below w.heap.size w w':=by obtain⟨n,rfl⟩:=h;exact zv (Below.refl _ w) n
theorem z8j{u:Nat}(hu:u<18446744073709551616):sgw (Sm.yv u)=9223372036854775808*(u/9223372036854775808):=by
 unfold sgw Sm.yv;by_cases h:2^63<=u
 ·rw[decide_eq_true h,if_pos rfl];omega
 ·rw[decide_eq_false h,if_neg (by simp)];omega
theorem zcM{x s hi lo:Nat}(hx:x<18446744073709551616)(hhi:hi<18446744073709551616):Us.usc x s hi lo<=18446744073709551616:=by
 have u1:x*hi<=x*18446744073709551616:=Nat.mul_le_mul_left _ (Nat.le_of_lt hhi);unfold Us.usc;have h1':x*hi/18446744073709551616<18446744073709551616:=(by omega);generalize x*hi/18446744073709551616=h at*
 generalize x*hi%18446744073709551616=m at*
 clear u1;have key:∀a,a<18446744073709551616->∀b,Us.stk (a/2^s) b<=18446744073709551616:=by
  intro a ha b;have h1:=(Us.z0g (a/2^s) b).2;have h2:a/2^s<=a:=Nat.div_le_self _ _;generalize a/2^s=q at*
  omega
 by_cases hr:h%2^s≠0
 ·simp only[if_pos hr];exact key h h1' _
 ·simp only[if_neg hr]
  refine key _ ?_ _;split
  ·exact Nat.mod_lt _ (by decide)
  ·exact h1'
theorem zd8{m:Nat}{e:Int}(h:m<18446744073709551616):Us.pkR m e<18446744073709551616:=by
 unfold Us.pkR Us.clr;split
 ·exact h
 ·split
  ·exact Nat.or_lt_two_pow (n:=64) (by omega) (by omega)
  ·exact Nat.or_lt_two_pow (n:=64) (by omega) (by omega)
theorem z8w{d:Nat}{p:Int}{SG:Nat}(h:SG<18446744073709551616)(h0:1<=d)(h1:d<18446744073709551616)(hp:-345<=p/\p<=310):Us.pfR d p SG<18446744073709551616:=by
 obtain⟨b1,b2,b3⟩:=Us.qf (x:=d) (by omega) (by omega);have hb64:Lib.bitLen d<=64:=(by refine Nat.le_of_not_lt fun h=>?_;have:2^64<=2^(Lib.bitLen d-1):=Nat.pow_le_pow_right (by decide) (by omega);have e64:(2:Nat)^64=18446744073709551616:=(by decide);omega);have hx:d*2^(64-Us.bl d)<18446744073709551616:=(by have e:2^Lib.bitLen d*2^(64-Lib.bitLen d)=18446744073709551616:=(by rw[<-Nat.pow_add,show Lib.bitLen d+(64-Lib.bitLen d)=64 by omega]);rw[<-e];exact Nat.mul_lt_mul_of_pos_right b2 (Nat.two_pow_pos _));have hpm:=Us.z1J (p:=p) (by omega) (by omega);have hpu:Us.pu d p<=18446744073709551616:=zcM hx hpm.1;have hpu2:Us.pu2 d p<=18446744073709551616:=by
  unfold Us.pu2;split
  ·have:=(Us.z0g (Us.pu d p/2) (decide (Us.pu d p%2=1))).2;omega
  ·exact hpu
 have hr:Us.rnd (Us.pu2 d p)<18446744073709551616:=(by unfold Us.rnd;omega);unfold Us.pfR;split
 ·exact h
 ·exact zd8 (Nat.or_lt_two_pow (n:=64) h hr)
theorem zcG(s:ByteArray)(w:World)(hs:s.size<=1073741824)(hE:Env w.heap.size w):Calls Tryz.prog 173 #[.string s] w (AtQ s w):=by
 have HS:=Qh hs;have HE:=Qh hE;have HSp:=Qh (z5R s w hs);have HRd:=Qh (fun w=>zbc s w hs);clear hs hE;go_in;go_wp2_with fail;refine HSp.mono ?_;rintro e w1 ⟨⟨f0,n0,b0,rfl,hf0⟩,hw1⟩;have HF0:=Qh hf0.out;have HW1:=Qh (z1m hw1);clear hf0 hw1;cases b0
 ·go_wp2_with fail
  refine(HRd.out _).mono ?_;rintro e w2 ⟨⟨m,p,neg,tr,hex,i,ok,rfl,hq⟩,hw2⟩;have HQ:=Qh hq;have HW2:=Qh (HW1.trans ((z1m hw2).mono HW1.size));clear hq hw2;cases ok
  ·go_wp2_with fail
   go_ret3;refine AtQ.of 0 _ 2 rfl (by omega) (by omega) (fun u hu=>?_) HW2.out;obtain⟨m',p',neg',h1,-⟩:=hu.rd;rcases HQ.no rfl with h|⟨o,h,ho⟩
   ·rw[h]at h1;cases h1
   ·rw[h]at h1;injection h1 with h1;rw[h1]at ho;cases ho
  ·obtain⟨us,hrd⟩:=HQ.yes rfl
   have hbd:=z9t hrd;simp only at hbd;have HM:=Qh hbd;have hU:RowKit.Hid (∀u,Rds s u->tr=false/\hex=false/\i=s.size/\((m=0/\u=sgw neg)\/(1<=m/\m<144115188075855872/\ -343<=p/\p<=309/\Us.zV (Sm.zt u) (Us.E0 u) (Us.lw u) m p/\Sm.zt u≠0/\Us.exb u<2047/\u<18446744073709551616/\Sm.yv u=neg))):=Qh fun u hu=>(by obtain⟨m',p',neg',h1,h2⟩:=hu.rd;rw[hrd]at h1;injection h1 with h1;injection h1 with e1 e2 e3 e4 e5 e6 e7;subst e1 e2 e3 e4 e5 e6;exact⟨rfl,rfl,rfl,h2⟩);have HI:=Qh HQ.hi;have hi0:(i:Int)<=((s.size:Nat):Int):=(by have:=HQ.hi;omega);clear hrd hbd HRd HSp;have HEw:=Qh (HE.on HW2.out);cases hex
   ·have hopt:=HEw.at_.opt
    (unfold Opt at hopt;obtain⟨SG,hSG,hSG2⟩:∃SG:Nat,SG=sgw neg/\(SG=0\/SG=9223372036854775808):=⟨_,rfl,by cases neg<;>simp[sgw]⟩;have HSG:=Qh (Qa hSG hSG2);have hsgn:IntKind.u64.wrap (((neg.toNat:Nat):Int)*9223372036854775808)=(SG:Int):=(by rw[hSG];cases neg<;>rfl);have HSW:=Qh hsgn;clear hSG hSG2 hsgn;go_wp2_with fail;refine(z3I neg _).mono ?_;rintro e w3 ⟨rfl,hw⟩;subst hw;go_upto_region 12 with fail;try rw[HSW.out]);have ho0:bits BinOp.or IntKind.u64 (SG:Int) 0=(SG:Int):=by have:=z2c (a:=SG) (b:=0) (by have:=HSG.2;omega) (by omega);rw[Nat.or_zero]at this;exact this
    have hf:=qn;have HSGl:RowKit.Hid (SG<18446744073709551616):=Qh (by have:=HSG.2;omega);by_cases hm0:m=0
    ·subst hm0
     go_wp2_with fail;go_ret3;refine AtQ.of SG i 0 rfl HSGl.out (by omega) (fun u hu=>?_) HW2.out;obtain⟨-,-,hi,h⟩:=hU.out u hu;rcases h with⟨-,h⟩|⟨h,-⟩
     ·exact⟨by rw[h];exact HSG.1,by rw[hi],rfl⟩
     ·omega
    ·have hmz:¬(m:Int)=0:=by omega
     have hmz2:((m:Int)==0)=false:=(by rw[beq_eq_false_iff_ne];exact hmz);have HM1:RowKit.Hid (1<=m):=Qh (by omega);have hno:RowKit.Hid (∀u,Rds s u->tr=false/\i=s.size/\m<144115188075855872/\ -343<=p/\p<=309/\Us.zV (Sm.zt u) (Us.E0 u) (Us.lw u) m p/\Sm.zt u≠0/\Us.exb u<2047/\u<18446744073709551616/\Sm.yv u=neg):=Qh fun u hu=>by
      obtain⟨h1,-,h3,h⟩:=hU.out u hu;rcases h with⟨h,-⟩|⟨-,h⟩
      ·exact absurd h hm0
      ·exact⟨h1,h3,h⟩
     clear hm0;by_cases hp1:310<p
     ·go_wp2_with fail;go_ret3;have hr:=z1K (SG:Int) 9218868437227405312;exact AtQ.of _ i 1 rfl (by omega) (by omega) (fun u hu=>by have:=hno.out u hu;omega) HW2.out
     ·by_cases hp2:p< -345
      ·have hp1':¬310<p:=hp1;go_wp2_with fail;go_ret3;exact AtQ.of SG i 0 rfl HSGl.out (by omega) (fun u hu=>by have:=hno.out u hu;omega) HW2.out
      ·have hp1':¬310<p:=hp1
       have hp2':¬p< -345:=hp2;have hpw:=HEw.at_;have HPf:=Qh (fun d w4 (h0:1<=d) (h1:d<18446744073709551616) (hb:Below w.heap.size w3 w4)=>z7E d p SG w4 h0 h1 (by omega) (by omega) HSG.2 (HEw.on hb).at_.pows (Nat.lt_of_lt_of_le HEw.2.2 (HEw.on hb).2.1));have HEx:=Qh (za8 m p neg w3 HM1.out HM.1 hpw.p10);have HP12:RowKit.Hid (-345<=p/\p<=310):=Qh (by omega);clear hpw hp1 hp2 ho0;cases tr
       ·go_wp2_with fail
        refine HEx.mono ?_;rintro e w4 ⟨r,b,rfl,hex,n4,rfl⟩;have HXX:=Qh hex;clear hex;cases b
        ·go_wp2_with fail;refine(HPf.out m _ HM1.out HM.1 (zv (Below.refl _ _) n4)).mono ?_;rintro e w5 ⟨rfl,hb5⟩;have HB5:=Qh (HW2.trans (((zv (Below.refl w3.heap.size w3) n4).trans hb5).mono HW2.size));clear hb5;rw[z5a];go_wp2_with fail;go_ret3;refine AtQ.of (Us.pfR m p SG) i (Us.pfE m p SG).toNat rfl (z8w HSGl.out HM1.out HM.1 HP12.out) (by cases Us.pfE m p SG<;>decide) (fun u hu=>?_) HB5.out;obtain⟨-,h3,h4,h5,h6,h7,h8,h9,h10,h11⟩:=hno.out u hu;have hsg:SG=9223372036854775808*(u/9223372036854775808):=(by rw[HSG.1,<-h11];exact z8j h10);obtain⟨e1,e2⟩:=Us.zda h10 h9 h8 hsg h7 h5 h6 HM1.out h4;exact⟨e1,by rw[h3],by rw[e2];rfl⟩
        ·go_wp2_with fail;go_ret3;refine AtQ.of r i 0 rfl (HXX.out (by simp)).2 (by omega) (fun u hu=>?_) (zv HW2.out n4);obtain⟨-,h3,h4,h5,h6,h7,h8,h9,h10,h11⟩:=hno.out u hu;exact⟨(HXX.out (by simp)).1 u h10 h9 h8 h11 h7,by rw[h3],rfl⟩
       ·have hnt:RowKit.Hid (∀u,¬Rds s u):=Qh fun u hu=>by have:=(hno.out u hu).1;cases this
        have hw1:IntKind.u64.wrap ((m:Int)+1)=((m+1:Nat):Int):=(by have:=HM.2 (by simp);rw[IntKind.wrap_u64];omega);have HMw:=Qh (Qa hw1 (show m+1<18446744073709551616 by have:=HM.2 (by simp);omega));clear hw1;go_wp2_with fail;refine(HPf.out m _ HM1.out HM.1 (Below.refl _ _)).mono ?_;rintro e w5 ⟨rfl,hb5⟩;have hb5':=HW2.trans (hb5.mono HW2.size);have HPf2:=Qh (HPf.out (m+1) w5 (by omega) HMw.2 (hb5.mono HW2.size));have HB5:=Qh hb5';clear hb5 hb5';rw[z5a];go_wp2_with fail;rw[HMw.1];refine HPf2.mono ?_;rintro e w6 ⟨rfl,hb6⟩;have HB6:=Qh (HB5.trans (hb6.mono HB5.size));clear hb6;have HF1:=Qh (Qa (z8w HSGl.out HM1.out HM.1 HP12.out) (show(Us.pfE m p SG).toNat<=2 by cases Us.pfE m p SG<;>decide));generalize Us.pfR m p SG=fa at*
        generalize(Us.pfE m p SG).toNat=ka at*
        generalize Us.pfR (m+1) p SG=fb at*
        generalize z2B (Us.pfE (m+1) p SG)=vb at*
        generalize hva:z3Y ka=va at*
        by_cases heq:(FloatKind.f64.format.order fa fb==some .eq)=true
        ·go_wp2_with fail;go_ret3;refine AtQ.of fa i ka (by rw[hva];rfl) HF1.1 HF1.2 (fun u hu=>absurd hu (hnt.out u)) HB6.out
        ·have heq':(FloatKind.f64.format.order fa fb==some .eq)=false:=by simpa using heq
         clear heq;have HSt:=Qh (zcV w6.heap.size (s.extract 0 i) (w6.alloc (.cells Tryz.zeroCells179 179 (0,0))) (by rw[ByteArray.size_extract];have:=HS.out;omega) (zdV w6));have HBa:=Qh (HB6.alloc HB6.size (.cells Tryz.zeroCells179 179 (0,0)));go_wp2_with fail;refine HSt.mono ?_;rintro e w7 ⟨⟨ok7,rfl⟩,h7⟩;have H7:=Qh h7.out;clear h7;have HB7:RowKit.Hid (Below w.heap.size w w7):=Qh (HBa.trans (H7.2.below HBa.size (fun k hk=>by rw[hk];exact HB6.size)));cases ok7
         ·go_wp2_with fail;go_ret3;exact AtQ.of 0 i 2 rfl (by omega) (by omega) (fun u hu=>absurd hu (hnt.out u)) HB7.out
         ·obtain⟨τ,m7,t1,t2,t3,t4,t5⟩:=H7.1
          have hE7:=(HE.on HB7.out);have HFb:=Qh (z3W w.heap.size w6.heap.size τ m7 w7 t1 t2 t3 hE7.at_.chs hE7.at_.pws HB6.size hE7.2.1);clear t1 t2 t3 t4 t5 hE7;go_wp2_with fail;refine HFb.mono ?_;rintro e w8 ⟨⟨z,o,rfl,hz0,hz1⟩,hk8⟩;have HZ:=Qh (Qa hz0 hz1);have HB8:RowKit.Hid (Below w.heap.size w w8):=Qh (HB7.trans (hk8.below HB7.size (fun k hk=>by rw[hk];exact HB6.size)));clear hz0 hz1 hk8;cases o
          ·go_wp2_with fail;go_ret3;exact AtQ.of z.toNat i 0 rfl (by have:=HZ.out;omega) (by omega) (fun u hu=>absurd hu (hnt.out u)) HB8.out
          ·go_wp2_with fail;go_ret3;exact AtQ.of z.toNat i 1 rfl (by have:=HZ.out;omega) (by omega) (fun u hu=>absurd hu (hnt.out u)) HB8.out
   ·have hpw:=HEw.at_.pws;obtain⟨-,-,i0,i1,i2⟩:=hpw;have hnt:RowKit.Hid (∀u,¬Rds s u):=Qh fun u hu=>(by have:=(hU.out u hu).2.1;cases this);have HHx:=Qh (z2J (s.extract 0 i) m p neg tr w2 HM.1 i0 i1 i2 HEw.at_.blk);clear i0 i1 i2;go_wp2_with fail;refine HHx.mono ?_;rintro e w3 ⟨⟨f,b,rfl,hf⟩,hw3⟩;have HF:=Qh hf;have HB3:=Qh (HW2.trans ((z1m hw3).mono HW2.size));clear hf hw3;rw[z5a];go_wp2_with fail;go_ret3;exact AtQ.of f i b.toNat rfl HF.out (by cases b<;>decide) (fun u hu=>absurd hu (hnt.out u)) HB3.out
 ·go_wp2_with fail;go_ret3;exact AtQ.of f0 n0 0 rfl HF0.1 (by omega) (fun u hu=>absurd (HF0.2 hu.num) (by simp)) HW1.out
end Go.Proofs.YtkkecpamnnojoaaGreatDoor
namespace Go.Proofs.YtkkecpamnnojoaaGreatDoor
open Go.ChangeShapes Go.WideShapes Go.ChangeAt Go.RowKit
open Bt Dc
theorem z9y(s:ByteArray)(w:World)(hs:s.size<=1073741824)(hE:Env w.heap.size w):Calls Tryz.prog 145 #[.string s,.int .i64 64] w (AtQ s w):=by
 have HA:=Qh (zcG s w hs hE);clear hs hE;go_in;go_wp2_with fail;refine HA.mono ?_;rintro e w1 ⟨⟨f,n,k,rfl,hq⟩,hb⟩;have HQ:=Qh (Qa hq.out hb);clear hq hb;generalize hv:z3Y k=v at*
 go_wp2_with fail;go_ret3;exact AtQ.of f n k (by rw[hv];rfl) HQ.1.1 HQ.1.2.1 HQ.1.2.2 HQ.2
def IpQ(s:ByteArray)(w:World)(e:Ending)(w':World):Prop:=(∃(f k:Nat),e=.returned (.tuple #[.float .f64 f,z3Y k])/\RowKit.Hid (f<18446744073709551616/\k<=2/\∀u,Rds s u->f=u/\k=0))/\Below w.heap.size w w'
theorem z7T(s:ByteArray)(w:World)(hs:s.size<=1073741824)(hE:Env w.heap.size w):Calls Tryz.prog 118 #[.string s,.int .i64 64] w (IpQ s w):=by
 have HA:=Qh (z9y s w hs hE);clear hs hE;go_in;go_wp2_with fail;refine HA.mono ?_;rintro e w1 ⟨⟨f,n,k,rfl,hq⟩,hb⟩;have HQ:=Qh (Qa hq.out hb);clear hq hb;generalize hv:z3Y k=v at*
 by_cases hn:n=((s.size:Nat):Int)
 ·go_wp2_with fail;go_ret2;exact⟨⟨f,k,by rw[hv];rfl,⟨HQ.1.1,HQ.1.2.1,fun u hu=>⟨(HQ.1.2.2 u hu).1,(HQ.1.2.2 u hu).2.2⟩⟩⟩,HQ.2⟩
 ·have hn':(n != ((s.size:Nat):Int))=true:=(by rw[bne_iff_ne];exact hn);have HN:=Qh hn;clear hn;go_wp2_with fail;go_ret2;exact⟨⟨0,2,rfl,⟨by omega,by omega,fun u hu=>absurd (HQ.1.2.2 u hu).2.1 HN.out⟩⟩,HQ.2⟩
def z3P(w:World):Prop:=(∃ev,w.cell? ⟨4,0,none⟩=some ev/\(ev=.nilIface\/∃te pe,ev=.iface te pe))/\(∃ev,w.cell? ⟨5,0,none⟩=some ev/\(ev=.nilIface\/∃te pe,ev=.iface te pe))
def PaQ(s:ByteArray)(w:World)(e:Ending)(w':World):Prop:=(∃(f:Nat) (v:Value),e=.returned (.tuple #[.float .f64 f,v])/\RowKit.Hid (f<18446744073709551616/\(v=.nilIface\/∃N:Nat,v=.iface 187 (.pointer (some ⟨N,0,none⟩)))/\∀u,Rds s u->f=u/\v=.nilIface))/\Below w.heap.size w w'
theorem xx(s:ByteArray)(w:World)(hs:s.size<=1073741824)(hE:Env w.heap.size w)(hX:∀w',Below w.heap.size w w'->z3P w'):Calls Tryz.prog 104 #[.string s,.int .i64 64] w (PaQ s w):=by
 have HA:=Qh (z7T s w hs hE);have HX:=Qh hX;have HS:=Qh hs;clear hs hE hX;go_in;go_wp2_with fail;refine HA.mono ?_;rintro e w1 ⟨⟨f,k,rfl,hq⟩,hb⟩;have HQ:=Qh (Qa hq.out hb);clear hq hb;have hk:k=0\/k=1\/k=2:=(by have:=HQ.1.2.1;omega);rcases hk with rfl|rfl|rfl
 ·rw[show z3Y 0=.nilIface from rfl];go_wp2_with fail;go_ret2;exact⟨⟨f,_,rfl,⟨HQ.1.1,Or.inl rfl,fun u hu=>⟨(HQ.1.2.2 u hu).1,rfl⟩⟩⟩,HQ.2⟩
 ·rw[show z3Y 1=.iface 184 (.int .i64 1)from rfl];go_wp2_with fail;obtain⟨ev,h1,h2⟩:=(HX.out w1 HQ.2).2;refine(Tryz.strconv_toError_range _ s _ _ ev w1 (by have:=HS.out;omega) h1 h2).mono ?_;rintro e w2 ⟨N,rfl,-,-,hb2⟩;have HB2:=Qh (HQ.2.trans (hb2.mono HQ.2.size));clear h1 h2 hb2;go_wp2_with fail;go_ret2;exact⟨⟨f,_,rfl,⟨HQ.1.1,Or.inr ⟨N,rfl⟩,fun u hu=>absurd (HQ.1.2.2 u hu).2 (by omega)⟩⟩,HB2.out⟩
 ·rw[show z3Y 2=.iface 184 (.int .i64 2)from rfl];go_wp2_with fail;obtain⟨ev,h1,h2⟩:=(HX.out w1 HQ.2).1;refine(Tryz.strconv_toError_syntax _ s _ _ ev w1 (by have:=HS.out;omega) h1 h2).mono ?_;rintro e w2 ⟨N,rfl,-,-,hb2⟩;have HB2:=Qh (HQ.2.trans (hb2.mono HQ.2.size));clear h1 h2 hb2;go_wp2_with fail;go_ret2;exact⟨⟨f,_,rfl,⟨HQ.1.1,Or.inr ⟨N,rfl⟩,fun u hu=>absurd (HQ.1.2.2 u hu).2 (by omega)⟩⟩,HB2.out⟩
end Go.Proofs.YtkkecpamnnojoaaGreatDoor
namespace Go.Proofs.YtkkecpamnnojoaaGreatDoor
open Go.ChangeShapes Go.WideShapes Go.ChangeAt Go.RowKit
open Bt Dc
theorem zcN{H:Type}{enc:TypeId×Value->H}{P:Program}{w:World}{base:Nat}{spare:Nat->Bool}{held:Bool}{fuel:Nat}{t:TypeId}{cs:List Value}{x:DataW H×List MemPlace}{ms:Array (String×TypeId)}(ht:P.underlying t=some (.interface ms))(h:DataW.trod enc P w base spare held fuel t cs=some x):cs=[.nilIface]\/∃u v,cs=[.iface u v]:=by
 cases fuel with
 |zero=>simp[DataW.trod]at h
 |succ n=>
  unfold DataW.trod at h;rw[ht]at h;split at h<;>simp_all
theorem zbY:∃ms,Tryz.prog.underlying 145=some (.interface ms):=by
 have h:(match Tryz.prog.underlying 145 with|some (.interface _)=>true|_=>false)=true:=(by kernel_rfl);split at h
 ·next ms e=>exact⟨ms,e⟩
 ·cases h
theorem zcl{W:World}{n:String}{d:DataW Unit}{g:Nat}(h:qR W n d)(hg:Tryz.prog.globalNamed n=some g)(ht:(Tryz.prog.globals[g]?).map (·.type)=some 145):∃ev,W.cell? ⟨g,0,none⟩=some ev/\(ev=.nilIface\/∃te pe,ev=.iface te pe):=by
 obtain⟨g',t,cs,fuel,p,h1,h2,h3,h4⟩:=h;obtain rfl:=Option.some.inj (hg.symm.trans h1);obtain rfl:=Option.some.inj (ht.symm.trans h2);obtain⟨ms,hu⟩:=zbY;have hc:=World.var?_cell hg h3 0;rw[<-Array.getElem?_toList]at hc;rcases zcN hu h4 with e|⟨u,v,e⟩
 ·rw[e]at hc;exact⟨_,hc,Or.inl rfl⟩
 ·rw[e]at hc;exact⟨_,hc,Or.inr ⟨u,v,rfl⟩⟩
theorem zbU{W:World}(h:qR W "internal/strconv.float64info" (.agg [.lit (.int .u64 52),.lit (.int .u64 11),.lit (.int .i64 (-1023))])):
  W.cell? ⟨9,0,none⟩=some (.int .u64 52)/\W.cell? ⟨9,1,none⟩=some (.int .u64 11)/\W.cell? ⟨9,2,none⟩=some (.int .i64 (-1023)):=by
 obtain⟨g,t,cs,fuel,p,h1,h2,h3,h4⟩:=h;have hg:Tryz.prog.globalNamed "internal/strconv.float64info" =some 9:=(by kernel_rfl);obtain rfl:=Option.some.inj (hg.symm.trans h1);obtain rfl:=Option.some.inj ((show(Tryz.prog.globals[9]?).map (·.type)=some 242 by kernel_rfl).symm.trans h2)
 obtain⟨ys,n,-,hz,hzl,hzs,hf⟩:=DataW.trod_struct Tryz.underlying242 h4;have hzy:ys.map (·.1)=[.lit (.int .u64 52),.lit (.int .u64 11),.lit (.int .i64 (-1023))]:=by have h5:=congrArg Prod.fst hz;simp only[DataW.agg.injEq]at h5;exact h5.symm
 have one:∀(j:Nat) (k:IntKind) (z:Int) (f:Field),DataW.trod (fun _=>()) Tryz.prog W 0 (fun _=>true) false n f.type ((cs.toList.drop f.offset).take (Tryz.prog.cellsOf f.type))=ys[j]?->(ys.map (·.1))[j]?=some (.lit (.int k z))->f.offset=j->
   Tryz.prog.underlying f.type=some (.int k)->Tryz.prog.cellsOf f.type=1->cs.toList[j]?=some (.int k z):=by
  intro j k z f hr hj ho hu hc;rw[List.getElem?_map]at hj;obtain⟨⟨d,q⟩,h6,h7⟩:=Option.map_eq_some_iff.1 hj;rw[h6,hc,ho]at hr;obtain⟨z',hz1,hz2,-⟩:=DataW.trod_int hu hr;simp only at h7;rw[h7]at hz2;have:z=z':=(by have:=congrArg Prod.fst hz2;simpa using this);subst this;have h8:=congrArg (fun l=>l[0]?) hz1;have h9:(List.take 1 (List.drop j cs.toList))[0]?=some (Value.int k z):=h8;rw[List.getElem?_take_of_lt (by omega),List.getElem?_drop,Nat.add_zero]at h9;exact h9
 have c0:=one 0 .u64 52 _ (hf 0 _ rfl) (by rw[hzy];rfl) rfl Tryz.underlying152 (by kernel_rfl);have c1:=one 1 .u64 11 _ (hf 1 _ rfl) (by rw[hzy];rfl) rfl Tryz.underlying152 (by kernel_rfl);have c2:=one 2 .i64 (-1023) _ (hf 2 _ rfl) (by rw[hzy];rfl) rfl Tryz.underlying3 (by kernel_rfl);refine⟨?_,?_,?_⟩<;>rw[World.var?_cell hg h3 _,<-Array.getElem?_toList]
 ·exact c0
 ·exact c1
 ·exact c2
theorem z9z{W:World}(h:qR W "internal/strconv.powtab" Rows.laid_internal_strconv_powtab):∃ad cap,W.cell? ⟨13,0,none⟩=some (.slice (some ad) 9 cap)/\∀i,i<9->W.cell? (ad.add i)=some (.int .i64 ((pw i:Nat):Int)):=by
 obtain⟨g,t,cs,fuel,p,h1,h2,h3,h4⟩:=h;have hg:Tryz.prog.globalNamed "internal/strconv.powtab" =some 13:=(by kernel_rfl);obtain rfl:=Option.some.inj (hg.symm.trans h1);obtain rfl:=Option.some.inj ((show(Tryz.prog.globals[13]?).map (·.type)=some 37 by kernel_rfl).symm.trans h2)
 rcases Go.Deep.open_slice1 Tryz.underlying37 (by kernel_rfl) h4 with⟨k1,k2⟩|⟨a,len,cap,m,n,V,D,Pl,hcs,hb,hl1,hm,hmm,hx,hi⟩
 ·have:=congrArg Prod.fst k2;cases this
 ·have hd:Rows.laid_internal_strconv_powtab=DataW.slice ((List.range len).map D) ((List.range (m-len)).map fun j=>D (len+j)):=congrArg Prod.fst hx
  unfold Rows.laid_internal_strconv_powtab at hd;simp only[DataW.slice.injEq]at hd;have hlen:len=9:=(by have:=congrArg List.length hd.1;simpa using this.symm);subst hlen;have hc0:=World.var?_cell hg h3 0;rw[<-Array.getElem?_toList,hcs]at hc0;refine⟨a,cap,hc0,fun i hi9=>?_⟩;have hm9:i<m:=(by rw[hmm];simp;omega);obtain⟨q1,q2⟩:=hi i hm9;obtain⟨z,q3,q4,-⟩:=DataW.trod_int Tryz.underlying3 q2;rw[q1];have q5:V i=.int .i64 z:=(by simpa using q3);have q6:D i=.lit (.int .i64 z):=congrArg Prod.fst q4;have q7:=congrArg (fun l=>l[i]?) hd.1;simp only[List.getElem?_map,List.getElem?_range hi9,Option.map_some,q6]at q7;rw[q5];have hz:z=((pw i:Nat):Int):=by
   unfold pw
   match i,hi9 with
   |0,_|1,_|2,_|3,_|4,_|5,_|6,_|7,_|8,_=>simpa using q7.symm
  rw[hz]
theorem zai{W:World}(h:qR W "internal/strconv.leftcheats" Go.Pinned.leftcheats):∃ad cap,W.cell? ⟨7,0,none⟩=some (.slice (some ad) 61 cap)/\
  ∀k,1<=k->k<=60->W.cell? ⟨ad.block,ad.off+k*2,none⟩=some (.int .i64 (((qb k).1:Nat):Int))/\W.cell? ⟨ad.block,ad.off+k*2+1,none⟩=some (.string (z40 k)):=by
 obtain⟨g,t,cs,fuel,p,h1,h2,h3,h4⟩:=h;have hg:Tryz.prog.globalNamed "internal/strconv.leftcheats" =some 7:=(by kernel_rfl);obtain rfl:=Option.some.inj (hg.symm.trans h1);obtain rfl:=Option.some.inj ((show(Tryz.prog.globals[7]?).map (·.type)=some 229 by kernel_rfl).symm.trans h2)
 have hC:Tryz.prog.cellsOf 228=2:=(by kernel_rfl);rcases Go.Deep.open_slice Tryz.underlying229 h4 with⟨k1,k2⟩|⟨a,len,cap,m,n,D,Pl,hcs,hb,hl1,hm,hmm,hx,hi⟩
 ·have:=congrArg Prod.fst k2;cases this
 ·have hd:Go.Pinned.leftcheats=DataW.slice ((List.range len).map D) ((List.range (m-len)).map fun j=>D (len+j)):=congrArg Prod.fst hx
  unfold Go.Pinned.leftcheats at hd;simp only[DataW.slice.injEq]at hd;have hlen:len=61:=(by have:=congrArg List.length hd.1;rw[List.length_map,List.length_map,List.length_range]at this;rw[<-this];decide);subst hlen;have hc0:=World.var?_cell hg h3 0;rw[<-Array.getElem?_toList,hcs]at hc0;refine⟨a,cap,hc0,fun k hk1 hk2=>?_⟩;have hm61:k<m:=(by rw[hmm];simp;omega);obtain⟨cs',q1,q2⟩:=hi k hm61;rw[hC]at q1;obtain⟨-,hl,hcell⟩:=World.cells?_some q1;have ha0:(a.add (k*2)).add 0=⟨a.block,a.off+k*2,none⟩:=(by unfold Addr.add;rw[if_pos rfl,if_neg (by omega)]);have ha1:(a.add (k*2)).add 1=⟨a.block,a.off+k*2+1,none⟩:=(by unfold Addr.add;rw[if_neg (by omega),if_neg (by omega)]);have e0:=hcell 0 (by omega);have e1:=hcell 1 (by omega);rw[ha0]at e0;rw[ha1]at e1;obtain⟨ys,n',-,hz,-,-,hf⟩:=DataW.trod_struct Tryz.underlying228 q2;have hDk:D k=.agg [.lit (.int .i64 (((qb k).1:Nat):Int)),.lit (.string (qb k).2)]:=(by have q7:=congrArg (fun l=>l[k]?) hd.1;simp only[List.getElem?_map,List.getElem?_range (show k<61 by omega),Option.map_some]at q7;have hr:Go.Pinned.cheatRows[k]?=some (qb k):=(by have hkl:k<Go.Pinned.cheatRows.length:=(by have:Go.Pinned.cheatRows.length=61:=(by decide);omega);unfold qb;rw[List.getD_eq_getElem?_getD,List.getElem?_eq_getElem hkl];rfl);rw[hr]at q7;exact(Option.some.inj q7).symm);have hzy:ys.map (·.1)=[.lit (.int .i64 (((qb k).1:Nat):Int)),.lit (.string (qb k).2)]:=by have h5:=congrArg Prod.fst hz;simp only at h5;rw[hDk]at h5;simp only[DataW.agg.injEq]at h5;exact h5.symm
  have hf0:=hf 0 _ rfl;have hf1:=hf 1 _ rfl;have y0:(ys.map (·.1))[0]?=some (.lit (.int .i64 (((qb k).1:Nat):Int))):=by rw[hzy];rfl
  have y1:(ys.map (·.1))[1]?=some (.lit (.string (qb k).2)):=by rw[hzy];rfl
  rw[List.getElem?_map]at y0 y1;obtain⟨⟨d0,p0⟩,h6,h7⟩:=Option.map_eq_some_iff.1 y0;obtain⟨⟨d1,p1⟩,h8,h9⟩:=Option.map_eq_some_iff.1 y1;simp only at h7 h9;subst h7 h9;rw[h6]at hf0;rw[h8]at hf1;have hCi:Tryz.prog.cellsOf 3=1:=(by kernel_rfl);have hCs:Tryz.prog.cellsOf 9=1:=(by kernel_rfl);have g0:DataW.trod (fun _=>()) Tryz.prog W 0 (fun _=>true) false n' 3 ((cs'.drop 0).take 1)=some (.lit (.int .i64 (((qb k).1:Nat):Int)),p0):=(by rw[<-hCi];exact hf0);have g1:DataW.trod (fun _=>()) Tryz.prog W 0 (fun _=>true) false n' 9 ((cs'.drop 1).take 1)=some (.lit (.string (qb k).2),p1):=(by have hf1':DataW.trod (fun _=>()) Tryz.prog W 0 (fun _=>true) false n' 9 ((cs'.drop 1).take (Tryz.prog.cellsOf 9))=some (.lit (.string (qb k).2),p1):=hf1;rw[hCs]at hf1';exact hf1');obtain⟨z',z1,z2,-⟩:=DataW.trod_int Tryz.underlying3 g0;obtain⟨s',s1,s2,-⟩:=DataW.trod_string Tryz.underlying9 g1;have hz':(((qb k).1:Nat):Int)=z':=(by have:=congrArg Prod.fst z2;simpa using this);have hs':s'=z40 k:=(by have:=congrArg Prod.fst s2;simp only[DataW.lit.injEq,Lit.string.injEq]at this;unfold z40;rw[this]);have w0:cs'[0]?=some (.int .i64 z'):=(by have h:=congrArg (fun l=>l[0]?) z1;have h9:(List.take 1 (List.drop 0 cs'))[0]?=some (Value.int .i64 z'):=h;rw[List.getElem?_take_of_lt (by omega),List.getElem?_drop,Nat.add_zero]at h9;exact h9);have w1:cs'[1]?=some (.string s'):=(by have h:=congrArg (fun l=>l[0]?) s1;have h9:(List.take 1 (List.drop 1 cs'))[0]?=some (Value.string s'):=h;rw[List.getElem?_take_of_lt (by omega),List.getElem?_drop,Nat.add_zero]at h9;exact h9);exact⟨by rw[e0,w0,hz'],by rw[e1,w1,hs']⟩
theorem z1g{W:World}:∀{l:List (String×DataW Unit)} {ps:List MemPlace},DataW.LaidVars Tryz.prog W l ps->∀(i:Nat) (n:String) (d:DataW Unit) (g:Nat),l[i]?=some (n,d)->Tryz.prog.globalNamed n=some g->(∃v,W.cell? ⟨g,0,none⟩=some v)->MemPlace.cell g 0∈ps
 |[],_,_,i,n,d,g,hi,_,_=>by simp at hi
 |(n0,d0)::r,ps,h,i,n,d,g,hi,hg,hv=>by
  obtain⟨g',t,cs,fuel,p,q,h1,h2,h3,h4,h5,rfl⟩:=h;cases i with
  |zero=>
   simp at hi;obtain⟨rfl,rfl⟩:=hi;obtain rfl:=Option.some.inj (h1.symm.trans hg);obtain⟨v,hv⟩:=hv;rw[World.var?_cell h1 h3 0]at hv;have hsz:0<cs.size:=(by refine Nat.pos_of_ne_zero fun e=>?_;rw[Array.getElem?_eq_none (by omega)]at hv;cases hv);refine List.mem_append_left _ (List.mem_append_left _ ?_);unfold MemPlace.row;exact List.mem_map.2 ⟨0,List.mem_range.2 hsz,rfl⟩
  |succ i=>exact List.mem_append_right _ (z1g h5 i n d g (by simpa using hi) hg hv)
theorem z2q(a:Addr)(n:Nat):(a.add n).block=a.block:=by unfold Addr.add;split<;>rfl
theorem zeZ{W:World}(h:qR W "internal/strconv.float32info" (.agg [.lit (.int .u64 23),.lit (.int .u64 8),.lit (.int .i64 (-127))])):∃v,W.cell? ⟨8,0,none⟩=some v:=by
 obtain⟨g,t,cs,fuel,p,h1,h2,h3,h4⟩:=h;have hg:Tryz.prog.globalNamed "internal/strconv.float32info" =some 8:=(by kernel_rfl);obtain rfl:=Option.some.inj (hg.symm.trans h1);obtain rfl:=Option.some.inj ((show(Tryz.prog.globals[8]?).map (·.type)=some 242 by kernel_rfl).symm.trans h2)
 obtain⟨ys,n,-,-,hl,-,-⟩:=DataW.trod_struct Tryz.underlying242 h4;have hC:Tryz.prog.cellsOf 242=3:=(by kernel_rfl);rw[hC,Array.length_toList]at hl;rw[World.var?_cell hg h3 0];exact⟨_,Array.getElem?_eq_getElem (by omega)⟩
theorem zf3{W:World}(h:laidMetH Tryz.prog Rows.scriptPrintsRow.laid W):Env W.heap.size W/\∀w',Below W.heap.size W w'->z3P w':=by
 have hT:=zaH h;have hP:=zeG h;rw[MakeChecks.laidMetH_plain _ _ _ (by kernel_rfl)]at h;obtain⟨ps,hv,-,hmk⟩:=h;obtain⟨i0,i1,i2⟩:=zbU (yL hv 3 _ _ rfl);obtain⟨pa,pc,p1,p2⟩:=z9z (yL hv 5 _ _ rfl);obtain⟨la,lc,l1,l2⟩:=zai (yL hv 11 _ _ rfl);obtain⟨er,er1,er2⟩:=zcl (yL hv 9 _ _ rfl) (g:=5) (by kernel_rfl) (by kernel_rfl);obtain⟨es,es1,es2⟩:=zcl (yL hv 10 _ _ rfl) (g:=4) (by kernel_rfl) (by kernel_rfl);have hpw:=z8v (yL hv 12 _ _ rfl);have k64:Tryz.prog.globalNamed "internal/strconv.float64info" =some 9:=(by kernel_rfl);have k32:Tryz.prog.globalNamed "internal/strconv.float32info" =some 8:=(by kernel_rfl);obtain⟨f32,hf32⟩:=zeZ (yL hv 2 _ _ rfl);obtain⟨ca,ta,hb1⟩:=(hmk _ _ (z1g hv 3 _ _ _ rfl k64 ⟨_,i0⟩)).1;obtain⟨cb,tb,hb2⟩:=(hmk _ _ (z1g hv 2 _ _ _ rfl k32 ⟨_,hf32⟩)).1;have pab:pa.block<W.heap.size:=(by have:=zG (p2 0 (by omega));rw[z2q]at this;exact this);have lab:la.block<W.heap.size:=(by have h:=zG (l2 1 (by omega) (by omega)).1;exact h);refine⟨⟨fun w' hb=>?_,Nat.le_refl _,zG (hpw 0 (by omega)).1⟩,fun w' hb=>⟨⟨es,(hb.cell (p:=⟨4,0,none⟩) (zG es1)).trans es1,es2⟩,⟨er,(hb.cell (p:=⟨5,0,none⟩) (zG er1)).trans er1,er2⟩⟩⟩;refine⟨?_,?_,?_,⟨la,lc,(hb.cell (p:=⟨7,0,none⟩) (zG l1)).trans l1,zG l1,lab,fun k k1 k2=>⟨(hb.cell (p:=⟨la.block,la.off+k*2,none⟩) lab).trans (l2 k k1 k2).1,(hb.cell (p:=⟨la.block,la.off+k*2+1,none⟩) lab).trans (l2 k k1 k2).2⟩⟩,⟨⟨pa,pc,(hb.cell (p:=⟨13,0,none⟩) (zG p1)).trans p1,zG p1,pab,fun i hi=>(hb.cell (by rw[z2q];exact pab)).trans (p2 i hi)⟩,zG i0,(hb.cell (p:=⟨9,0,none⟩) (zG i0)).trans i0,(hb.cell (p:=⟨9,1,none⟩) (zG i1)).trans i1,(hb.cell (p:=⟨9,2,none⟩) (zG i2)).trans i2⟩,ca,ta,cb,tb,?_,?_⟩
 ·exact(hb.cell (p:=⟨2,0,none⟩) (zG hT.1)).trans hT.1
 ·exact zbn hP hb (zG hP.bits) (by obtain⟨ad,cap,c1,-⟩:=hP.row;exact zG c1) (fun ad cap hc=>by
   obtain⟨ad',cap',c1,c2⟩:=hP.row;rw[c1]at hc;injection hc with hc;injection hc with e1 _ _;injection e1 with e1;subst e1;have:=zG (c2 0 (by omega));rw[z2q]at this;exact this)
 ·intro i hi;exact⟨(hb.cell (p:=⟨6,i*2,none⟩) (zG (hpw i hi).1)).trans (hpw i hi).1,(hb.cell (p:=⟨6,i*2+1,none⟩) (zG (hpw i hi).2)).trans (hpw i hi).2⟩
 ·rw[hb.block _ (lt_of_block hb1)];exact hb1
 ·rw[hb.block _ (lt_of_block hb2)];exact hb2
end Go.Proofs.YtkkecpamnnojoaaGreatDoor
namespace Go.Proofs.YtkkecpamnnojoaaGreatDoor.Us
def Chr(c:Nat):Prop:=(48<=c/\c<=57)\/c=45\/c=43\/c=46\/c=101
theorem z6I(e:Int):(∀c∈z3w e,Chr c\/999<e.natAbs)/\(z3w e).length<=4:=by
 unfold z3w;constructor
 ·intro c hc
  by_cases hb:999<e.natAbs
  ·exact Or.inr hb
  ·left
   rcases List.mem_cons.1 hc with h|h
   ·subst h;unfold Chr;split<;>omega
   ·unfold Chr
    split at h
    ·simp at h;omega
    ·split at h<;>simp at h<;>omega
 ·rw[List.length_cons]
  split
  ·simp
  ·split<;>simp
theorem z6D(neg:Bool){D:List Nat}{dp:Int}(hD:∀c∈D,48<=c/\c<=57)(hl:D.length<=20)(h1:-900<dp)(h2:dp<900):(∀c∈qG neg D dp,Chr c)/\(qG neg D dp).length<=40:=by
 have hdig:∀c∈D,Chr c:=fun c hc=>Or.inl (hD c hc);have hs:∀c∈(if neg then[45]else[]:List Nat),Chr c:=(by intro c hc;cases neg<;>simp at hc;subst hc;exact Or.inr (Or.inl rfl));have hsl:(if neg then[45]else[]:List Nat).length<=1:=(by cases neg<;>simp);unfold qG;have key:∀L:List Nat,(∀c∈L,Chr c)->L.length<=39->(∀c∈(if neg then[45]else[])++L,Chr c)/\((if neg then[45]else[])++L).length<=40:=by
  intro L hL hLl;refine⟨fun c hc=>?_,by rw[List.length_append];omega⟩;rcases List.mem_append.1 hc with h|h
  ·exact hs c h
  ·exact hL c h
 refine key _ ?_ ?_
 ·intro c hc
  split at hc
  ·simp at hc;subst hc;exact Or.inl (by omega)
  ·split at hc
   ·unfold za0 at hc
    rcases List.mem_append.1 hc with h|h
    ·rcases List.mem_append.1 h with h|h
     ·exact hdig c (List.mem_of_mem_take h)
     ·split at h
      ·rcases List.mem_cons.1 h with h|h
       ·subst h;exact Or.inr (Or.inr (Or.inr (Or.inl rfl)))
       ·exact hdig c (List.mem_of_mem_drop h)
      ·simp at h
    ·rcases List.mem_cons.1 h with h|h
     ·subst h;exact Or.inr (Or.inr (Or.inr (Or.inr rfl)))
     ·rcases(z6I (dp-1)).1 c h with h|h
      ·exact h
      ·omega
   ·unfold z5m at hc
    split at hc
    ·rcases List.mem_append.1 hc with h|h
     ·rcases List.mem_append.1 h with h|h
      ·exact hdig c (List.mem_of_mem_take h)
      ·have:=List.eq_of_mem_replicate h;subst this;exact Or.inl (by omega)
     ·split at h
      ·rcases List.mem_cons.1 h with h|h
       ·subst h;exact Or.inr (Or.inr (Or.inr (Or.inl rfl)))
       ·exact hdig c (List.mem_of_mem_drop h)
      ·simp at h
    ·rcases List.mem_append.1 hc with h|h
     ·rcases List.mem_cons.1 h with h|h
      ·subst h;exact Or.inl (by omega)
      ·rcases List.mem_cons.1 h with h|h
       ·subst h;exact Or.inr (Or.inr (Or.inr (Or.inl rfl)))
       ·have:=List.eq_of_mem_replicate h;subst this;exact Or.inl (by omega)
     ·exact hdig c h
 ·split
  ·simp
  ·next hne=>
   split
   ·unfold za0
    have:=(z6I (dp-1)).2;rw[List.length_append,List.length_append,List.length_cons,List.length_take];split
    ·rw[List.length_cons,List.length_drop];omega
    ·simp;omega
   ·next hE=>
    unfold z5m;split
    ·rw[List.length_append,List.length_append,List.length_replicate,List.length_take]
     split
     ·rw[List.length_cons,List.length_drop];omega
     ·simp;omega
    ·rw[List.length_append,List.length_cons,List.length_cons,List.length_replicate];omega
theorem z01{u:Nat}(hk:exb u<2047):(∀c∈zQ u,Chr c)/\(zQ u).length<=40:=by
 unfold zQ;by_cases hm:Sm.zt u=0
 ·rw[if_pos hm];exact z6D _ (fun c hc=>by simp at hc) (by simp) (by omega) (by omega)
 ·rw[if_neg hm];obtain⟨hok,-,-⟩:=z11 u hk hm;have h0:=z3A hok;have D:=z5s h0.1 (zcs hok);have h18:=D.n18;have hz:=D.nzn;exact z6D _ D.all (by rw[D.len];omega) (by omega) (by omega)
theorem z3E{c:Nat}(h:Chr c):c<256:=by unfold Chr at h;omega
theorem z7a{u:Nat}(hk:exb u<2047):∃(neg:Bool) (c:Nat) (t:List Nat),zQ u=(if neg then[45]else[])++c::t/\48<=c/\c<=57:=by
 unfold zQ;by_cases hm:Sm.zt u=0
 ·rw[if_pos hm];exact⟨Sm.yv u,48,[],rfl,by omega,by omega⟩
 ·rw[if_neg hm]
  obtain⟨hok,-,-⟩:=z11 u hk hm;have h0:=z3A hok;have D:=z5s h0.1 (zcs hok);unfold qG;rw[if_neg D.ne];have hall:=D.all;cases hD:z0w u with
  |nil=>exact absurd hD D.ne
  |cons c t=>
   rw[hD]at hall;have hc:=hall c (List.mem_cons_self ..);by_cases hE:(Lib.nDigits (dd u):Int)+pq u-1< -4\/6<=(Lib.nDigits (dd u):Int)+pq u-1
   ·rw[if_pos hE];exact⟨Sm.yv u,c,_,rfl,hc.1,hc.2⟩
   ·rw[if_neg hE]
    unfold z5m;by_cases hp:0<(Lib.nDigits (dd u):Int)+pq u
    ·rw[if_pos hp];obtain⟨k,hk'⟩:∃k,((Lib.nDigits (dd u):Int)+pq u).toNat=k+1:=⟨((Lib.nDigits (dd u):Int)+pq u).toNat-1,by omega⟩;rw[hk',List.take_succ_cons];exact⟨Sm.yv u,c,_,rfl,hc.1,hc.2⟩
    ·rw[if_neg hp];exact⟨Sm.yv u,48,_,rfl,by omega,by omega⟩
end Go.Proofs.YtkkecpamnnojoaaGreatDoor.Us
namespace Go.Proofs.YtkkecpamnnojoaaGreatDoor
open Go.ChangeShapes Go.WideShapes Go.ChangeAt Go.RowKit
open Bt Dc
theorem z1o{L:List Nat}(h:∀c∈L,c<256):Bs (yQ L)=L:=by unfold Bs yQ;rw[strOfNums_data,List.map_map,List.map_map];have:∀c∈L,((UInt8.toNat∘fun n:Int=>UInt8.ofNat n.toNat)∘fun n:Nat=>(n:Int)) c=id c:=(by intro c hc;simp only[Function.comp,Int.toNat_natCast,id];rw[UInt8.toNat_ofNat'];exact Nat.mod_eq_of_lt (h c hc));rw[List.map_congr_left this,List.map_id]
theorem qu{L:List Nat}(h:∀c∈L,c<256)(i:Nat)(hi:i<L.length):ch (yQ L) (i:Int)=L[i]:=by have hsz:(yQ L).size=L.length:=(by rw[<-xc,z1o h]);have:=qF (yQ L) i (by omega);rw[z1o h,List.drop_eq_getElem_cons hi]at this;injection this with h1 _;exact h1.symm
theorem z5N{u:Nat}(hu:u<18446744073709551616)(hk:Us.exb u<2047):Rds (yQ (Us.zQ u)) u:=by
 obtain⟨hc,-⟩:=Us.z01 hk;have h256:∀c∈Us.zQ u,c<256:=fun c h=>Us.z3E (hc c h);have hsz:(yQ (Us.zQ u)).size=(Us.zQ u).length:=(by rw[<-xc,z1o h256]);obtain⟨neg,c,t,ht,c1,c2⟩:=Us.z7a hk;refine⟨?_,?_⟩
 ·cases neg
  ·left;have h0:=qu h256 0 (by rw[ht];simp);have h1:ch (yQ (Us.zQ u)) 0=c:=(by rw[show((0:Nat):Int)=0 from rfl]at h0;rw[h0];simp[ht]);exact⟨by rw[hsz,ht];simp,by rw[h1];exact c1,by rw[h1];exact c2⟩
  ·right;have h0:=qu h256 0 (by rw[ht];simp);have h1:=qu h256 1 (by rw[ht];simp);rw[show((0:Nat):Int)=0 from rfl]at h0;rw[show((1:Nat):Int)=1 from rfl]at h1;have e0:ch (yQ (Us.zQ u)) 0=45:=(by rw[h0];simp[ht]);have e1:ch (yQ (Us.zQ u)) 1=c:=(by rw[h1];simp[ht]);exact⟨e0,by rw[hsz,ht];simp,by rw[e1];exact c1,by rw[e1];exact c2⟩
 ·rw[z1o h256,hsz]
  by_cases hm:Sm.zt u=0
  ·refine⟨0,0,Sm.yv u,?_,Or.inl ⟨rfl,?_⟩⟩
   ·unfold Us.zQ;rw[if_pos hm];exact Us.z7A _ _
   ·rw[z8j hu];have h0:u%9223372036854775808=0:=(by unfold Sm.zt at hm;unfold Us.exb at hk;split at hm<;>omega);omega
  ·obtain⟨m,p,h1,h2,h3,h4,h5,h6⟩:=Us.z79 hk hm;exact⟨m,p,Sm.yv u,h1,Or.inr ⟨h2,h3,h4,h5,h6,hm,hk,hu,rfl⟩⟩
end Go.Proofs.YtkkecpamnnojoaaGreatDoor
namespace Go.Proofs.YtkkecpamnnojoaaGreatDoor
open Go.ChangeShapes Go.WideShapes Go.ChangeAt Go.RowKit
open Bt Dc
structure RrOk (s:ByteArray) (y:Nat) (k:Int):Prop where
 lt:y<18446744073709551616
 yes:∀u,u<18446744073709551616->s=txt u->y=qc u/\k=0
 no:(∀u,u<18446744073709551616->s≠txt u)->y=0/\k=66
 back:k=0->txt y=s
theorem z5d{s:ByteArray}(h:¬xY s){u:Nat}(hu:u<18446744073709551616)(hk:Us.exb u<2047):s≠yQ (Us.zQ u):=fun e=>h (by rw[e];exact(z5N hu hk).num)
theorem z2t{u:Nat}(hu:u<18446744073709551616):(9218868437227405312<u%9223372036854775808/\txt u=⟨#[110,97,110]⟩)\/(u=9218868437227405312/\txt u=⟨#[105,110,102]⟩)\/(u=18442240474082181120/\txt u=⟨#[45,105,110,102]⟩)\/(Us.exb u<2047/\u%9223372036854775808<9218868437227405312/\txt u=yQ (Us.zQ u)):=by
 have h:=z77 u;by_cases h1:9218868437227405312<u%9223372036854775808
 ·rw[if_pos h1]at h;exact Or.inl ⟨h1,h⟩
 ·rw[if_neg h1]at h
  by_cases h2:u%9223372036854775808=9218868437227405312
  ·rw[if_pos h2]at h
   by_cases h3:u<9223372036854775808
   ·rw[if_pos h3]at h;exact Or.inr (Or.inl ⟨by omega,h⟩)
   ·rw[if_neg h3]at h;exact Or.inr (Or.inr (Or.inl ⟨by omega,h⟩))
  ·rw[if_neg h2]at h;refine Or.inr (Or.inr (Or.inr ⟨?_,by omega,h⟩));unfold Us.exb;omega
theorem zdY{u:Nat}(h:9218868437227405312<u%9223372036854775808):qc u=9221120237041090561:=by have h1:Flt.nan u=true:=(by unfold Flt.nan Flt.zR;rw[decide_eq_true_eq];have e:2047*2^52=9218868437227405312:=(by decide);have e2:(2:Nat)^63=9223372036854775808:=(by decide);omega);unfold qc;rw[if_pos h1]
theorem z5x{u:Nat}(h:¬9218868437227405312<u%9223372036854775808):qc u=u:=by have h1:¬Flt.nan u=true:=(by unfold Flt.nan Flt.zR;rw[decide_eq_true_eq];have e:2047*2^52=9218868437227405312:=(by decide);have e2:(2:Nat)^63=9223372036854775808:=(by decide);omega);unfold qc;rw[if_neg h1]
theorem zdh:¬xY ⟨#[110,97,110]⟩:=by unfold xY Dg0;decide
theorem zdi:¬xY ⟨#[105,110,102]⟩:=by unfold xY Dg0;decide
theorem zbw:¬xY ⟨#[45,105,110,102]⟩:=by unfold xY Dg0;decide
theorem zaZ:RrOk ⟨#[110,97,110]⟩ 9221120237041090561 0:=by
 refine⟨by omega,fun u hu h=>?_,fun h=>absurd (show _=txt 9221120237041090561 by decide+kernel) (h _ (by omega)),fun _=>by decide+kernel⟩;rcases z2t hu with⟨h1,h2⟩|⟨h1,h2⟩|⟨h1,h2⟩|⟨h1,h2,h3⟩
 ·exact⟨(zdY h1).symm,rfl⟩
 ·rw[h2]at h;exact absurd h (by decide)
 ·rw[h2]at h;exact absurd h (by decide)
 ·rw[h3]at h;exact absurd h (z5d zdh hu h1)
theorem zb0:RrOk ⟨#[105,110,102]⟩ 9218868437227405312 0:=by
 refine⟨by omega,fun u hu h=>?_,fun h=>absurd (show _=txt 9218868437227405312 by decide+kernel) (h _ (by omega)),fun _=>by decide+kernel⟩;rcases z2t hu with⟨h1,h2⟩|⟨h1,h2⟩|⟨h1,h2⟩|⟨h1,h2,h3⟩
 ·rw[h2]at h;exact absurd h (by decide)
 ·subst h1;exact⟨(z5x (by decide)).symm,rfl⟩
 ·rw[h2]at h;exact absurd h (by decide)
 ·rw[h3]at h;exact absurd h (z5d zdi hu h1)
theorem z8m:RrOk ⟨#[45,105,110,102]⟩ 18442240474082181120 0:=by
 refine⟨by omega,fun u hu h=>?_,fun h=>absurd (show _=txt 18442240474082181120 by decide+kernel) (h _ (by omega)),fun _=>by decide+kernel⟩;rcases z2t hu with⟨h1,h2⟩|⟨h1,h2⟩|⟨h1,h2⟩|⟨h1,h2,h3⟩
 ·rw[h2]at h;exact absurd h (by decide)
 ·rw[h2]at h;exact absurd h (by decide)
 ·subst h1;exact⟨(z5x (by decide)).symm,rfl⟩
 ·rw[h3]at h;exact absurd h (z5d zbw hu h1)
theorem z0V{s:ByteArray}{u:Nat}(hu:u<18446744073709551616)(n1:s≠⟨#[110,97,110]⟩)(n2:s≠⟨#[105,110,102]⟩)(n3:s≠⟨#[45,105,110,102]⟩)(h:s=txt u):Rds s u/\qc u=u/\Us.exb u<2047/\s=yQ (Us.zQ u):=by
 rcases z2t hu with⟨h1,h2⟩|⟨h1,h2⟩|⟨h1,h2⟩|⟨h1,h2,h3⟩
 ·exact absurd (h.trans h2) n1
 ·exact absurd (h.trans h2) n2
 ·exact absurd (h.trans h2) n3
 ·refine⟨?_,z5x (by omega),h1,h.trans h3⟩;rw[h,h3];exact z5N hu h1
theorem z8n{s:ByteArray}{f:Nat}(n1:s≠⟨#[110,97,110]⟩)(n2:s≠⟨#[105,110,102]⟩)(n3:s≠⟨#[45,105,110,102]⟩)(hf:f<18446744073709551616)(hU:∀u,Rds s u->f=u)(ht:txt f=s):RrOk s f 0:=by refine⟨hf,fun u hu h=>?_,fun h=>absurd ht.symm (h f hf),fun _=>ht⟩;obtain⟨h1,h2,-,-⟩:=z0V hu n1 n2 n3 h;exact⟨by rw[h2];exact hU u h1,rfl⟩
theorem z34{s:ByteArray}(h:∀u,u<18446744073709551616->s≠txt u):RrOk s 0 66:=⟨by omega,fun u hu e=>absurd e (h u hu),fun _=>⟨rfl,rfl⟩,fun e=>by omega⟩
theorem z4c{B:Nat}{w:World}(h:Tb B w):Tb w.heap.size w:=⟨fun w2 k=>h.pows w2 (k.mono h.size),fun w2 k=>h.tens w2 (k.mono h.size),Nat.lt_of_lt_of_le h.lt h.size,Nat.le_refl _⟩
theorem z2S{s t:ByteArray}(h:s.toList=t.toList):s=t:=by rw[ByteArray.toList_eq,ByteArray.toList_eq]at h;obtain⟨a⟩:=s;obtain⟨b⟩:=t;have:a=b:=(by simpa using h);rw[this]
theorem z23{s t:ByteArray}{L:List UInt8}(h:s≠t)(hL:t.toList=L):(s.toList==L)=false:=by rw[beq_eq_false_iff_ne,<-hL];exact fun e=>h (z2S e)
def RdR(s:ByteArray)(w:World)(e:Ending)(w':World):Prop:=(∃(y:Nat) (k:Int),e=.returned (.tuple #[.float .f64 y,.int .i64 k])/\RrOk s y k)/\Below w.heap.size w w'
theorem RdR.of{s:ByteArray}{w w':World}{e:Ending}(y:Nat)(k:Int)(he:e=.returned (.tuple #[.float .f64 y,.int .i64 k]))(h:RrOk s y k)(hb:Below w.heap.size w w'):RdR s w e w':=⟨⟨y,k,he,h⟩,hb⟩
theorem z9j(s:ByteArray)(w:World)(hs:s.size<=1073741824)(hE:Env w.heap.size w)(hX:∀w',Below w.heap.size w w'->z3P w')(hT:Tb w.heap.size w):Calls Tryz.prog 98 #[.string s] w (RdR s w):=by
 have HA:=Qh (xx s w hs hE hX);have HT:=Qh (fun(u:Nat) (w1:World) (hu:u<18446744073709551616) (hb:Below w.heap.size w w1)=>z5O u w1 hu (z4c (hT.on hb)));have HW:=Qh (Below.refl w.heap.size w);clear hs hE hX hT;by_cases n1:s=⟨#[110,97,110]⟩
 ·subst n1;go_in;go_wp2_with fail;refine(Sm.zbx _).mono ?_;rintro e w1 ⟨rfl,rfl⟩;go_wp2_with fail;go_ret2;exact RdR.of _ 0 rfl zaZ HW.out
 ·have q1:(s.toList==[110,97,110])=false:=z23 n1 (by rw[ByteArray.toList_eq])
  by_cases n2:s=⟨#[105,110,102]⟩
  ·subst n2;go_in;go_wp2_with fail;refine(Sm.zbX _).mono ?_;rintro e w1 ⟨rfl,rfl⟩;go_wp2_with fail;go_ret2;exact RdR.of _ 0 rfl zb0 HW.out
  ·have q2:(s.toList==[105,110,102])=false:=z23 n2 (by rw[ByteArray.toList_eq])
   by_cases n3:s=⟨#[45,105,110,102]⟩
   ·subst n3;go_in;go_wp2_with fail;refine(Sm.z6v _).mono ?_;rintro e w1 ⟨rfl,rfl⟩;go_wp2_with fail;go_ret2;exact RdR.of _ 0 rfl z8m HW.out
   ·have q3:(s.toList==[45,105,110,102])=false:=z23 n3 (by rw[ByteArray.toList_eq])
    have HN:=Qh (Qa n1 (Qa n2 n3));clear n1 n2 n3;go_in;go_wp2_with fail;refine HA.mono ?_;rintro e w1 ⟨⟨f,v,rfl,hq⟩,hb⟩;have HQ:=Qh (Qa hq.out hb);clear hq hb;have HU:RowKit.Hid (f<18446744073709551616/\∀u,Rds s u->f=u):=Qh ⟨HQ.1.1,fun u hu=>(HQ.1.2.2 u hu).1⟩;have HB1:=Qh HQ.2;have hv:=HQ.1.2.1;have hU2:∀u,Rds s u->v=.nilIface:=fun u hu=>(HQ.1.2.2 u hu).2;clear HQ;rcases hv with rfl|⟨N,rfl⟩
    ·clear hU2
     have HTx:=Qh (HT.out f w1 HU.1 HB1.out);go_wp2_with fail;refine HTx.mono ?_;rintro e w2 ⟨rfl,hb2⟩;have HB2:=Qh (HB1.trans (hb2.mono HB1.size));clear hb2;by_cases ht:txt f=s
     ·have ht1:((txt f).toList==s.toList)=true:=by rw[ht];simp
      have ht2:((txt f).toList != s.toList)=false:=(by rw[ht];simp);have HTT:=Qh ht;clear ht;have hgood:=Qh (z8n HN.1 HN.2.1 HN.2.2 HU.1 HU.2 HTT.out);generalize txt f=tx at*
      go_wp2_with fail;go_ret2;exact RdR.of f 0 rfl hgood.out HB2.out
     ·have ht1:((txt f).toList==s.toList)=false:=by rw[beq_eq_false_iff_ne];exact fun e=>ht (z2S e)
      have ht2:((txt f).toList != s.toList)=true:=(by rw[bne_iff_ne];exact fun e=>ht (z2S e));have HTT:=Qh ht;clear ht;have hbad:RowKit.Hid (RrOk s 0 66):=Qh (z34 fun u hu e=>by
       obtain⟨h1,-,-,-⟩:=z0V hu HN.1 HN.2.1 HN.2.2 e;have:=HU.2 u h1;exact HTT.out (by rw[this];exact e.symm))
      generalize txt f=tx at*
      go_wp2_with fail;go_ret2;exact RdR.of 0 66 rfl hbad.out HB2.out
    ·have hne:∀W:World,(binOp .neq 145 (.iface 187 (.pointer (some ⟨N,0,none⟩))) .nilIface).run Tryz.prog W=.ok (.bool true) W:=fun W=>by first|rfl|kernel_rfl
     have hbad:RowKit.Hid (RrOk s 0 66):=Qh (z34 fun u hu e=>by
      obtain⟨h1,-,-,-⟩:=z0V hu HN.1 HN.2.1 HN.2.2 e;have:=hU2 u h1;cases this)
     clear hU2;go_wp2_with fail;go_ret2;exact RdR.of 0 66 rfl hbad.out HB1.out
end Go.Proofs.YtkkecpamnnojoaaGreatDoor
