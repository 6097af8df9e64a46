/- A part of the proof of ScriptParses: nothing is assumed. By an AI agent. -/
import Derived.Test.YtkkecpamnnojoaaGreatDoorBz05
set_option linter.unusedVariables false
set_option linter.unusedSimpArgs false
set_option maxRecDepth 100000
set_option maxHeartbeats 32000000
namespace Go.Proofs.YtkkecpamnnojoaaGreatDoor
open Go.ChangeShapes Go.WideShapes Go.ChangeAt Go.RowKit
open Bt
theorem zeb(s:ByteArray)(h:0<s.size):Bs s=ch s 0::(Bs s).drop 1:=by have:=qF s 0 h;rw[List.drop_zero]at this;exact this
theorem zaU(s:ByteArray)(h:0<s.size):Us.qW (Bs s)=(decide (ch s 0=45),(Bs s).drop (if ch s 0=43\/ch s 0=45 then 1 else 0)):=by
 have e:=zeb s h;by_cases h1:ch s 0=43
 ·rw[if_pos (Or.inl h1),decide_eq_false (by omega)];rw[h1]at e;rw[e];rfl
 ·by_cases h2:ch s 0=45
  ·rw[if_pos (Or.inr h2),decide_eq_true h2];rw[h2]at e;rw[e];rfl
  ·rw[if_neg (by omega),decide_eq_false h2,List.drop_zero]
   rw[e];unfold Us.qW;split
   ·next h=>injection h with h _;omega
   ·next h=>injection h with h _;omega
   ·rfl
theorem zdA(s:ByteArray)(i:Nat)(h:i+2<s.size):Us.hxL ((Bs s).drop i)=(decide (ch s (i:Int)=48)&&decide (Us.yh (ch s ((i:Int)+1))=120)):=by have e:=qF s i (by omega);have e1:=qF s (i+1) (by omega);have hl:((Bs s).drop i).length=s.size-i:=(by rw[List.length_drop,xc]);unfold Us.hxL;rw[decide_eq_true (show 2<((Bs s).drop i).length by omega),Bool.true_and,e,e1];rfl
theorem zbZ(s:ByteArray)(i:Nat)(h:¬i+2<s.size):Us.hxL ((Bs s).drop i)=false:=by have hl:((Bs s).drop i).length=s.size-i:=(by rw[List.length_drop,xc]);unfold Us.hxL;rw[decide_eq_false (show¬2<((Bs s).drop i).length by omega),Bool.false_and,Bool.false_and]
theorem zcW{h:Bool}{σ:Us.Rs}{s:ByteArray}{i:Nat}(hi:i<s.size)(hb:Us.brk h σ (ch s (i:Int))=false):Us.zW h σ ((Bs s).drop i)=Us.zW h (Us.stp h σ (ch s (i:Int))) ((Bs s).drop (i+1)):=by rw[qF s i hi];show(if Us.brk h σ (ch s (i:Int))=true then _ else _)=_;rw[if_neg (by rw[hb];simp)]
theorem z9g{h:Bool}{σ:Us.Rs}{s:ByteArray}{i:Nat}(hi:i<s.size)(hb:Us.brk h σ (ch s (i:Int))=true):Us.zW h σ ((Bs s).drop i)=(σ,(Bs s).drop i):=by rw[qF s i hi];show(if Us.brk h σ (ch s (i:Int))=true then _ else _)=_;rw[if_pos hb]
theorem z0F{s:ByteArray}{i:Nat}(hi:s.size<=i):(Bs s).drop i=[]:=List.drop_of_length_le (by rw[xc];exact hi)
theorem z4g{h:Bool}{σ:Us.Rs}{s:ByteArray}{i:Nat}(hi:s.size<=i):Us.zW h σ ((Bs s).drop i)=(σ,(Bs s).drop i):=by rw[z0F hi];rfl
theorem zaq{h:Bool}{k k':Nat}{σ:Us.Rs}(H:Us.RsOk h k σ)(hk:k<=k'):Us.RsOk h k' σ:=⟨H.nm,H.nd,Nat.le_trans H.kk hk,H.m,by have:=H.lo;omega,by have:=H.hi;omega⟩
theorem _root_.Go.Proofs.YtkkecpamnnojoaaGreatDoor.Us.RsOk.mono{h:Bool}{k k':Nat}{σ:Us.Rs}(H:Us.RsOk h k σ)(hk:k<=k'):Us.RsOk h k' σ:=zaq H hk
theorem yI{F:Option Us.Ro}{n k:Nat}{neg h:Bool}{σ τ:Us.Rs}{s:ByteArray}(hi:k<s.size)(H:F=Us.rdT n neg h (Us.zW h σ ((Bs s).drop k)))(hb:Us.brk h σ (ch s (k:Int))=false)(ho:Us.RsOk h k σ)(hs:Us.stp h σ (ch s (k:Int))=τ):
  F=Us.rdT n neg h (Us.zW h τ ((Bs s).drop (k+1)))/\Us.RsOk h (k+1) τ:=by
 have h2:=Us.zaL ho hb;rw[zcW hi hb]at H;rw[hs]at H h2;exact⟨H,h2⟩
theorem z0i{F:Option Us.Ro}{n k:Nat}{neg h:Bool}{σ:Us.Rs}{s:ByteArray}(hi:k<s.size)(H:F=Us.rdT n neg h (Us.zW h σ ((Bs s).drop k)))(hb:Us.brk h σ (ch s (k:Int))=true):
  F=Us.rdT n neg h (σ,(Bs s).drop k):=by
 rw[z9g hi hb]at H;exact H
theorem z3g{B N m nm:Nat}(h:m<B^nm)(h1:nm<N)(hB:B^N<=18446744073709551616)(hB1:1<=B:=by decide):B*m+B<=18446744073709551616:=by have h2:B*(m+1)<=B*B^nm:=Nat.mul_le_mul_left _ h;rw[<-Nat.pow_succ',Nat.mul_succ]at h2;exact Nat.le_trans h2 (Nat.le_trans (Nat.pow_le_pow_right hB1 h1) hB)
theorem zew(s:ByteArray)(i:Nat)(h:i<s.size):Us.qW ((Bs s).drop i)=(decide (ch s (i:Int)=45),(Bs s).drop (if ch s (i:Int)=43\/ch s (i:Int)=45 then i+1 else i)):=by
 have e:=qF s i h;by_cases h1:ch s (i:Int)=43
 ·rw[if_pos (Or.inl h1),decide_eq_false (by omega)];rw[h1]at e;rw[e];rfl
 ·by_cases h2:ch s (i:Int)=45
  ·rw[if_pos (Or.inr h2),decide_eq_true h2];rw[h2]at e;rw[e];rfl
  ·rw[if_neg (by omega),decide_eq_false h2,e]
   unfold Us.qW;split
   ·next h=>injection h with h _;omega
   ·next h=>injection h with h _;omega
   ·rfl
theorem z69{n:Nat}{neg h:Bool}{σ:Us.Rs}{rest r':List Nat}{ev:Int}{us2:Bool}(hs:σ.saw=true)(he:Us.z1X h rest=some (ev,us2,r')):Us.rdT n neg h (σ,rest)=some ⟨σ.m,if σ.m=0 then 0 else Us.dpS h σ+ev-Us.nmS h σ,neg,σ.tr,h,n-r'.length,σ.us||us2⟩:=by unfold Us.rdT;rw[if_neg (by simp[hs])];simp only[he]
theorem z1G{n:Nat}{neg h:Bool}{σ:Us.Rs}{rest:List Nat}(he:σ.saw=false\/Us.z1X h rest=none):Us.rdT n neg h (σ,rest)=none:=by
 unfold Us.rdT;by_cases hs:σ.saw=false
 ·rw[if_pos hs]
 ·rw[if_neg hs]
  rcases he with he|he
  ·exact absurd he hs
  ·simp only[he]
theorem zdG{h:Bool}{s:ByteArray}{k:Nat}(hg:¬(k<s.size/\Us.yh (ch s (k:Int))=Us.z3x h)):Us.z1X h ((Bs s).drop k)=if h then none else some (0,false,(Bs s).drop k):=by
 by_cases hk:k<s.size
 ·rw[qF s k hk];unfold Us.z1X;simp only;rw[if_neg (fun e=>hg ⟨hk,e⟩)]
 ·rw[z0F (by omega)];rfl
theorem z6H{h:Bool}{s:ByteArray}{k:Nat}(hk:k<s.size)(hg:Us.yh (ch s (k:Int))=Us.z3x h){b:Bool}{i:Nat}(hs:Us.qW ((Bs s).drop (k+1))=(b,(Bs s).drop i)):
  (¬(i<s.size/\48<=ch s (i:Int)/\ch s (i:Int)<=57)->Us.z1X h ((Bs s).drop k)=none)/\
  (i<s.size/\48<=ch s (i:Int)/\ch s (i:Int)<=57->Us.z1X h ((Bs s).drop k)=some ((if b then-((Us.xj 0 false ((Bs s).drop i)).1:Int)else((Us.xj 0 false ((Bs s).drop i)).1:Int)),(Us.xj 0 false ((Bs s).drop i)).2.1,(Us.xj 0 false ((Bs s).drop i)).2.2)):=by
 rw[qF s k hk];unfold Us.z1X;simp only;rw[if_pos hg,hs];simp only;constructor
 ·intro hn
  rw[if_neg];rintro⟨h1,h2⟩;by_cases hi:i<s.size
  ·rw[qF s i hi]at h2;have h3:Us.isD (ch s (i:Int))=true:=h2;exact hn ⟨hi,of_decide_eq_true h3⟩
  ·exact h1 (z0F (by omega))
 ·rintro⟨hi,hd⟩;rw[if_pos];rw[qF s i hi];exact⟨by simp,decide_eq_true hd⟩
theorem zaW{e:Nat}{us:Bool}{s:ByteArray}{i:Nat}(hi:i<s.size):Us.xj e us ((Bs s).drop i)=(if ch s (i:Int)=95 then Us.xj e true ((Bs s).drop (i+1))else if Us.isD (ch s (i:Int))then Us.xj (if e<10000 then 10*e+(ch s (i:Int)-48)else e) us ((Bs s).drop (i+1))else(e,us,(Bs s).drop i)):=by rw[qF s i hi];rfl
theorem z7m{e:Nat}{us:Bool}{s:ByteArray}{i:Nat}(hi:s.size<=i):Us.xj e us ((Bs s).drop i)=(e,us,(Bs s).drop i):=by rw[z0F hi];rfl
theorem z4O{s:ByteArray}{i:Nat}(hi:i<=s.size):s.size-((Bs s).drop i).length=i:=by rw[List.length_drop,xc];omega
theorem za6{e c e2:Nat}(he:e<10000)(hc:48<=c/\c<=57)(h2:e2=10*e+(c-48)):wrap64 ((e:Int)*10)=(e:Int)*10/\wrap64 (c:Int)=(c:Int)/\wrap64 ((e:Int)*10+(c:Int))=(e:Int)*10+(c:Int)/\wrap64 ((e:Int)*10+(c:Int)-48)=(e2:Int)/\e2<100000:=by unfold wrap64;omega
theorem z7h{e:Nat}{z D:Int}{b:Bool}(hz:z=if b then-1 else 1)(he:e<100000)(hD:-4294967296<=D/\D<=4294967296):∃ev:Int,ev=(if b then-(e:Int)else(e:Int))/\wrap64 ((e:Int)*z)=ev/\wrap64 (D+ev)=D+ev/\ -100000<=ev/\ev<=100000:=by refine⟨_,rfl,?_⟩;subst hz;cases b<;>simp<;>unfold wrap64<;>omega
theorem z4y{c:Nat}(h:c<48):Us.yh c<97:=by have:∀c:Fin 48,Us.yh c.val<97:=(by decide);exact this ⟨c,h⟩
structure RdQ (s:ByteArray) (m:Nat) (p:Int) (neg tr hex:Bool) (i:Nat) (ok:Bool):Prop where
 hi:i<=s.size
 hm:m<18446744073709551616
 no:ok=false->Us.rdF (Bs s)=none\/∃o,Us.rdF (Bs s)=some o/\o.us=true
 yes:ok=true->∃us,Us.rdF (Bs s)=some ⟨m,p,neg,tr,hex,i,us⟩
def RdE(s:ByteArray)(w:World)(e:Ending)(w':World):Prop:=(∃(m:Nat) (p:Int) (neg tr hex:Bool) (i:Nat) (ok:Bool),e=.returned (.tuple #[.int .u64 (m:Int),.int .i64 p,.bool neg,.bool tr,.bool hex,.int .i64 (i:Int),.bool ok])/\RdQ s m p neg tr hex i ok)/\∃n,w'=w.drewN n
theorem RdE.no{s:ByteArray}{w w':World}{e:Ending}(m i:Nat)(p:Int)(neg tr hex:Bool)(he:e=.returned (.tuple #[.int .u64 (m:Int),.int .i64 p,.bool neg,.bool tr,.bool hex,.int .i64 (i:Int),.bool false]))(hm:m<18446744073709551616)(hi:i<=s.size)(h:Us.rdF (Bs s)=none\/∃o,Us.rdF (Bs s)=some o/\o.us=true)(hw:∃n,w'=w.drewN n):RdE s w e w':=
 ⟨⟨m,p,neg,tr,hex,i,false,he,⟨hi,hm,fun _=>h,fun h=>by cases h⟩⟩,hw⟩
theorem RdE.yes{s:ByteArray}{w w':World}{e:Ending}(m i:Nat)(p:Int)(neg tr hex us:Bool)(he:e=.returned (.tuple #[.int .u64 (m:Int),.int .i64 p,.bool neg,.bool tr,.bool hex,.int .i64 (i:Int),.bool true]))(hm:m<18446744073709551616)(hi:i<=s.size)(h:Us.rdF (Bs s)=some ⟨m,p,neg,tr,hex,i,us⟩)(hw:∃n,w'=w.drewN n):RdE s w e w':=
 ⟨⟨m,p,neg,tr,hex,i,true,he,⟨hi,hm,(fun h=>by cases h),fun _=>⟨us,h⟩⟩⟩,hw⟩
theorem yq{fn:Func}{t1 t2 t3 t4 t5 t6 t7:Tmp}(h:fn.results=#[.tmp t1,.tmp t2,.tmp t3,.tmp t4,.tmp t5,.tmp t6,.tmp t7])(tmps:Array Value)(P:Program)(w:World):
  (results fn tmps).run P w=.ok (.tuple #[tmps.getD t1 undef,tmps.getD t2 undef,tmps.getD t3 undef,tmps.getD t4 undef,tmps.getD t5 undef,tmps.getD t6 undef,tmps.getD t7 undef]) w:=by
 simp[results,h]
theorem zbf{s:ByteArray}(h:s.size=0):Us.rdF (Bs s)=none:=by have:Bs s=[]:=List.length_eq_zero_iff.1 (by rw[xc];exact h);rw[this];rfl
theorem zbe{s:ByteArray}{neg:Bool}{i:Nat}(h0:0<s.size)(h:Us.qW (Bs s)=(neg,(Bs s).drop i)):
  Us.rdF (Bs s)=Us.rdT s.size neg (Us.hxL ((Bs s).drop i)) (Us.zW (Us.hxL ((Bs s).drop i)) Us.rs0 ((Bs s).drop (if Us.hxL ((Bs s).drop i)then i+2 else i))):=by
 unfold Us.rdF;rw[if_neg (by intro e;have:=xc s;rw[e]at this;simp at this;omega),h,xc];simp only
 congr 2
 split
 ·rw[List.drop_drop]
 ·rfl
theorem zbc(s:ByteArray)(w:World)(hs:s.size<=1073741824):Calls Tryz.prog 182 #[.string s] w (RdE s w):=by
 have HS:=Qh hs;have HL:=Qh (fun(c:Nat) (w:World) (h:c<256)=>z5h c w h);clear hs;by_cases h0:s.size=0
 ·have h0':((s.size:Nat):Int)=0:=by omega
  have HZ:=Qh h0;clear h0;go_in;go_wp2_with fail;go_step3;go_wp2_with fail
  ((try simp only[Exit.inBlock,Exit.then]);(try rw[Exit.noGoto_ret]);refine bodyPost_ret (yq rfl _ _ _) rfl ?_)
  exact RdE.no 0 0 0 false false false rfl (by omega) (Nat.zero_le _) (Or.inl (zbf HZ.out)) ⟨0,rfl⟩
 have h0':0<((s.size:Nat):Int):=(by omega);have h0n:0<s.size:=(by omega);have h0b:¬s.size=0:=(by omega);have h0c:¬((s.size:Nat):Int)=0:=(by omega);have HZ:=Qh h0n;clear h0;go_in;go_wp2_with fail;go_step3;go_upto_block 0 with fail;go_cut[4,7]from 24 to 35 (fun s4 s7 wx=>∃(neg:Bool) (i:Nat),s4=.bool neg/\s7=.int .i64 (i:Int)/\RowKit.Hid (Us.qW (Bs s)=(neg,(Bs s).drop i)/\i<=1/\∃n,wx=w.drewN n))
 case first=>
  have hsg:=zaU s h0n;by_cases c1:ch s 0=43
  ·rw[if_pos (Or.inl c1),decide_eq_false (by omega)]at hsg;have HG:=Qh hsg;have c1':((ch s 0:Nat):Int)=43:=(by omega);clear hsg c1;go_wp2_with fail;go_meet;exact⟨false,1,rfl,rfl,⟨HG.out,by omega,0,rfl⟩⟩
  ·by_cases c2:ch s 0=45
   ·rw[if_pos (Or.inr c2),decide_eq_true c2]at hsg;have HG:=Qh hsg;have c2':((ch s 0:Nat):Int)=45:=(by omega);clear hsg c1 c2;go_wp2_with fail;go_meet;exact⟨true,1,rfl,rfl,⟨HG.out,by omega,0,rfl⟩⟩
   ·rw[if_neg (by omega),decide_eq_false c2]at hsg;have HG:=Qh hsg;have c1':(((ch s 0:Nat):Int)==43)=false:=Qb (by omega);have c2':(((ch s 0:Nat):Int)==45)=false:=Qb (by omega);clear hsg c1 c2;go_wp2_with fail;go_meet;exact⟨false,0,rfl,rfl,⟨HG.out,by omega,0,rfl⟩⟩
 case rest=>
  obtain⟨neg,i,rfl,rfl,HG⟩:=hcut;generalize wc=w1 at*
  have HST:=Qh (zbe h0n HG.1);go_upto_region 12 with fail;go_cut[54]from 36 to 54 (fun s54 wx=>∃h:Bool,s54=.bool h/\RowKit.Hid (h=Us.hxL ((Bs s).drop i)/\(h=true->i+2<s.size)/\∃n,wx=w.drewN n))
  case first=>
   have hi1:=HG.2.1;have hw2:wrap64 ((i:Int)+2)=((i+2:Nat):Int):=(by unfold wrap64;omega);have hw1:wrap64 ((i:Int)+1)=((i+1:Nat):Int):=(by unfold wrap64;omega);clear hi1;by_cases h2:i+2<s.size
   ·have hx:=zdA s i h2
    have k0:(i:Int)<((s.size:Nat):Int):=(by omega);have k1:(i:Int)+1<((s.size:Nat):Int):=(by omega);have k1p:(0:Int)<=(i:Int)+1:=(by omega);have k2:(i:Int)+2<((s.size:Nat):Int):=(by omega);have H2:=Qh h2;clear h2;by_cases c0:ch s (i:Int)=48
    ·have c0':((ch s (i:Int):Nat):Int)=48:=by omega
     by_cases c1:Us.yh (ch s ((i:Int)+1))=120
     ·have c1':((Us.yh (ch s ((i:Int)+1)):Nat):Int)=120:=(by omega);rw[c0,c1]at hx;have HX:=Qh hx;clear hx c0 c1;go_wp2_with(go_at_call 151;refine(HL.out _ _ (yU _ _)).mono ?_;rintro e w' ⟨rfl,rfl⟩);go_meet;exact⟨true,rfl,⟨by rw[HX.out];rfl,fun _=>H2.out,HG.2.2⟩⟩
     ·have c1':(((Us.yh (ch s ((i:Int)+1)):Nat):Int)==120)=false:=Qb (by omega);rw[c0,decide_eq_false c1,Bool.and_false]at hx;have HX:=Qh hx;clear hx c0 c1;go_wp2_with(go_at_call 151;refine(HL.out _ _ (yU _ _)).mono ?_;rintro e w' ⟨rfl,rfl⟩);go_meet;exact⟨false,rfl,⟨HX.symm,(fun h=>by cases h),HG.2.2⟩⟩
    ·have c0':(((ch s (i:Int):Nat):Int)==48)=false:=Qb (by omega);rw[decide_eq_false c0,Bool.false_and]at hx;have HX:=Qh hx;clear hx c0;go_wp2_with(go_at_call 151;refine(HL.out _ _ (yU _ _)).mono ?_;rintro e w' ⟨rfl,rfl⟩);go_meet;exact⟨false,rfl,⟨HX.symm,(fun h=>by cases h),HG.2.2⟩⟩
   ·have HX:=Qh (zbZ s i h2);have k2:¬(i:Int)+2<((s.size:Nat):Int):=(by omega);clear h2;go_wp2_with fail;go_meet;exact⟨false,rfl,⟨HX.symm,(fun h=>by cases h),HG.2.2⟩⟩
  case rest=>
   obtain⟨h,rfl,HH⟩:=hcut;generalize wc=w2 at*
   go_upto_if 54 with fail;go_cut[6,7,10,11,12]from 55 to 56 (fun s6 s7 s10 s11 s12 wx=>∃j:Nat,s6=.bool h/\s7=.int .i64 (j:Int)/\s10=.int .u64 ((Us.bse h:Nat):Int)/\s11=.int .i64 ((Us.mxd h:Nat):Int)/\s12=.int .u8 ((Us.z3x h:Nat):Int)/\RowKit.Hid (Us.rdF (Bs s)=Us.rdT s.size neg h (Us.zW h Us.rs0 ((Bs s).drop j))/\j<=s.size/\∃n,wx=w.drewN n))
   case first=>
    have hi1:=HG.2.1;have hw2:wrap64 ((i:Int)+2)=((i+2:Nat):Int):=(by unfold wrap64;omega);clear hi1;cases h
    ·go_wp2_with fail;go_meet;refine⟨i,rfl,rfl,rfl,rfl,rfl,?_,by have:=HZ.out;have:=HG.2.1;omega,HH.2.2⟩;have:=HST.out;rw[<-HH.1]at this;exact this
    ·go_wp2_with fail;go_meet;refine⟨i+2,rfl,by first|rfl|rw[hw2],rfl,rfl,rfl,?_,by have:=HH.2.1 (by simp);omega,HH.2.2⟩;have:=HST.out;rw[<-HH.1]at this;exact this
   case rest=>
    obtain⟨j,rfl,rfl,rfl,rfl,rfl,HJ⟩:=hcut;generalize wc=w3 at*
    clear HH HST HG;go_wp2_with fail;go_step3;go_upto_block 1 with fail;go_cut[2,5,7,9,13,14,15,16,17]from 57 to 138 (fun s2 s5 s7 s9 s13 s14 s15 s16 s17 wx=>∃(us dot saw tr:Bool) (nd nm m:Nat) (dp:Int) (k:Nat),s2=.int .u64 (m:Int)/\s5=.bool tr/\s7=.int .i64 (k:Int)/\s9=.bool us/\s13=.bool dot/\s14=.bool saw/\s15=.int .i64 (nd:Int)/\s16=.int .i64 (nm:Int)/\s17=.int .i64 dp/\RowKit.Hid (Us.rdF (Bs s)=Us.rdT s.size neg h (⟨us,dot,saw,tr,nd,nm,m,dp⟩,(Bs s).drop k)/\k<=s.size/\Us.RsOk h s.size ⟨us,dot,saw,tr,nd,nm,m,dp⟩/\∃n,wx=w.drewN n))
    case first=>
     cases h
     ·simp only[show((Us.bse false:Nat):Int)=10 from rfl,show((Us.mxd false:Nat):Int)=19 from rfl,show((Us.z3x false:Nat):Int)=101 from rfl]
      go_wp2_with fail;go_loopg[2,5,7,9,13,14,15,16,17] (s.size-j) (fun gq s2 s5 s7 s9 s13 s14 s15 s16 s17 wx=>∃(us dot saw tr:Bool) (nd nm m:Nat) (dp:Int) (k:Nat),gq+k=s.size/\s2=.int .u64 (m:Int)/\s5=.bool tr/\s7=.int .i64 (k:Int)/\s9=.bool us/\s13=.bool dot/\s14=.bool saw/\s15=.int .i64 (nd:Int)/\s16=.int .i64 (nm:Int)/\s17=.int .i64 dp/\RowKit.Hid (Us.rdF (Bs s)=Us.rdT s.size neg false (Us.zW false ⟨us,dot,saw,tr,nd,nm,m,dp⟩ ((Bs s).drop k))/\Us.RsOk false k ⟨us,dot,saw,tr,nd,nm,m,dp⟩/\∃n,wx=w.drewN n))
      case atStart=>exact⟨false,false,false,false,0,0,0,0,j,by have:=HJ.2.1;omega,rfl,rfl,rfl,rfl,rfl,rfl,rfl,rfl,rfl,⟨HJ.1,(Us.z7o false).mono (Nat.zero_le _),HJ.2.2⟩⟩
      case round=>
      obtain⟨us,dot,saw,tr,nd,nm,m,dp,k,hgk,rfl,rfl,rfl,rfl,rfl,rfl,rfl,rfl,rfl,HR⟩:=hrel;by_cases hi:k<s.size
      ·have hi':(k:Int)<((s.size:Nat):Int):=by omega
       have HI:=Qh hi;have hw1:wrap64 ((k:Int)+1)=((k+1:Nat):Int):=(by have:=HS.out;unfold wrap64;omega);have HBd:=Qh (show nd<=k/\nm<=nd/\ -(k:Int)<=dp/\dp<=k/\m<10^nm/\nm<=19 from⟨HR.2.1.kk,HR.2.1.nd,HR.2.1.lo,HR.2.1.hi,HR.2.1.m,HR.2.1.nm⟩);have hm':True:=trivial;by_cases c1:ch s (k:Int)=95
       ·have hn:=yI hi HR.1 (by unfold Us.brk;rw[if_pos c1]) HR.2.1 (τ:=⟨true,dot,saw,tr,nd,nm,m,dp⟩) (by unfold Us.stp;rw[if_pos c1])
        have HN:=Qh hn;have c1':((ch s (k:Int):Nat):Int)=95:=(by omega);clear hn c1;go_wp2_with fail;go_roundg(gk-1)
        case measure=>omega
        case rel=>exact⟨true,dot,saw,tr,nd,nm,m,dp,k+1,by omega,by first|rfl|(go_num;done)|(rw[hm'];done)|simp[hm'],rfl,by first|rfl|(go_num;done),rfl,rfl,rfl,by first|rfl|(go_num;done),by first|rfl|(go_num;done),by first|rfl|(go_num;done),⟨HN.1,HN.2,HR.2.2⟩⟩
       by_cases c2:ch s (k:Int)=46
       ·have c1':(((ch s (k:Int):Nat):Int)==95)=false:=Qb (by omega)
        have c2':((ch s (k:Int):Nat):Int)=46:=(by omega);cases dot
        ·have hn:=yI hi HR.1 (by unfold Us.brk;rw[if_neg c1,if_pos c2]) HR.2.1 (τ:=⟨us,true,saw,tr,nd,nm,m,(nd:Int)⟩) (by unfold Us.stp;rw[if_neg c1,if_pos c2])
         have HN:=Qh hn;clear hn c1 c2;go_wp2_with fail;go_roundg(gk-1)
         case measure=>omega
         case rel=>exact⟨us,true,saw,tr,nd,nm,m,(nd:Int),k+1,by omega,by first|rfl|(go_num;done)|(rw[hm'];done)|simp[hm'],rfl,by first|rfl|(go_num;done),rfl,rfl,rfl,by first|rfl|(go_num;done),by first|rfl|(go_num;done),by first|rfl|(go_num;done),⟨HN.1,HN.2,HR.2.2⟩⟩
        ·have hn:=z0i hi HR.1 (by unfold Us.brk;rw[if_neg c1,if_pos c2]);have HN:=Qh hn;clear hn c1 c2;go_wp2_with fail;go_meet;exact⟨us,true,saw,tr,nd,nm,m,dp,k,rfl,rfl,rfl,rfl,rfl,rfl,rfl,rfl,rfl,⟨HN.out,by have:=HI.out;omega,HR.2.1.mono (by have:=HI.out;omega),HR.2.2⟩⟩
       have c1':(((ch s (k:Int):Nat):Int)==95)=false:=Qb (by omega);have c2':(((ch s (k:Int):Nat):Int)==46)=false:=Qb (by omega);by_cases c3:48<=ch s (k:Int)/\ch s (k:Int)<=57
       ·have hD:Us.isD (ch s (k:Int))=true:=decide_eq_true c3
        have c3a:(48:Int)<=((ch s (k:Int):Nat):Int):=(by omega);have c3b:((ch s (k:Int):Nat):Int)<=57:=(by omega);by_cases c4:ch s (k:Int)=48/\nd=0
        ·obtain⟨c4a,c4b⟩:=c4
         subst c4b;have hn:=yI hi HR.1 (by unfold Us.brk;rw[if_neg c1,if_neg c2,if_pos hD]) HR.2.1 (τ:=⟨us,dot,true,tr,0,nm,m,dp-1⟩) (by unfold Us.stp;rw[if_neg c1,if_neg c2,if_pos hD,if_pos ⟨c4a,rfl⟩]);have HN:=Qh hn;have c4':((ch s (k:Int):Nat):Int)=48:=(by omega);have hw3:wrap64 (dp-1)=dp-1:=(by have:=HBd.out;have:=HI.out;have:=HS.out;unfold wrap64;omega);clear hn c1 c2 c3 hD;go_wp2_with fail;go_roundg(gk-1)
         case measure=>omega
         case rel=>exact⟨us,dot,true,tr,0,nm,m,dp-1,k+1,by omega,by first|rfl|(go_num;done)|(rw[hm'];done)|simp[hm'],rfl,by first|rfl|(go_num;done),rfl,rfl,rfl,by first|rfl|(go_num;done),by first|rfl|(go_num;done),by first|rfl|(go_num;done),⟨HN.1,HN.2,HR.2.2⟩⟩
        ·have hw3:wrap64 ((nd:Int)+1)=((nd+1:Nat):Int):=by have:=HBd.out;have:=HI.out;have:=HS.out;unfold wrap64;omega
         have hw4:wrap64 ((nm:Int)+1)=((nm+1:Nat):Int):=(by have:=HBd.out;have:=HI.out;have:=HS.out;unfold wrap64;omega);have c4t:Us.stp false ⟨us,dot,saw,tr,nd,nm,m,dp⟩ (ch s (k:Int))=(if nm<Us.mxd false then⟨us,dot,true,tr,nd+1,nm+1,Us.bse false*m+(ch s (k:Int)-48),dp⟩else⟨us,dot,true,tr|| !decide (ch s (k:Int)=48),nd+1,nm,m,dp⟩):=(by unfold Us.stp;rw[if_neg c1,if_neg c2,if_pos hD,if_neg c4]);have hbk:Us.brk false ⟨us,dot,saw,tr,nd,nm,m,dp⟩ (ch s (k:Int))=false:=(by unfold Us.brk;rw[if_neg c1,if_neg c2,if_pos hD]);by_cases c5:nm<19
         ·have c5':(nm:Int)<19:=by omega
          have hmB:=z3g (B:=10) (N:=19) HBd.2.2.2.2.1 c5 (by decide);have e2:IntKind.u64.wrap ((m:Int)*10)=(m:Int)*10:=(by rw[IntKind.wrap_u64];omega);by_cases c48:ch s (k:Int)=48
          ·have c48':((ch s (k:Int):Nat):Int)=48:=by omega
           have n0:((nd:Int)==0)=false:=Qb (by omega);have hn:=yI hi HR.1 (hbk) HR.2.1 (τ:=⟨us,dot,true,tr,nd+1,nm+1,10*m,dp⟩) (by rw[c4t,if_pos (show nm<Us.mxd false from c5),c48];rfl);have HN:=Qh hn;clear hn c1 c2 c3 c4 hD c4t hbk hmB c48;go_wp2_with fail;go_roundg(gk-1)
           case measure=>omega
           case rel=>exact⟨us,dot,true,tr,nd+1,nm+1,10*m,dp,k+1,by omega,by first|rfl|(go_num;done)|(rw[hm'];done)|simp[hm'],rfl,by first|rfl|(go_num;done),rfl,rfl,rfl,by first|rfl|(go_num;done),by first|rfl|(go_num;done),by first|rfl|(go_num;done),⟨HN.1,HN.2,HR.2.2⟩⟩
          ·have c48':(((ch s (k:Int):Nat):Int)==48)=false:=Qb (by omega)
           obtain⟨m1,hm1⟩:∃m1,m1=10*m+(ch s (k:Int)-48):=⟨_,rfl⟩;have e1:IntKind.u8.wrap (((ch s (k:Int):Nat):Int)-48)=((ch s (k:Int):Nat):Int)-48:=(by have:=yU s (k:Int);rw[IntKind.wrap_u8];omega);have e3:IntKind.u64.wrap (((ch s (k:Int):Nat):Int)-48)=((ch s (k:Int):Nat):Int)-48:=(by have:=yU s (k:Int);rw[IntKind.wrap_u64];omega);have e4:IntKind.u64.wrap ((m:Int)*10+(((ch s (k:Int):Nat):Int)-48))=(m1:Int):=(by rw[IntKind.wrap_u64];omega);have hn:=yI hi HR.1 (hbk) HR.2.1 (τ:=⟨us,dot,true,tr,nd+1,nm+1,m1,dp⟩) (by rw[c4t,if_pos (show nm<Us.mxd false from c5),hm1];rfl);have HN:=Qh hn;have HM1:=Qh hm1;clear hn hm1 c1 c2 c3 c4 hD c4t hbk hmB c48;go_wp2_with fail;go_roundg(gk-1)
           case measure=>omega
           case rel=>exact⟨us,dot,true,tr,nd+1,nm+1,m1,dp,k+1,by omega,by first|rfl|(go_num;done)|(rw[hm'];done)|simp[hm'],rfl,by first|rfl|(go_num;done),rfl,rfl,rfl,by first|rfl|(go_num;done),by first|rfl|(go_num;done),by first|rfl|(go_num;done),⟨HN.1,HN.2,HR.2.2⟩⟩
         ·have c5':¬(nm:Int)<19:=by omega
          by_cases c48:ch s (k:Int)=48
          ·have c48':((ch s (k:Int):Nat):Int)=48:=by omega
           have n0:((nd:Int)==0)=false:=Qb (by omega);have hn:=yI hi HR.1 (hbk) HR.2.1 (τ:=⟨us,dot,true,tr,nd+1,nm,m,dp⟩) (by rw[c4t,if_neg (show¬nm<Us.mxd false from c5),decide_eq_true c48,Bool.not_true,Bool.or_false]);have HN:=Qh hn;clear hn c1 c2 c3 c4 hD c4t hbk c48;go_wp2_with fail;go_roundg(gk-1)
           case measure=>omega
           case rel=>exact⟨us,dot,true,tr,nd+1,nm,m,dp,k+1,by omega,by first|rfl|(go_num;done)|(rw[hm'];done)|simp[hm'],rfl,by first|rfl|(go_num;done),rfl,rfl,rfl,by first|rfl|(go_num;done),by first|rfl|(go_num;done),by first|rfl|(go_num;done),⟨HN.1,HN.2,HR.2.2⟩⟩
          ·have c48':(((ch s (k:Int):Nat):Int)==48)=false:=Qb (by omega)
           have hn:=yI hi HR.1 (hbk) HR.2.1 (τ:=⟨us,dot,true,true,nd+1,nm,m,dp⟩) (by rw[c4t,if_neg (show¬nm<Us.mxd false from c5),decide_eq_false c48,Bool.not_false,Bool.or_true]);have HN:=Qh hn;clear hn c1 c2 c3 c4 hD c4t hbk c48;go_wp2_with fail;go_roundg(gk-1)
           case measure=>omega
           case rel=>exact⟨us,dot,true,true,nd+1,nm,m,dp,k+1,by omega,by first|rfl|(go_num;done)|(rw[hm'];done)|simp[hm'],rfl,by first|rfl|(go_num;done),rfl,rfl,rfl,by first|rfl|(go_num;done),by first|rfl|(go_num;done),by first|rfl|(go_num;done),⟨HN.1,HN.2,HR.2.2⟩⟩
       have hDf:Us.isD (ch s (k:Int))=false:=decide_eq_false c3;by_cases c6:ch s (k:Int)<48
       ·have c6':¬(48:Int)<=((ch s (k:Int):Nat):Int):=(by omega);have hlo:Us.yh (ch s (k:Int))<97:=z4y c6;have hlo':¬(97:Int)<=((Us.yh (ch s (k:Int)):Nat):Int):=(by omega);have hn:=z0i hi HR.1 (by unfold Us.brk Us.isX;rw[if_neg c1,if_neg c2,hDf,decide_eq_false (show¬(97<=Us.yh (ch s (k:Int))/\Us.yh (ch s (k:Int))<=102) by omega)];rfl);have HN:=Qh hn;clear hn c1 c2 c3 c6 hDf hlo;go_wp2_with fail;go_meet;exact⟨us,dot,saw,tr,nd,nm,m,dp,k,rfl,rfl,rfl,rfl,rfl,rfl,rfl,rfl,rfl,⟨HN.out,by have:=HI.out;omega,HR.2.1.mono (by have:=HI.out;omega),HR.2.2⟩⟩
       have c6a:(48:Int)<=((ch s (k:Int):Nat):Int):=(by omega);have c6b:¬((ch s (k:Int):Nat):Int)<=57:=(by omega);have hn:=z0i hi HR.1 (by unfold Us.brk Us.isX;rw[if_neg c1,if_neg c2,hDf];rfl);have HN:=Qh hn;clear hn c1 c2 c3 c6 hDf;go_wp2_with fail;go_meet;exact⟨us,dot,saw,tr,nd,nm,m,dp,k,rfl,rfl,rfl,rfl,rfl,rfl,rfl,rfl,rfl,⟨HN.out,by have:=HI.out;omega,HR.2.1.mono (by have:=HI.out;omega),HR.2.2⟩⟩
      ·have hi':¬(k:Int)<((s.size:Nat):Int):=(by omega);have hn:=HR.1;rw[z4g (by omega)]at hn;have HN:=Qh hn;have HI:=Qh hi;clear hn hi;go_wp2_with fail;go_meet;exact⟨us,dot,saw,tr,nd,nm,m,dp,k,rfl,rfl,rfl,rfl,rfl,rfl,rfl,rfl,rfl,⟨HN.out,by omega,HR.2.1.mono (by omega),HR.2.2⟩⟩
     ·simp only[show((Us.bse true:Nat):Int)=16 from rfl,show((Us.mxd true:Nat):Int)=16 from rfl,show((Us.z3x true:Nat):Int)=112 from rfl]
      go_wp2_with fail;go_loopg[2,5,7,9,13,14,15,16,17] (s.size-j) (fun gq s2 s5 s7 s9 s13 s14 s15 s16 s17 wx=>∃(us dot saw tr:Bool) (nd nm m:Nat) (dp:Int) (k:Nat),gq+k=s.size/\s2=.int .u64 (m:Int)/\s5=.bool tr/\s7=.int .i64 (k:Int)/\s9=.bool us/\s13=.bool dot/\s14=.bool saw/\s15=.int .i64 (nd:Int)/\s16=.int .i64 (nm:Int)/\s17=.int .i64 dp/\RowKit.Hid (Us.rdF (Bs s)=Us.rdT s.size neg true (Us.zW true ⟨us,dot,saw,tr,nd,nm,m,dp⟩ ((Bs s).drop k))/\Us.RsOk true k ⟨us,dot,saw,tr,nd,nm,m,dp⟩/\∃n,wx=w.drewN n))
      case atStart=>exact⟨false,false,false,false,0,0,0,0,j,by have:=HJ.2.1;omega,rfl,rfl,rfl,rfl,rfl,rfl,rfl,rfl,rfl,⟨HJ.1,(Us.z7o true).mono (Nat.zero_le _),HJ.2.2⟩⟩
      case round=>
      obtain⟨us,dot,saw,tr,nd,nm,m,dp,k,hgk,rfl,rfl,rfl,rfl,rfl,rfl,rfl,rfl,rfl,HR⟩:=hrel;by_cases hi:k<s.size
      ·have hi':(k:Int)<((s.size:Nat):Int):=by omega
       have HI:=Qh hi;have hw1:wrap64 ((k:Int)+1)=((k+1:Nat):Int):=(by have:=HS.out;unfold wrap64;omega);have HBd:=Qh (show nd<=k/\nm<=nd/\ -(k:Int)<=dp/\dp<=k/\m<16^nm/\nm<=16 from⟨HR.2.1.kk,HR.2.1.nd,HR.2.1.lo,HR.2.1.hi,HR.2.1.m,HR.2.1.nm⟩);have hm':True:=trivial;by_cases c1:ch s (k:Int)=95
       ·have hn:=yI hi HR.1 (by unfold Us.brk;rw[if_pos c1]) HR.2.1 (τ:=⟨true,dot,saw,tr,nd,nm,m,dp⟩) (by unfold Us.stp;rw[if_pos c1])
        have HN:=Qh hn;have c1':((ch s (k:Int):Nat):Int)=95:=(by omega);clear hn c1;go_wp2_with fail;go_roundg(gk-1)
        case measure=>omega
        case rel=>exact⟨true,dot,saw,tr,nd,nm,m,dp,k+1,by omega,by first|rfl|(go_num;done)|(rw[hm'];done)|simp[hm'],rfl,by first|rfl|(go_num;done),rfl,rfl,rfl,by first|rfl|(go_num;done),by first|rfl|(go_num;done),by first|rfl|(go_num;done),⟨HN.1,HN.2,HR.2.2⟩⟩
       by_cases c2:ch s (k:Int)=46
       ·have c1':(((ch s (k:Int):Nat):Int)==95)=false:=Qb (by omega)
        have c2':((ch s (k:Int):Nat):Int)=46:=(by omega);cases dot
        ·have hn:=yI hi HR.1 (by unfold Us.brk;rw[if_neg c1,if_pos c2]) HR.2.1 (τ:=⟨us,true,saw,tr,nd,nm,m,(nd:Int)⟩) (by unfold Us.stp;rw[if_neg c1,if_pos c2])
         have HN:=Qh hn;clear hn c1 c2;go_wp2_with fail;go_roundg(gk-1)
         case measure=>omega
         case rel=>exact⟨us,true,saw,tr,nd,nm,m,(nd:Int),k+1,by omega,by first|rfl|(go_num;done)|(rw[hm'];done)|simp[hm'],rfl,by first|rfl|(go_num;done),rfl,rfl,rfl,by first|rfl|(go_num;done),by first|rfl|(go_num;done),by first|rfl|(go_num;done),⟨HN.1,HN.2,HR.2.2⟩⟩
        ·have hn:=z0i hi HR.1 (by unfold Us.brk;rw[if_neg c1,if_pos c2]);have HN:=Qh hn;clear hn c1 c2;go_wp2_with fail;go_meet;exact⟨us,true,saw,tr,nd,nm,m,dp,k,rfl,rfl,rfl,rfl,rfl,rfl,rfl,rfl,rfl,⟨HN.out,by have:=HI.out;omega,HR.2.1.mono (by have:=HI.out;omega),HR.2.2⟩⟩
       have c1':(((ch s (k:Int):Nat):Int)==95)=false:=Qb (by omega);have c2':(((ch s (k:Int):Nat):Int)==46)=false:=Qb (by omega);by_cases c3:48<=ch s (k:Int)/\ch s (k:Int)<=57
       ·have hD:Us.isD (ch s (k:Int))=true:=decide_eq_true c3
        have c3a:(48:Int)<=((ch s (k:Int):Nat):Int):=(by omega);have c3b:((ch s (k:Int):Nat):Int)<=57:=(by omega);by_cases c4:ch s (k:Int)=48/\nd=0
        ·obtain⟨c4a,c4b⟩:=c4
         subst c4b;have hn:=yI hi HR.1 (by unfold Us.brk;rw[if_neg c1,if_neg c2,if_pos hD]) HR.2.1 (τ:=⟨us,dot,true,tr,0,nm,m,dp-1⟩) (by unfold Us.stp;rw[if_neg c1,if_neg c2,if_pos hD,if_pos ⟨c4a,rfl⟩]);have HN:=Qh hn;have c4':((ch s (k:Int):Nat):Int)=48:=(by omega);have hw3:wrap64 (dp-1)=dp-1:=(by have:=HBd.out;have:=HI.out;have:=HS.out;unfold wrap64;omega);clear hn c1 c2 c3 hD;go_wp2_with fail;go_roundg(gk-1)
         case measure=>omega
         case rel=>exact⟨us,dot,true,tr,0,nm,m,dp-1,k+1,by omega,by first|rfl|(go_num;done)|(rw[hm'];done)|simp[hm'],rfl,by first|rfl|(go_num;done),rfl,rfl,rfl,by first|rfl|(go_num;done),by first|rfl|(go_num;done),by first|rfl|(go_num;done),⟨HN.1,HN.2,HR.2.2⟩⟩
        ·have hw3:wrap64 ((nd:Int)+1)=((nd+1:Nat):Int):=by have:=HBd.out;have:=HI.out;have:=HS.out;unfold wrap64;omega
         have hw4:wrap64 ((nm:Int)+1)=((nm+1:Nat):Int):=(by have:=HBd.out;have:=HI.out;have:=HS.out;unfold wrap64;omega);have c4t:Us.stp true ⟨us,dot,saw,tr,nd,nm,m,dp⟩ (ch s (k:Int))=(if nm<Us.mxd true then⟨us,dot,true,tr,nd+1,nm+1,Us.bse true*m+(ch s (k:Int)-48),dp⟩else⟨us,dot,true,tr|| !decide (ch s (k:Int)=48),nd+1,nm,m,dp⟩):=(by unfold Us.stp;rw[if_neg c1,if_neg c2,if_pos hD,if_neg c4]);have hbk:Us.brk true ⟨us,dot,saw,tr,nd,nm,m,dp⟩ (ch s (k:Int))=false:=(by unfold Us.brk;rw[if_neg c1,if_neg c2,if_pos hD]);by_cases c5:nm<16
         ·have c5':(nm:Int)<16:=by omega
          have hmB:=z3g (B:=16) (N:=16) HBd.2.2.2.2.1 c5 (by decide);have e2:IntKind.u64.wrap ((m:Int)*16)=(m:Int)*16:=(by rw[IntKind.wrap_u64];omega);by_cases c48:ch s (k:Int)=48
          ·have c48':((ch s (k:Int):Nat):Int)=48:=by omega
           have n0:((nd:Int)==0)=false:=Qb (by omega);have hn:=yI hi HR.1 (hbk) HR.2.1 (τ:=⟨us,dot,true,tr,nd+1,nm+1,16*m,dp⟩) (by rw[c4t,if_pos (show nm<Us.mxd true from c5),c48];rfl);have HN:=Qh hn;clear hn c1 c2 c3 c4 hD c4t hbk hmB c48;go_wp2_with fail;go_roundg(gk-1)
           case measure=>omega
           case rel=>exact⟨us,dot,true,tr,nd+1,nm+1,16*m,dp,k+1,by omega,by first|rfl|(go_num;done)|(rw[hm'];done)|simp[hm'],rfl,by first|rfl|(go_num;done),rfl,rfl,rfl,by first|rfl|(go_num;done),by first|rfl|(go_num;done),by first|rfl|(go_num;done),⟨HN.1,HN.2,HR.2.2⟩⟩
          ·have c48':(((ch s (k:Int):Nat):Int)==48)=false:=Qb (by omega)
           obtain⟨m1,hm1⟩:∃m1,m1=16*m+(ch s (k:Int)-48):=⟨_,rfl⟩;have e1:IntKind.u8.wrap (((ch s (k:Int):Nat):Int)-48)=((ch s (k:Int):Nat):Int)-48:=(by have:=yU s (k:Int);rw[IntKind.wrap_u8];omega);have e3:IntKind.u64.wrap (((ch s (k:Int):Nat):Int)-48)=((ch s (k:Int):Nat):Int)-48:=(by have:=yU s (k:Int);rw[IntKind.wrap_u64];omega);have e4:IntKind.u64.wrap ((m:Int)*16+(((ch s (k:Int):Nat):Int)-48))=(m1:Int):=(by rw[IntKind.wrap_u64];omega);have hn:=yI hi HR.1 (hbk) HR.2.1 (τ:=⟨us,dot,true,tr,nd+1,nm+1,m1,dp⟩) (by rw[c4t,if_pos (show nm<Us.mxd true from c5),hm1];rfl);have HN:=Qh hn;have HM1:=Qh hm1;clear hn hm1 c1 c2 c3 c4 hD c4t hbk hmB c48;go_wp2_with fail;go_roundg(gk-1)
           case measure=>omega
           case rel=>exact⟨us,dot,true,tr,nd+1,nm+1,m1,dp,k+1,by omega,by first|rfl|(go_num;done)|(rw[hm'];done)|simp[hm'],rfl,by first|rfl|(go_num;done),rfl,rfl,rfl,by first|rfl|(go_num;done),by first|rfl|(go_num;done),by first|rfl|(go_num;done),⟨HN.1,HN.2,HR.2.2⟩⟩
         ·have c5':¬(nm:Int)<16:=by omega
          by_cases c48:ch s (k:Int)=48
          ·have c48':((ch s (k:Int):Nat):Int)=48:=by omega
           have n0:((nd:Int)==0)=false:=Qb (by omega);have hn:=yI hi HR.1 (hbk) HR.2.1 (τ:=⟨us,dot,true,tr,nd+1,nm,m,dp⟩) (by rw[c4t,if_neg (show¬nm<Us.mxd true from c5),decide_eq_true c48,Bool.not_true,Bool.or_false]);have HN:=Qh hn;clear hn c1 c2 c3 c4 hD c4t hbk c48;go_wp2_with fail;go_roundg(gk-1)
           case measure=>omega
           case rel=>exact⟨us,dot,true,tr,nd+1,nm,m,dp,k+1,by omega,by first|rfl|(go_num;done)|(rw[hm'];done)|simp[hm'],rfl,by first|rfl|(go_num;done),rfl,rfl,rfl,by first|rfl|(go_num;done),by first|rfl|(go_num;done),by first|rfl|(go_num;done),⟨HN.1,HN.2,HR.2.2⟩⟩
          ·have c48':(((ch s (k:Int):Nat):Int)==48)=false:=Qb (by omega)
           have hn:=yI hi HR.1 (hbk) HR.2.1 (τ:=⟨us,dot,true,true,nd+1,nm,m,dp⟩) (by rw[c4t,if_neg (show¬nm<Us.mxd true from c5),decide_eq_false c48,Bool.not_false,Bool.or_true]);have HN:=Qh hn;clear hn c1 c2 c3 c4 hD c4t hbk c48;go_wp2_with fail;go_roundg(gk-1)
           case measure=>omega
           case rel=>exact⟨us,dot,true,true,nd+1,nm,m,dp,k+1,by omega,by first|rfl|(go_num;done)|(rw[hm'];done)|simp[hm'],rfl,by first|rfl|(go_num;done),rfl,rfl,rfl,by first|rfl|(go_num;done),by first|rfl|(go_num;done),by first|rfl|(go_num;done),⟨HN.1,HN.2,HR.2.2⟩⟩
       have hDf:Us.isD (ch s (k:Int))=false:=decide_eq_false c3;by_cases c6:ch s (k:Int)<48
       ·have c6':¬(48:Int)<=((ch s (k:Int):Nat):Int):=(by omega);have hlo:Us.yh (ch s (k:Int))<97:=z4y c6;have hlo':¬(97:Int)<=((Us.yh (ch s (k:Int)):Nat):Int):=(by omega);have hn:=z0i hi HR.1 (by unfold Us.brk Us.isX;rw[if_neg c1,if_neg c2,hDf,decide_eq_false (show¬(97<=Us.yh (ch s (k:Int))/\Us.yh (ch s (k:Int))<=102) by omega)];rfl);have HN:=Qh hn;clear hn c1 c2 c3 c6 hDf hlo;go_wp2_with(go_at_call 151;refine(HL.out _ _ (yU _ _)).mono ?_;rintro e w' ⟨rfl,rfl⟩);go_meet;exact⟨us,dot,saw,tr,nd,nm,m,dp,k,rfl,rfl,rfl,rfl,rfl,rfl,rfl,rfl,rfl,⟨HN.out,by have:=HI.out;omega,HR.2.1.mono (by have:=HI.out;omega),HR.2.2⟩⟩
       have c6a:(48:Int)<=((ch s (k:Int):Nat):Int):=(by omega);have c6b:¬((ch s (k:Int):Nat):Int)<=57:=(by omega);by_cases c7:Us.yh (ch s (k:Int))<97
       ·have hlo':¬(97:Int)<=((Us.yh (ch s (k:Int)):Nat):Int):=(by omega);have hn:=z0i hi HR.1 (by unfold Us.brk Us.isX;rw[if_neg c1,if_neg c2,hDf,decide_eq_false (show¬(97<=Us.yh (ch s (k:Int))/\Us.yh (ch s (k:Int))<=102) by omega)];rfl);have HN:=Qh hn;clear hn c1 c2 c3 c6 hDf c7;go_wp2_with(go_at_call 151;refine(HL.out _ _ (yU _ _)).mono ?_;rintro e w' ⟨rfl,rfl⟩);go_meet;exact⟨us,dot,saw,tr,nd,nm,m,dp,k,rfl,rfl,rfl,rfl,rfl,rfl,rfl,rfl,rfl,⟨HN.out,by have:=HI.out;omega,HR.2.1.mono (by have:=HI.out;omega),HR.2.2⟩⟩
       have hla:(97:Int)<=((Us.yh (ch s (k:Int)):Nat):Int):=(by omega);by_cases c8:102<Us.yh (ch s (k:Int))
       ·have hlb:¬((Us.yh (ch s (k:Int)):Nat):Int)<=102:=(by omega);have hn:=z0i hi HR.1 (by unfold Us.brk Us.isX;rw[if_neg c1,if_neg c2,hDf,decide_eq_false (show¬(97<=Us.yh (ch s (k:Int))/\Us.yh (ch s (k:Int))<=102) by omega)];rfl);have HN:=Qh hn;clear hn c1 c2 c3 c6 hDf c7 c8;go_wp2_with(go_at_call 151;refine(HL.out _ _ (yU _ _)).mono ?_;rintro e w' ⟨rfl,rfl⟩);go_meet;exact⟨us,dot,saw,tr,nd,nm,m,dp,k,rfl,rfl,rfl,rfl,rfl,rfl,rfl,rfl,rfl,⟨HN.out,by have:=HI.out;omega,HR.2.1.mono (by have:=HI.out;omega),HR.2.2⟩⟩
       have hlb:((Us.yh (ch s (k:Int)):Nat):Int)<=102:=(by omega);have hw3:wrap64 ((nd:Int)+1)=((nd+1:Nat):Int):=(by have:=HBd.out;have:=HI.out;have:=HS.out;unfold wrap64;omega);have hw4:wrap64 ((nm:Int)+1)=((nm+1:Nat):Int):=(by have:=HBd.out;have:=HI.out;have:=HS.out;unfold wrap64;omega);have c4t:Us.stp true ⟨us,dot,saw,tr,nd,nm,m,dp⟩ (ch s (k:Int))=(if nm<Us.mxd true then⟨us,dot,true,tr,nd+1,nm+1,Us.bse true*m+(Us.yh (ch s (k:Int))-87),dp⟩else⟨us,dot,true,true,nd+1,nm,m,dp⟩):=(by unfold Us.stp;rw[if_neg c1,if_neg c2,if_neg (by rw[hDf];simp)]);have hbk:Us.brk true ⟨us,dot,saw,tr,nd,nm,m,dp⟩ (ch s (k:Int))=false:=(by unfold Us.brk Us.isX;rw[if_neg c1,if_neg c2,hDf,decide_eq_true (show 97<=Us.yh (ch s (k:Int))/\Us.yh (ch s (k:Int))<=102 by omega)];rfl);by_cases c5:nm<16
       ·have c5':(nm:Int)<16:=by omega
        have hmB:=z3g (B:=16) (N:=16) HBd.2.2.2.2.1 c5 (by decide);have e2:IntKind.u64.wrap ((m:Int)*16)=(m:Int)*16:=(by rw[IntKind.wrap_u64];omega);obtain⟨m1,hm1⟩:∃m1,m1=16*m+(Us.yh (ch s (k:Int))-87):=⟨_,rfl⟩;have e1:IntKind.u8.wrap (((Us.yh (ch s (k:Int)):Nat):Int)-97)=((Us.yh (ch s (k:Int)):Nat):Int)-97:=(by rw[IntKind.wrap_u8];omega);have e1b:IntKind.u8.wrap (((Us.yh (ch s (k:Int)):Nat):Int)-97+10)=((Us.yh (ch s (k:Int)):Nat):Int)-97+10:=(by rw[IntKind.wrap_u8];omega);have e3:IntKind.u64.wrap (((Us.yh (ch s (k:Int)):Nat):Int)-97+10)=((Us.yh (ch s (k:Int)):Nat):Int)-97+10:=(by rw[IntKind.wrap_u64];omega);have e4:IntKind.u64.wrap ((m:Int)*16+(((Us.yh (ch s (k:Int)):Nat):Int)-97+10))=(m1:Int):=(by rw[IntKind.wrap_u64];omega);have hn:=yI hi HR.1 (hbk) HR.2.1 (τ:=⟨us,dot,true,tr,nd+1,nm+1,m1,dp⟩) (by rw[c4t,if_pos (show nm<Us.mxd true from c5),hm1];rfl);have HN:=Qh hn;have HM1:=Qh hm1;clear hn hm1 c1 c2 c3 c6 c7 c8 hDf c4t hbk hmB;go_wp2_with(go_at_call 151;refine(HL.out _ _ (yU _ _)).mono ?_;rintro e w' ⟨rfl,rfl⟩);go_roundg(gk-1)
        case measure=>omega
        case rel=>exact⟨us,dot,true,tr,nd+1,nm+1,m1,dp,k+1,by omega,by first|rfl|(go_num;done)|(rw[hm'];done)|simp[hm'],rfl,by first|rfl|(go_num;done),rfl,rfl,rfl,by first|rfl|(go_num;done),by first|rfl|(go_num;done),by first|rfl|(go_num;done),⟨HN.1,HN.2,HR.2.2⟩⟩
       ·have c5':¬(nm:Int)<16:=by omega
        have hn:=yI hi HR.1 (hbk) HR.2.1 (τ:=⟨us,dot,true,true,nd+1,nm,m,dp⟩) (by rw[c4t,if_neg (show¬nm<Us.mxd true from c5)]);have HN:=Qh hn;clear hn c1 c2 c3 c6 c7 c8 hDf c4t hbk;go_wp2_with(go_at_call 151;refine(HL.out _ _ (yU _ _)).mono ?_;rintro e w' ⟨rfl,rfl⟩);go_roundg(gk-1)
        case measure=>omega
        case rel=>exact⟨us,dot,true,true,nd+1,nm,m,dp,k+1,by omega,by first|rfl|(go_num;done)|(rw[hm'];done)|simp[hm'],rfl,by first|rfl|(go_num;done),rfl,rfl,rfl,by first|rfl|(go_num;done),by first|rfl|(go_num;done),by first|rfl|(go_num;done),⟨HN.1,HN.2,HR.2.2⟩⟩
      ·have hi':¬(k:Int)<((s.size:Nat):Int):=(by omega);have hn:=HR.1;rw[z4g (by omega)]at hn;have HN:=Qh hn;have HI:=Qh hi;clear hn hi;go_wp2_with fail;go_meet;exact⟨us,dot,saw,tr,nd,nm,m,dp,k,rfl,rfl,rfl,rfl,rfl,rfl,rfl,rfl,rfl,⟨HN.out,by omega,HR.2.1.mono (by omega),HR.2.2⟩⟩
    case rest=>
     obtain⟨us,dot,saw,tr,nd,nm,m,dp,k,rfl,rfl,rfl,rfl,rfl,rfl,rfl,rfl,rfl,HR⟩:=hcut;generalize wc=w4 at*
     have hm64:m<18446744073709551616:=Us.z8E HR.2.2.1;have HM:=Qh hm64;clear hm64 HJ;have HBd:=Qh (show nd<=s.size/\nm<=nd/\ -(s.size:Int)<=dp/\dp<=s.size from⟨HR.2.2.1.kk,HR.2.2.1.nd,HR.2.2.1.lo,HR.2.2.1.hi⟩);cases saw
     ·go_wp2_with fail
      ((try simp only[Exit.inBlock,Exit.then]);(try rw[Exit.noGoto_ret]);refine bodyPost_ret (yq rfl _ _ _) rfl ?_)
      exact RdE.no m k 0 neg tr h rfl HM.out HR.2.1 (Or.inl (by rw[HR.1];exact z1G (Or.inl rfl))) HR.2.2.2
     ·obtain⟨D,hD⟩:∃D,D=Us.dpS h ⟨us,dot,true,tr,nd,nm,m,dp⟩:=⟨_,rfl⟩
      obtain⟨N,hN⟩:∃N,N=Us.nmS h ⟨us,dot,true,tr,nd,nm,m,dp⟩:=⟨_,rfl⟩;have hDN:-4294967296<=D/\D<=4294967296/\N<=4294967296:=(by have h1:=HBd.out;have h2:=HS.out;subst hD hN;unfold Us.dpS Us.nmS;refine⟨?_,?_,?_⟩<;>cases h<;>cases dot<;>simp<;>omega);have HDN:=Qh hDN;have HDe:=Qh (Qa hD hN);clear hDN;go_upto_if 142 with fail;go_cut[17]from 143 to 143 (fun s17 wx=>s17=.int .i64 (if dot then dp else(nd:Int))/\RowKit.Hid (∃n,wx=w.drewN n))
      case first=>
       clear hD hN;cases dot
       ·go_wp2_with fail;go_meet;exact⟨rfl,HR.2.2.2⟩
       ·go_wp2_with fail;go_meet;exact⟨rfl,HR.2.2.2⟩
      case rest=>
       obtain⟨rfl,HW⟩:=hcut;generalize wc=w5 at*
       go_upto_if 145 with fail;go_cut[16,17]from 146 to 149 (fun s16 s17 wx=>s16=.int .i64 (N:Int)/\s17=.int .i64 D/\RowKit.Hid (∃n,wx=w.drewN n))
       case first=>
        have hb1:=HBd.out;have hb2:=HS.out;obtain⟨d1,hd1⟩:∃d1:Int,d1=(if dot then dp else(nd:Int)):=⟨_,rfl⟩;have hd2:-1073741824<=d1/\d1<=1073741824:=(by subst hd1;cases dot<;>simp<;>omega);rw[<-hd1];cases h
        ·have e1:D=d1:=(by rw[hD,hd1];rfl);have e2:N=nm:=(by rw[hN];rfl);have HE:=Qh (Qa e1 e2);have k16:(((Us.bse false:Nat):Int)==16)=false:=(by decide);clear e1 e2 hb1 hb2 hd1 hd2 hD hN;go_wp2_with fail;go_meet;exact⟨by rw[HE.2],by rw[HE.1],HW.out⟩
        ·have e1:D=d1*4:=(by rw[hD,hd1];rfl);have e2:N=nm*4:=(by rw[hN];rfl);have w1:wrap64 (d1*4)=D:=(by rw[e1];unfold wrap64;omega);have w2:wrap64 ((nm:Int)*4)=(N:Int):=(by rw[e2];unfold wrap64;omega);have k16:((Us.bse true:Nat):Int)=16:=(by decide);clear e1 e2 hb1 hb2 hd1 hd2 hD hN;go_wp2_with fail;go_meet;exact⟨by first|rfl|rw[w2],by first|rfl|rw[w1],HW.out⟩
       case rest=>
        obtain⟨rfl,rfl,HW⟩:=hcut;generalize wc=w6 at*
        clear hD hN;go_upto_region 57 with fail;go_cut[161]from 150 to 161 (fun s161 wx=>∃g:Bool,s161=.bool g/\RowKit.Hid ((g=true↔(k<s.size/\Us.yh (ch s (k:Int))=Us.z3x h))/\∃n,wx=w.drewN n))
        case first=>
         by_cases hk:k<s.size
         ·have hk':(k:Int)<((s.size:Nat):Int):=by omega
          by_cases hl:Us.yh (ch s (k:Int))=Us.z3x h
          ·have hl':((Us.yh (ch s (k:Int)):Nat):Int)=((Us.z3x h:Nat):Int):=(by omega);have HK:=Qh (Qa hk hl);clear hk hl;go_wp2_with(go_at_call 151;refine(HL.out _ _ (yU _ _)).mono ?_;rintro e w' ⟨rfl,rfl⟩);go_meet;exact⟨true,rfl,⟨⟨fun _=>HK.out,fun _=>rfl⟩,HW.out⟩⟩
          ·have hl':(((Us.yh (ch s (k:Int)):Nat):Int)==((Us.z3x h:Nat):Int))=false:=Qb (by omega);have HK:=Qh (Qa hk hl);clear hk hl;go_wp2_with(go_at_call 151;refine(HL.out _ _ (yU _ _)).mono ?_;rintro e w' ⟨rfl,rfl⟩);go_meet;exact⟨false,rfl,⟨⟨(fun h=>by cases h),fun h=>absurd h.2 HK.2⟩,HW.out⟩⟩
         ·have hk':¬(k:Int)<((s.size:Nat):Int):=(by omega);have HK:=Qh hk;clear hk;go_wp2_with fail;go_meet;exact⟨false,rfl,⟨⟨(fun h=>by cases h),fun h=>absurd h.1 HK.out⟩,HW.out⟩⟩
        case rest=>
         obtain⟨g,rfl,HG⟩:=hcut;generalize wc=w7 at*
         go_upto_if 161 with fail;go_cut[7,9,17]from 162 to 239 (fun s7 s9 s17 wx=>∃(i':Nat) (us':Bool) (ev:Int),s7=.int .i64 (i':Int)/\s9=.bool us'/\s17=.int .i64 (D+ev)/\RowKit.Hid (Us.rdF (Bs s)=some ⟨m,if m=0 then 0 else D+ev-N,neg,tr,h,i',us'⟩/\i'<=s.size/\ -100000<=ev/\ev<=100000/\∃n,wx=w.drewN n))
         case first=>
          cases g
          ·have hx:Us.z1X h ((Bs s).drop k)=if h then none else some (0,false,(Bs s).drop k):=zdG (fun hn=>by have:=HG.1.2 hn;simp at this)
           cases h
           ·have hF:Us.rdF (Bs s)=some ⟨m,if m=0 then 0 else D+0-N,neg,tr,false,k,us⟩:=by
             rw[HR.1,z69 rfl hx,<-HDe.1,<-HDe.2,z4O HR.2.1,Bool.or_false]
            have HF:=Qh hF;have k16:(((Us.bse false:Nat):Int)==16)=false:=(by decide);have z0:RowKit.Hid (D=D+0):=Qh (by omega);clear hF hx;go_wp2_with fail;go_meet;exact⟨k,us,0,rfl,rfl,by rw[<-z0.out],⟨HF.out,HR.2.1,by omega,by omega,HG.2⟩⟩
           ·have hF:Us.rdF (Bs s)=none:=by rw[HR.1];exact z1G (Or.inr hx)
            have HF:=Qh hF;have k16:((Us.bse true:Nat):Int)=16:=(by decide);clear hF hx;go_wp2_with fail
            ((try simp only[Exit.inBlock,Exit.then]);(try rw[Exit.noGoto_ret]);refine bodyPost_ret (yq rfl _ _ _) rfl ?_)
            exact RdE.no m k 0 neg tr true rfl HM.out HR.2.1 (Or.inl HF.out) HG.2
          ·obtain⟨hk,hl⟩:=HG.1.1 (by simp)
           have hw1:wrap64 ((k:Int)+1)=((k+1:Nat):Int):=(by have:=HS.out;unfold wrap64;omega);have HK:=Qh (Qa hk hl);by_cases hk1:k+1<s.size
           ·have hk1':¬((s.size:Nat):Int)<=(k:Int)+1:=by omega
            have hk2':(k:Int)+1<((s.size:Nat):Int):=(by omega);have hk3':(0:Int)<=(k:Int)+1:=(by omega);have hsg:=zew s (k+1) hk1;have hcc:((k+1:Nat):Int)=(k:Int)+1:=(by omega);rw[hcc]at hsg;have HSG:=Qh (Qa hsg hk1);clear hsg hk1 hk hl hcc;go_upto_block 4 with fail;go_cut[7,19]from 162 to 178 (fun s7 s19 wx=>∃(b:Bool) (i2:Nat) (z:Int),s7=.int .i64 (i2:Int)/\s19=.int .i64 z/\RowKit.Hid (z=(if b then-1 else 1)/\Us.qW ((Bs s).drop (k+1))=(b,(Bs s).drop i2)/\i2<=s.size/\∃n,wx=w.drewN n))
            case first=>
             have hw2:wrap64 ((k:Int)+1+1)=(k:Int)+1+1:=(by have:=HS.out;have:=HK.1;unfold wrap64;omega);by_cases c1:ch s ((k:Int)+1)=43
             ·have hg:=HSG.1;rw[if_pos (Or.inl c1),decide_eq_false (by omega)]at hg;have HSg:=Qh hg;have c1':((ch s ((k:Int)+1):Nat):Int)=43:=(by omega);clear hg c1;go_wp2_with fail;go_meet;exact⟨false,k+1+1,_,by first|rfl|(rw[hw2];rfl),rfl,⟨rfl,HSg.out,by have:=HSG.2;omega,HG.2⟩⟩
             ·by_cases c2:ch s ((k:Int)+1)=45
              ·have hg:=HSG.1;rw[if_pos (Or.inr c2),decide_eq_true c2]at hg;have HSg:=Qh hg;have c2':((ch s ((k:Int)+1):Nat):Int)=45:=(by omega);clear hg c1 c2;go_wp2_with fail;go_meet;exact⟨true,k+1+1,_,by first|rfl|(rw[hw2];rfl),rfl,⟨rfl,HSg.out,by have:=HSG.2;omega,HG.2⟩⟩
              ·have hg:=HSG.1;rw[if_neg (by omega),decide_eq_false c2]at hg;have HSg:=Qh hg;have c1':(((ch s ((k:Int)+1):Nat):Int)==43)=false:=Qb (by omega);have c2':(((ch s ((k:Int)+1):Nat):Int)==45)=false:=Qb (by omega);clear hg c1 c2;go_wp2_with fail;go_meet;exact⟨false,k+1,_,by first|rfl|(go_num;done),rfl,⟨rfl,HSg.out,by have:=HSG.2;omega,HG.2⟩⟩
            case rest=>
             obtain⟨b,i2,z,rfl,rfl,HB'⟩:=hcut;have HB:=Qh HB'.2;have HZZ:=Qh HB'.1;clear HB';generalize wc=w8 at*
             have hex:=z6H HK.1 HK.2 HB.1;have HEX:=Qh hex;clear hex HSG hk1' hk2' hk3';by_cases hd:i2<s.size/\48<=ch s (i2:Int)/\ch s (i2:Int)<=57
             ·have d0:(i2:Int)<((s.size:Nat):Int):=by omega
              have d1:¬((s.size:Nat):Int)<=(i2:Int):=(by omega);have d2:¬((ch s (i2:Int):Nat):Int)<48:=(by omega);have d3:¬(57:Int)<((ch s (i2:Int):Nat):Int):=(by omega);have d2':(48:Int)<=((ch s (i2:Int):Nat):Int):=(by omega);have d3':((ch s (i2:Int):Nat):Int)<=57:=(by omega);have HX:=Qh (HEX.2 hd);clear HEX hd;go_wp2_with fail;go_loopg[7,9,20] (s.size-i2) (fun gq s7 s9 s20 wx=>∃(e:Nat) (us2:Bool) (q:Nat),gq+q=s.size/\s7=.int .i64 (q:Int)/\s9=.bool (us||us2)/\s20=.int .i64 (e:Int)/\RowKit.Hid (Us.xj 0 false ((Bs s).drop i2)=Us.xj e us2 ((Bs s).drop q)/\e<100000/\∃n,wx=w.drewN n))
              case atStart=>exact⟨0,false,i2,by have:=HB.2.1;omega,rfl,by rw[Bool.or_false],rfl,⟨rfl,by omega,HB.2.2⟩⟩
              case round=>
               obtain⟨e,us2,q,hgq,rfl,rfl,rfl,HQ⟩:=hrel;have HEnd:RowKit.Hid (Us.xj 0 false ((Bs s).drop i2)=(e,us2,(Bs s).drop q)->q<=s.size->Us.rdF (Bs s)=some ⟨m,if m=0 then 0 else D+(if b then-(e:Int)else(e:Int))-N,neg,tr,h,q,us||us2⟩):=Qh fun he hq=>(by have hx:=HX.out;rw[he]at hx;rw[HR.1,z69 rfl hx,<-HDe.1,<-HDe.2,z4O hq]);obtain⟨ev,hev,he5,he6,hev1,hev2⟩:=z7h HZZ.out HQ.2.1 (Qa HDN.1 HDN.2.1);rw[<-hev]at HEnd;have HEV:=Qh (Qa hev1 (Qa hev2 (Qa he5 he6)));clear hev hev1 hev2 he5 he6;have hw9:wrap64 ((q:Int)+1)=((q+1:Nat):Int):=(by have:=HS.out;unfold wrap64;omega);by_cases hq:q<s.size
               ·have hq':(q:Int)<((s.size:Nat):Int):=by omega
                have hgo:=zaW (e:=e) (us:=us2) hq;by_cases c1:ch s (q:Int)=95
                ·have c1':((ch s (q:Int):Nat):Int)=95:=by omega
                 rw[if_pos c1]at hgo;have HGO:=Qh (Qa (HQ.1.trans hgo) hq);clear hgo c1 hq HEnd;go_wp2_with fail;go_roundg(gk-1)
                 case measure=>omega
                 case rel=>exact⟨e,true,q+1,by omega,by first|rfl|(go_num;done),by simp,rfl,⟨HGO.1,HQ.2.1,HQ.2.2⟩⟩
                ·have c1':(((ch s (q:Int):Nat):Int)==95)=false:=Qb (by omega)
                 rw[if_neg c1]at hgo;by_cases c2:48<=ch s (q:Int)/\ch s (q:Int)<=57
                 ·have c2a:(48:Int)<=((ch s (q:Int):Nat):Int):=by omega
                  have c2b:((ch s (q:Int):Nat):Int)<=57:=(by omega);rw[if_pos (show Us.isD (ch s (q:Int))=true from decide_eq_true c2)]at hgo;by_cases c3:e<10000
                  ·have c3':(e:Int)<10000:=by omega
                   rw[if_pos c3]at hgo;obtain⟨e2,he2⟩:∃e2,e2=10*e+(ch s (q:Int)-48):=⟨_,rfl⟩;rw[<-he2]at hgo;obtain⟨-,-,-,f4,f5⟩:=za6 c3 c2 he2;have HE2:=Qh (show(e:Int)*10+((ch s (q:Int):Nat):Int)-48=(e2:Int) by omega);have HGO:=Qh (Qa (HQ.1.trans hgo) (Qa hq f5));clear hgo c1 c2 c3 hq HEnd he2 f5;go_wp2_with fail;go_roundg(gk-1)
                   case measure=>omega
                   case rel=>exact⟨e2,us2,q+1,by omega,by first|rfl|(go_num;done),rfl,by first|(rw[HE2.out];done)|(rw[f4];done)|rfl,⟨HGO.1,HGO.2.2,HQ.2.2⟩⟩
                  ·have c3':¬(e:Int)<10000:=by omega
                   rw[if_neg c3]at hgo;have HGO:=Qh (Qa (HQ.1.trans hgo) hq);clear hgo c1 c2 c3 hq HEnd;go_wp2_with fail;go_roundg(gk-1)
                   case measure=>omega
                   case rel=>exact⟨e,us2,q+1,by omega,by first|rfl|(go_num;done),rfl,rfl,⟨HGO.1,HQ.2.1,HQ.2.2⟩⟩
                 ·rw[if_neg (show¬Us.isD (ch s (q:Int))=true from fun hh=>c2 (of_decide_eq_true hh))]at hgo
                  have HF:=Qh (HEnd.out (HQ.1.trans hgo) (Nat.le_of_lt hq));have HQS:=Qh (Nat.le_of_lt hq);by_cases c3:ch s (q:Int)<48
                  ·have c3':¬(48:Int)<=((ch s (q:Int):Nat):Int):=(by omega);clear hgo c1 c2 c3 hq HEnd;obtain⟨-,-,he5,he6⟩:=HEV.out;go_wp2_with fail;go_meet;exact⟨q,us||us2,ev,rfl,rfl,by first|rfl|(rw[he6];done)|(rw[he5,he6];done),⟨HF.out,HQS.out,HEV.1,HEV.2.1,HQ.2.2⟩⟩
                  ·have c3a:(48:Int)<=((ch s (q:Int):Nat):Int):=(by omega);have c3b:¬((ch s (q:Int):Nat):Int)<=57:=(by omega);clear hgo c1 c2 c3 hq HEnd;obtain⟨-,-,he5,he6⟩:=HEV.out;go_wp2_with fail;go_meet;exact⟨q,us||us2,ev,rfl,rfl,by first|rfl|(rw[he6];done)|(rw[he5,he6];done),⟨HF.out,HQS.out,HEV.1,HEV.2.1,HQ.2.2⟩⟩
               ·have hq':¬(q:Int)<((s.size:Nat):Int):=(by omega);have hqs:q<=s.size:=(by omega);have HF:=Qh (HEnd.out (HQ.1.trans (z7m (by omega))) hqs);have HQS:=Qh hqs;clear hq HEnd hqs;obtain⟨-,-,he5,he6⟩:=HEV.out;go_wp2_with fail;go_meet;exact⟨q,us||us2,ev,rfl,rfl,by first|rfl|(rw[he6];done)|(rw[he5,he6];done),⟨HF.out,HQS.out,HEV.1,HEV.2.1,HQ.2.2⟩⟩
             ·have hF:Us.rdF (Bs s)=none:=by rw[HR.1];exact z1G (Or.inr (HEX.1 hd))
              have HF:=Qh hF;clear hF HEX;by_cases hi2:i2<s.size
              ·have d0:(i2:Int)<((s.size:Nat):Int):=by omega
               have d1:¬((s.size:Nat):Int)<=(i2:Int):=(by omega);by_cases hlo:ch s (i2:Int)<48
               ·have d2:((ch s (i2:Int):Nat):Int)<48:=by omega
                clear hd hi2 hlo;go_wp2_with fail
                ((try simp only[Exit.inBlock,Exit.then]);(try rw[Exit.noGoto_ret]);refine bodyPost_ret (yq rfl _ _ _) rfl ?_)
                exact RdE.no m i2 0 neg tr h rfl HM.out HB.2.1 (Or.inl HF.out) HB.2.2
               ·have d2:¬((ch s (i2:Int):Nat):Int)<48:=by omega
                have d3:(57:Int)<((ch s (i2:Int):Nat):Int):=(by omega);clear hd hi2 hlo;go_wp2_with fail
                ((try simp only[Exit.inBlock,Exit.then]);(try rw[Exit.noGoto_ret]);refine bodyPost_ret (yq rfl _ _ _) rfl ?_)
                exact RdE.no m i2 0 neg tr h rfl HM.out HB.2.1 (Or.inl HF.out) HB.2.2
              ·have d1:((s.size:Nat):Int)<=(i2:Int):=by omega
               clear hd hi2;go_wp2_with fail
               ((try simp only[Exit.inBlock,Exit.then]);(try rw[Exit.noGoto_ret]);refine bodyPost_ret (yq rfl _ _ _) rfl ?_)
               exact RdE.no m i2 0 neg tr h rfl HM.out HB.2.1 (Or.inl HF.out) HB.2.2
           ·have hk1':((s.size:Nat):Int)<=(k:Int)+1:=by omega
            have he:(Bs s).drop (k+1)=[]:=z0F (by omega);have hF:Us.rdF (Bs s)=none:=(by rw[HR.1];exact z1G (Or.inr ((z6H (b:=false) (i:=k+1) hk hl (by rw[he];rfl)).1 (by omega))));have HF:=Qh hF;have hke:RowKit.Hid (k+1<=s.size):=Qh (by omega);clear hF he hk hl hk1;go_wp2_with fail
            ((try simp only[Exit.inBlock,Exit.then]);(try rw[Exit.noGoto_ret]);refine bodyPost_ret (yq rfl _ _ _) rfl ?_)
            exact RdE.no m (k+1) 0 neg tr h (by first|rfl|rw[hw1]) HM.out hke.out (Or.inl HF.out) HG.2
         case rest=>
          obtain⟨i',us',ev,rfl,rfl,rfl,HF⟩:=hcut;generalize wc=w8 at*
          clear HG;obtain⟨p,hp⟩:∃p:Int,p=if m=0 then 0 else D+ev-N:=⟨_,rfl⟩;have HP:=Qh hp;rw[<-hp]at HF;have hwp:wrap64 (D+ev-N)=D+ev-N:=(by have:=HDN.out;have:=HF.2.2;unfold wrap64;omega);clear hp;go_upto_if 241 with fail;go_cut[3]from 240 to 244 (fun s3 wx=>s3=.int .i64 p/\RowKit.Hid (∃n,wx=w.drewN n))
          case first=>
           by_cases hm0:m=0
           ·have e:=HP.out;rw[if_pos hm0]at e;have HE:=Qh e;have hm0':(m:Int)=0:=(by omega);clear e hm0;go_wp2_with fail;go_meet;exact⟨by rw[HE.out],HF.2.2.2.2⟩
           ·have e:=HP.out;rw[if_neg hm0]at e;have HE:=Qh e;have hm0':¬(m:Int)=0:=(by omega);have hm0b:((m:Int) != 0)=true:=(by simp;omega);clear e hm0;go_wp2_with fail;go_meet;exact⟨by rw[HE.out];first|done|rw[hwp],HF.2.2.2.2⟩
          case rest=>
           obtain⟨rfl,HW9⟩:=hcut;generalize wc=w9 at*
           clear hwp;go_upto_region 79 with fail;go_cut[252]from 245 to 252 (fun s252 wx=>∃g:Bool,s252=.bool g/\RowKit.Hid ((g=true->us'=true)/\∃n,wx=w.drewN n))
           case first=>
            have hi':=HF.2.1;have hi0:(i':Int)<=((s.size:Nat):Int):=(by omega);have HU:=Qh (fun w=>z93 (s.extract 0 i') w (by rw[ByteArray.size_extract];have:=HS.out;omega));clear hi';cases us'
            ·go_wp2_with fail;go_meet;exact⟨false,rfl,⟨(fun h=>by cases h),HW9.out⟩⟩
            ·go_wp2_with(go_at_call 168;refine(HU.out _).mono ?_;rintro e w10 ⟨⟨b,rfl⟩,hw10⟩);go_meet;exact⟨!b,rfl,⟨by simp,by obtain⟨a,ha⟩:=HW9.out;obtain⟨c,hc⟩:=hw10;exact⟨a+c,by rw[hc,ha,World.drewN_drewN]⟩⟩⟩
           case rest=>
            obtain⟨g,rfl,HG⟩:=hcut;generalize wc=w10 at*
            cases g
            ·go_wp2_with fail
             ((try simp only[Exit.inBlock,Exit.then]);(try rw[Exit.noGoto_ret]);refine bodyPost_ret (yq rfl _ _ _) rfl ?_)
             exact RdE.yes m i' p neg tr h us' rfl HM.out HF.2.1 HF.1 HG.2
            ·have HGT:=Qh (HG.1 rfl)
             go_wp2_with fail
             ((try simp only[Exit.inBlock,Exit.then]);(try rw[Exit.noGoto_ret]);refine bodyPost_ret (yq rfl _ _ _) rfl ?_)
             exact RdE.no m i' p neg tr h rfl HM.out HF.2.1 (Or.inr ⟨_,HF.1,HGT.out⟩) HG.2
end Go.Proofs.YtkkecpamnnojoaaGreatDoor
