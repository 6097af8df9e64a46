/- A part of the proof of ScriptParses: nothing is assumed. By an AI agent. -/
import Derived.Lib.AppendStr
import Derived.Test.YtkkecpamnnojoaaGreatDoorBz15
set_option linter.unusedVariables false
set_option linter.unusedSimpArgs false
set_option maxRecDepth 100000
set_option maxHeartbeats 32000000
namespace Go.Proofs.YtkkecpamnnojoaaGreatDoor
open Go.ChangeShapes Go.WideShapes Go.ChangeAt Go.RowKit
open Bt Dc By
namespace Sc
theorem z2E:∀(s cur:Str) (x:Str),x∈wsp cur s->x.length<=cur.length+s.length
 |[],cur,x,h=>by
  rw[wsp]at h;split at h
  ·simp at h
  ·simp at h;subst h;simp
 |c::s,cur,x,h=>by
  rw[wsp]at h;split at h
  ·split at h
   ·have:=z2E s [] x h;simp at this⊢;omega
   ·rcases List.mem_cons.1 h with rfl|h
    ·simp
    ·have:=z2E s [] x h;simp at this⊢;omega
  ·have:=z2E s (cur++[c]) x h;simp at this⊢;omega
theorem z2M(s:Str)(i:Nat):((zu s).getD i []).length<=s.length:=by
 rcases Nat.lt_or_ge i (zu s).length with h|h
 ·rw[List.getD_eq_getElem?_getD,List.getElem?_eq_getElem h];have:=z2E s [] _ (List.getElem_mem h);simpa using this
 ·rw[List.getD_eq_getElem?_getD,List.getElem?_eq_none h];simp
theorem z3j(σ:PS)(s:Str):yd σ s=(if(ya 35 s).all okB=false then .error 64
 else match zu (ya 35 s)with
 |[]=>.ok σ
 |w::ws=>
  if zk w=0 then .error 65
  else if nxt σ.st (zk w)=6\/(zk w=5/\σ.p.tasks=[])then .error 63
  else if full σ.p (zk w) ws.length=true then .error 9
  else if zF (zk w) w ws.length=false then .error 64
  else match zH σ.p (zk w) w ws with
   | .error e=>.error e
   | .ok p=>.ok ⟨p,nxt σ.st (zk w)⟩):=rfl
@[go_sem] theorem run_store_func {P:Program} {w:World} {a:Addr} {m:Mode} (f:Fn) (x y:Array Value):(store a (.func f x y) m).run P w=stored P w a (.func f x y) m:=run_store P w a _ m rfl
theorem zdM(K:Nat)(w:World):(binOp BinOp.eql 59 (.func (.func K) #[] #[]) .nilFunc).run Tryz.prog w=.ok (.bool false) w:=by kernel_rfl
theorem zf1(w:World):(binOp BinOp.eql 59 .nilFunc .nilFunc).run Tryz.prog w=.ok (.bool true) w:=by kernel_rfl
theorem zby(K:Nat)(w:World):(binOp BinOp.neq 59 (.func (.func K) #[] #[]) .nilFunc).run Tryz.prog w=.ok (.bool true) w:=by kernel_rfl
theorem zdj(w:World):(binOp BinOp.neq 59 .nilFunc .nilFunc).run Tryz.prog w=.ok (.bool false) w:=by kernel_rfl
theorem zbG{w:World}{own:Nat->Option T}{pb:Nat}{m:M}(B:Nat)(s:Str)(h:PAt w own pb m)(hE:Ev B w)(hs:s.length<=65536)(hlow:∀q,own q≠none->B<=q)(hfew:Few m.play)(hst:m.st<=5):
  Calls Tryz.prog 19 #[.pointer (some ⟨pb,0,none⟩),.string (zc s)] w (zfF own pb (yd m.ps_ s) w):=by
 have HH:=Qh (Qa h (Qa hE (Qa hlow (Qa hfew hst))));have HC:=Qh (zcv s 35 B w hE (by omega));have HR:=Qh (z3j m.ps_ s);have hal:=xB 35 s;rw[show(35:UInt8).toNat=35 from rfl]at HC;generalize ya 35 s=b at*
 have hbl:b.length<=65536:=Nat.le_trans hal hs;clear h hE hs hlow hfew hst hal;go_in;go_wp2_with fail;refine HC.mono ?_;clear HC;rintro e w1 ⟨rfl,nd,rfl⟩;have HPL:=Qh (fun(W:World)=>zd6 b W (by omega));have hpl1:PAt (w.drewN nd) own pb m:=HH.1.drewN nd;cases hall:b.all okB with
 |false=>
  rw[hall]at HPL;have HX:=Qh (show yd m.ps_ s=.error 64 from by rw[HR.out,hall];rfl);clear hall hpl1;go_wp2_with(go_at_call 42;refine(HPL.out _).mono ?_;rintro e w' ⟨rfl,rfl⟩);go_ret;exact Or.inr ⟨64,HX.out,by decide,rfl,((Keep.refl _ w).drewN nd)⟩
 |true=>
  rw[hall]at HPL;have HR1:=Qh (show yd m.ps_ s=(match zu b with
   |[]=>.ok m.ps_
   |w::ws=>
    if zk w=0 then .error 65
    else if nxt m.st (zk w)=6\/(zk w=5/\m.play.tasks=[])then .error 63
    else if full m.play (zk w) ws.length=true then .error 9
    else if zF (zk w) w ws.length=false then .error 64
    else match zH m.play (zk w) w ws with
     | .error e=>.error e
     | .ok p=>.ok ⟨p,nxt m.st (zk w)⟩)from by rw[HR.out,hall];rfl)
  clear hall HR;have HWM:=Qh (z70 (zc b));go_wp2_with(first
   |(go_at_call 42;refine(HPL.out _).mono ?_;rintro e w' ⟨rfl,rfl⟩)
   |(go_at_call 44;refine(HWM.out _).mono ?_;rintro e w' ⟨rfl,rfl⟩))
  obtain⟨q,hq⟩:=Qx w.heap.size;obtain⟨W,hW⟩:=Qx ((w.drewN nd).alloc (.cells #[.string (zc b)] 9));have hbW:W.heap[q]?=some (.cells #[.string (zc b)] 9 (0,0)):=(by rw[<-hW,<-hq];exact zm (w.drewN nd) _);have kW:Keep (fun _=>False) w W:=(by rw[<-hW];exact((Keep.refl _ w).drewN nd).alloc _);rw[hW,hq];clear hW;have hwl:(zu b).length<=b.length+1:=z0K b [];have HCO:=Qh (z42 q b W hbW (by omega) (by omega));have HWZ:=Qh (z2M b);have HW:=Qh (Qa kW True.intro);clear hpl1 hbW kW;refine HCO.mono ?_;clear HCO;rintro e w2 ⟨v,rfl,hrow,k2⟩;have k02:Keep (fun _=>False) w w2:=HW.1.own k2 fun i hi=>Or.inr (by omega);obtain⟨o,cap,rfl,hoc,hcap,hws⟩:=qh.of_row hrow;cases hwd:zu b with
  |nil=>
   rw[hwd]at HR1;have HX:=Qh (Qa HR1.out k02);clear hrow hoc hcap hws k2 k02;rw[show([]:List Str).length=0 from rfl];go_wp2_with fail;go_ret;exact Or.inl ⟨own,m,HX.1,rfl,HH.1.kept HX.2,To.kept HX.2⟩
  |cons x ws=>
   rw[hwd]at HR1 hcap hws hwl HWZ;obtain⟨g,f,rfl,-,hgl⟩:=hws 0 (by simp);obtain⟨cx,-⟩:=hws.at_ (i:=0) (by simp);simp at cx;have hg0:w.heap.size<=g:=by
    rcases hrow.2 with⟨h1,-⟩|⟨g',cap',cur,h1,h2,-⟩
    ·cases h1
    ·cases h1;exact Nat.le_trans HW.1.size h2
   have hgo:own g=none:=by
    cases hq2:own g with
    |none=>rfl
    |some t=>have:=HH.1.low g (by rw[hq2];simp);omega
   have HX:=Qh (Qa k02 (Qa hws hgo));have hp2:PAt w2 own pb m:=HH.1.kept k02;have c14:=za hp2.blk 14;have f14:=zd hp2.blk 14;have c10:=za hp2.blk 10;simp[M.cells]at c14 c10;obtain⟨ot,pt,htv⟩:=hp2.ts.len;rw[htv]at c10;have HP2:=Qh hp2;have HKI:=Qh (zeS x w2);rw[List.length_cons]at hcap hwl;have hn1:ws.length<=65536:=(by omega);clear hrow hoc hws k2 k02 hp2 htv hwd;rw[List.length_cons];obtain⟨n,hn⟩:=Qx ws.length;have HN:=Qh hn;rw[hn]at hcap hwl hn1⊢
   clear hn;have hkr:=z1h x;by_cases hk0:zk x=0
   ·have HZ:=Qh (show yd m.ps_ s=.error 65 from by rw[HR1.out];simp only[hk0,if_true]);rw[hk0]at HKI;clear hk0 hkr;go_wp2_with(go_at_call 45;refine HKI.mono ?_;rintro e w' ⟨rfl,hw⟩;obtain rfl:w2=w':=hw.symm);go_ret;exact Or.inr ⟨65,HZ.out,by decide,rfl,HX.1.mono fun _ _ h=>h.elim⟩
   ·have HR2:=Qh (show yd m.ps_ s=(if nxt m.st (zk x)=6\/(zk x=5/\m.play.tasks=[])then .error 63
     else if full m.play (zk x) ws.length=true then .error 9
     else if zF (zk x) x ws.length=false then .error 64
     else match zH m.play (zk x) x ws with
      | .error e=>.error e
      | .ok p=>.ok ⟨p,nxt m.st (zk x)⟩)from by rw[HR1.out];simp only[if_neg hk0])
    have HKK:=Qh (rfl:zk x=zk x);clear HR1;obtain⟨k,hk⟩:=Qx (zk x);have HKX:=Qh hk;rw[hk]at HKI HR2 hk0 hkr;clear hk HKK;have hk0':(k==0)=false:=(by rw[beq_eq_false_iff_ne];exact hk0);rw[z54 HH.2.2.2.2]at c14;have heg:=z4N HH.2.2.2.2;have HST:=Qh (z25 m.st HH.2.2.2.2 k w2);obtain⟨nx,hnx⟩:=Qx (nxt m.st k);have HNX:=Qh hnx;rw[hnx]at HST HR2;have hnx6:nx<=6:=(by rw[<-hnx];exact zbt);clear hnx;generalize stF m.st=K at*
    go_wp2_with(go_at_call 45;refine HKI.mono ?_;rintro e w' ⟨rfl,hw⟩;obtain rfl:w2=w':=hw.symm);refine HST.mono ?_;rintro e w' ⟨rfl,hw⟩;obtain rfl:w2=w':=hw.symm;clear HST HKI;obtain⟨e1,e2,e3,e4,e5⟩:=HH.2.2.2.1.mem;have q1:=zdM;have q2:=zf1;by_cases hn6:nx=6
    ·have HZ:=Qh (show yd m.ps_ s=.error 63 from by rw[HR2.out,if_pos (Or.inl hn6)]);rw[show stV nx=.nilFunc from by rw[hn6];rfl];clear hn6 hnx6;go_wp2_with fail;go_ret;exact Or.inr ⟨63,HZ.out,by decide,rfl,HX.1.mono fun _ _ h=>h.elim⟩
    ·have hnx5:nx<=5:=by omega
     rw[z54 hnx5];obtain⟨K2,hK2⟩:=Qx (stF nx);have HK2:=Qh hK2;rw[hK2];clear hK2;have HN5:=Qh (Qa hn6 hnx5);clear hn6 hnx6 hnx5;have htn:m.play.tasks=[]↔m.ts=[]:=(by unfold M.play;simp);by_cases hkt:k=5/\m.ts=[]
     ·have HZ:=Qh (show yd m.ps_ s=.error 63 from by rw[HR2.out,if_pos (Or.inr ⟨hkt.1,htn.2 hkt.2⟩)]);have b5:(k==5)=true:=(by rw[hkt.1];rfl);rw[hkt.2]at c10;rw[show([]:List MT).length=0 from rfl]at c10;clear hkt htn;go_wp2_with fail;go_ret;exact Or.inr ⟨63,HZ.out,by decide,rfl,HX.1.mono fun _ _ h=>h.elim⟩
     ·have HR3:=Qh (show yd m.ps_ s=(if full m.play k ws.length=true then .error 9
       else if zF k x ws.length=false then .error 64
       else match zH m.play k x ws with
        | .error e=>.error e
        | .ok p=>.ok ⟨p,nx⟩)from by rw[HR2.out,if_neg (fun h=>by rcases h with h|h;(exact HN5.1 h);exact hkt ⟨h.1,htn.1 h.2⟩)])
      have hk5:k=5->m.ts≠[]:=fun h e=>hkt ⟨h,e⟩;have hlen0:k=5->((m.ts.length:Int)==0)=false:=fun h=>(by rw[beq_eq_false_iff_ne];have:=List.length_pos_iff.2 (hk5 h);omega);have HF:=Qh (zc8 k n HP2.out (by omega) (by omega) (by omega) (by omega) hk5);rw[<-HN.out]at HF;have HK5:=Qh hk5;have hbb:((k==5)=false)\/((k==5)=true/\((m.ts.length:Int)==0)=false):=by
       by_cases h:k=5
       ·exact Or.inr ⟨by rw[h];rfl,hlen0 h⟩
       ·exact Or.inl (by rw[beq_eq_false_iff_ne];exact h)
      clear hkt htn HR2 hk5 hlen0;cases hfl:full m.play k ws.length with
      |true=>
       rw[hfl]at HF;have HZ:=Qh (show yd m.ps_ s=.error 9 from by rw[HR3.out,if_pos hfl]);rw[HN.out]at HF;clear hfl;rcases hbb with b5|⟨b5,b6⟩
       all_goals
        go_wp2_with(go_at_call 46;refine HF.mono ?_;rintro e wY ⟨rfl,j,rfl⟩);go_ret;exact Or.inr ⟨9,HZ.out,by decide,rfl,(HX.1.mono fun _ _ h=>h.elim).drewN _⟩
      |false=>
       rw[hfl]at HF
       have HR4:=Qh (show yd m.ps_ s=(if zF k x ws.length=false then .error 64
        else match zH m.play k x ws with
         | .error e=>.error e
         | .ok p=>.ok ⟨p,nx⟩)from by rw[HR3.out,if_neg (by rw[hfl];decide)])
       have HFL:=Qh hfl;rw[HN.out]at HF;have HCT:=Qh (fun(W:World) (hc:W.cell? ⟨g,f,none⟩=some (.string (zc x)))=>z7Z k x n g f cap W hc (by omega));rw[HN.out]at HR4;clear hfl HR3;cases hct:zF k x n with
       |false=>
        rw[hct]at HCT;have HZ:=Qh (show yd m.ps_ s=.error 64 from by rw[HR4.out,if_pos hct]);clear hct;rcases hbb with b5|⟨b5,b6⟩
        all_goals
         go_wp2_with(first
          |(go_at_call 46;refine HF.mono ?_;rintro e wY ⟨rfl,j,rfl⟩)
          |(go_at_call 47;refine(HCT.out _ (by first|assumption|exact cx)).mono ?_;rintro e w' ⟨rfl,rfl⟩))
         go_ret;exact Or.inr ⟨64,HZ.out,by decide,rfl,(HX.1.mono fun _ _ h=>h.elim).drewN _⟩
       |true=>
        rw[hct]at HCT;have HR5:=Qh (show yd m.ps_ s=(match zH m.play k x ws with
         | .error e=>.error e
         | .ok p=>.ok ⟨p,nx⟩)from by rw[HR4.out,if_neg (by rw[hct];decide)])
        have HCC:=Qh (show zF k x ws.length=true from by rw[HN.out];exact hct);clear hct HR4;rcases hbb with b5|⟨b5,b6⟩
        all_goals
         go_wp2_with(first
          |(go_at_call 46;refine HF.mono ?_;rintro e wY ⟨rfl,j,rfl⟩)
          |(go_at_call 47;refine(HCT.out _ (by first|assumption|exact cx)).mono ?_;rintro e w' ⟨rfl,rfl⟩))
         obtain⟨wZ,hwZ⟩:∃wZ,(w2.drewN j).setCell ⟨pb,14,none⟩ (.func (.func K2) #[] #[])=wZ:=⟨_,rfl⟩;rw[hwZ];have hbZ:wZ.heap[pb]?=some (.cells (M.cells {m with st:=nx}) 61 (0,0)):=(by rw[<-hwZ];have h:=zg (w:=w2.drewN j) (b:=pb) HP2.blk 14 (.func (.func K2) #[] #[]);rw[h,<-HK2.out,<-z54 HN5.2];rfl);have kZ:Keep (fun q=>q=pb) w2 wZ:=(by rw[<-hwZ];exact((Keep.refl (fun q=>q=pb) w2).drewN j).setCell (p:=⟨pb,14,none⟩) (Or.inl rfl) _);clear hwZ;obtain⟨hpZ,htZ⟩:=PAt.scalars (m':={m with st:=nx}) HP2.out kZ hbZ rfl rfl rfl rfl rfl rfl rfl rfl;have htoZ:To own own w wZ:=(To.kept HX.1).trans htZ;have hgp:g≠pb:=by intro e;have h1:=HX.2.2;rw[e,HP2.tag]at h1;cases h1
         have HTK:=Qh (zaG (m:={m with st:=nx}) (B:=B) (g:=g) (f:=f) (cl:=cap) (x:=x) (ws:=ws) k {
           p:=hpZ
           ev:=HH.2.1.on (htoZ.keep.below HH.2.1.le HH.2.2.1)
           wat:=HX.2.1.keep kZ fun g' f' h=>by cases h;exact hgp
           sz:=fun i=>Nat.le_trans (HWZ.out i) (by omega)
           cap:=by rw[HN.out];omega
           len:=by rw[HN.out];omega
           free:=HX.2.2
           low:=HH.2.2.1
           es:=(by omega:m.es.length<=1048576)
           ts:=(by omega:m.ts.length<=1048576)
           ps:=(by omega:m.ps.length<=1048576)
           al:=(by omega:(yb m).length<=1048576)
           cl_:=(by omega:(zx m).length<=1048576)} (by omega) (by omega) HKX.out HK5.out HCC.out)
         rw[HN.out]at HTK;have HTO:=Qh htoZ;clear hbZ kZ hpZ htZ htoZ;refine HTK.mono ?_;clear HTK;intro e w' hr;rcases hr with⟨p,own',m',h1,rfl,h2,h3,h4,h5⟩|⟨c,h1,h2,rfl,h3⟩
         ·have HQ:=Qh (Qa h1 (Qa h2 (Qa h3 (Qa h4 h5))));clear h1 h2 h3 h4 h5;go_wp2_with fail;go_ret;refine Or.inl ⟨own',m',?_,rfl,HQ.2.1,HTO.trans HQ.2.2.2.2⟩;rw[HR5.out,show zH m.play k x ws=.ok p from HQ.1];show Except.ok (⟨p,nx⟩:PS)=.ok ⟨m'.play,m'.st⟩;rw[HQ.2.2.1,HQ.2.2.2.1]
         ·have HQ:=Qh (Qa h1 (Qa h2 h3));clear h1 h2 h3;go_wp2_with fail;go_ret;refine Or.inr ⟨c,?_,HQ.2.1,rfl,(HTO.keep.trans (HQ.2.2.mono fun _ _ h=>h))⟩;rw[HR5.out,show zH m.play k x ws=.error c from HQ.1]
end Sc
end Go.Proofs.YtkkecpamnnojoaaGreatDoor
namespace Go.Proofs.YtkkecpamnnojoaaGreatDoor
open Go.ChangeShapes Go.WideShapes Go.ChangeAt Go.RowKit Go.Shelf
open Bt Dc By
attribute [local go_sem] Oper.semAt_some
namespace Sc
theorem qz:∀(l1 l2:List Str) (σ:PS) (n:Nat),zC σ n (l1++l2)=match zC σ n l1 with
  | .error e=>.error e
  | .ok σ'=>zC σ' (n+l1.length) l2
 |[],l2,σ,n=>rfl
 |s::l1,l2,σ,n=>by
  rw[List.cons_append,zC,zC];cases yd σ s with
  |error e=>rfl
  |ok σ'=>
   simp only[];rw[qz l1 l2 σ' (n+1),List.length_cons,show n+1+l1.length=n+(l1.length+1) by omega]
theorem z0T:∀(s:Str) (x:Str),x∈zA s->x.length<=s.length
 |[],x,h=>by simp[zA]at h
 |c::s,x,h=>by
  rw[z0l]at h;split at h
  ·rcases List.mem_cons.1 h with rfl|h
   ·simp
   ·have:=z0T s x h;simp;omega
  ·split at h
   ·simp at h;subst h;simp
   ·rename_i l ls hl
    rcases List.mem_cons.1 h with rfl|h
    ·have:=z0T s l (by rw[hl];simp);simp;omega
    ·have:=z0T s x (by rw[hl];simp[h]);simp;omega
theorem z4z:∀(s:Str),(zA s).length<=s.length
 |[]=>Nat.le_refl _
 |c::s=>by
  have ih:=z4z s;rw[z0l];split
  ·simp;omega
  ·split
   ·simp
   ·rename_i l ls hl
    rw[hl]at ih;simp at ih⊢
    omega
theorem z3t{σ σ':PS}{s:Str}(h:Few σ.p)(hs:σ.st<=5)(hl:yd σ s=.ok σ'):Few σ'.p/\σ'.st<=5:=by
 rw[z3j]at hl;by_cases h1:(ya 35 s).all okB=false
 ·rw[if_pos h1]at hl;cases hl
 rw[if_neg h1]at hl;cases hw:zu (ya 35 s)with
 |nil=>rw[hw]at hl;cases hl;exact⟨h,hs⟩
 |cons x ws=>
  rw[hw]at hl;simp only[]at hl;by_cases h2:zk x=0
  ·rw[if_pos h2]at hl;cases hl
  rw[if_neg h2]at hl;by_cases h3:nxt σ.st (zk x)=6\/(zk x=5/\σ.p.tasks=[])
  ·rw[if_pos h3]at hl;cases hl
  rw[if_neg h3]at hl;by_cases h4:full σ.p (zk x) ws.length=true
  ·rw[if_pos h4]at hl;cases hl
  rw[if_neg h4]at hl;by_cases h5:zF (zk x) x ws.length=false
  ·rw[if_pos h5]at hl;cases hl
  rw[if_neg h5]at hl;cases ht:zH σ.p (zk x) x ws with
  |error e=>rw[ht]at hl;cases hl
  |ok p=>
   rw[ht]at hl;cases hl;have hr:=z1h x;refine⟨zch h (by omega) hr.2 (by simpa using h4) ht,?_⟩;have:=zbt (st:=σ.st) (k:=zk x);have h6:nxt σ.st (zk x)≠6:=fun e=>h3 (Or.inl e);show nxt σ.st (zk x)<=5;omega
structure LAt (w:World) (own:Nat->Option T) (m:M):Prop where
 low:∀g,own g≠none->g<w.heap.size
 fs:RowT w own (1,0,0) 114 3 m.fv m.fs.length (fsv m.fs)
 ts:RowT w own (2,0,0) 56 1 m.tv m.ts.length (m.ts.map (·.v))
 calls:∀i t,m.ts[i]?=some t->CallsAt w own i t
 ps:RowT w own (5,0,0) 3 1 m.pv m.ps.length (m.ps.map (Value.int .i64))
 es:RowT w own (6,0,0) 82 3 m.ev m.es.length (m.es.flatMap ME.cells)
 ends:∀i e,m.es[i]?=some e->EndAt w own i e
theorem LAt.keep{w w':World}{own:Nat->Option T}{m:M}{bs:Nat->Prop}(h:LAt w own m)(k:Keep bs w w')(hn:∀g,own g≠none->¬bs g):LAt w' own m where
 low:=fun g hg=>Nat.lt_of_lt_of_le (h.low g hg) k.size
 fs:=h.fs.move k (fun g hg=>hn g (by rw[hg];simp)) (fun g hg=>hg)
 ts:=h.ts.move k (fun g hg=>hn g (by rw[hg];simp)) (fun g hg=>hg)
 calls:=fun i t ht=>(h.calls i t ht).move k (fun g n j _ hg=>hn g (by rw[hg];simp)) (fun g n j _ hg=>hg)
 ps:=h.ps.move k (fun g hg=>hn g (by rw[hg];simp)) (fun g hg=>hg)
 es:=h.es.move k (fun g hg=>hn g (by rw[hg];simp)) (fun g hg=>hg)
 ends:=fun i e he=>(h.ends i e he).move k (fun g n j _ hg=>hn g (by rw[hg];simp)) (fun g n j _ hg=>hg)
def m0:M:=⟨0,0,0,0,0,0,0,0,0,.slice none 0 0,[],.slice none 0 0,[],.slice none 0 0,[],0,.slice none 0 0,[],0⟩
def M.val(m:M):Array Value:=
 #[.int .i64 m.disk,.int .i64 m.segMax,.int .i64 m.base,.int .i64 m.qcap,.int .i64 m.qbytes,.int .i64 m.pmost,.int .i64 m.pbytes,.float .f64 m.linger,.float .f64 m.alpha,
  m.fv,m.tv,m.pv,.int .i64 m.most,m.ev]
theorem LAt.zero(w:World):LAt w (fun _=>none) m0 where
 low:=fun g h=>absurd rfl h
 fs:=RowT.nil _ _ _ _ _
 ts:=RowT.nil _ _ _ _ _
 calls:=fun i t h=>by simp[m0]at h
 ps:=RowT.nil _ _ _ _ _
 es:=RowT.nil _ _ _ _ _
 ends:=fun i t h=>by simp[m0]at h
theorem qy(tmps:Array Value)(w:World)(q:Nat)(cs:Array Value)(n c:Int)(h2:tmps.getD 2 undef=.pointer (some ⟨q,0,none⟩))(h3:tmps.getD 3 undef=.pointer (some ⟨q+1,0,none⟩))(h4:tmps.getD 4 undef=.pointer (some ⟨q+1+1,0,none⟩))
  (b0:w.heap[q]?=some (.cells cs 40 (0,0)))(hs:cs.size=14)(b1:w.heap[q+1]?=some (.cells #[.int .i64 n] 3 (0,0)))(b2:w.heap[q+1+1]?=some (.cells #[.int .i64 c] 41 (0,0))):
  (results Tryz.f8 tmps).run Tryz.prog w=.ok (.tuple #[.agg cs,.int .i64 n,.int .i64 c]) w:=by
 have h1:=run_loadVar_row (P:=Tryz.prog) w q 40 40 cs (0,0) _ b0 Tryz.underlying40 rfl (by rw[hs];kernel_rfl);have c1:=za b1 0;have c2:=za b2 0;simp at c1 c2;have k1:(loadVar 3 ⟨q+1,0,none⟩).run Tryz.prog w=.ok (.int .i64 n) w:=(by simp[go_sem,c1]);have k2:(loadVar 41 ⟨q+1+1,0,none⟩).run Tryz.prog w=.ok (.int .i64 c) w:=(by simp[go_sem,c2]);have e2:tmps[2]?.getD undef=.pointer (some ⟨q,0,none⟩):=(by simpa using h2);have e3:tmps[3]?.getD undef=.pointer (some ⟨q+1,0,none⟩):=(by simpa using h3);have e4:tmps[4]?.getD undef=.pointer (some ⟨q+1+1,0,none⟩):=(by simpa using h4);simp[results,Tryz.results8,e2,e3,e4,asAddr,h1,k1,k2]
theorem zfm(w:World)(o0 o1 o2 o3 o4 o5 o6:Obj):∃W,(((((((w.alloc o0).alloc o1).alloc o2).alloc o3).alloc o4).alloc o5).alloc o6)=W/\W.heap[w.heap.size]?=some o0/\W.heap[w.heap.size+1]?=some o1/\W.heap[w.heap.size+1+1]?=some o2/\W.heap[w.heap.size+1+1+1]?=some o3
  /\W.heap[w.heap.size+1+1+1+1]?=some o4/\W.heap[w.heap.size+1+1+1+1+1]?=some o5/\W.heap[w.heap.size+1+1+1+1+1+1]?=some o6/\W.heap.size=w.heap.size+1+1+1+1+1+1+1/\Keep (fun _=>False) w W:=by
 refine⟨_,rfl,zr (zr (zr (zr (zr (zr (zm w o0) _) _) _) _) _) _,zr (zr (zr (zr (zr (zP _ _ ?_) _) _) _) _) _,zr (zr (zr (zr (zP _ _ ?_) _) _) _) _,zr (zr (zr (zP _ _ ?_) _) _) _,zr (zr (zP _ _ ?_) _) _,zr (zP _ _ ?_) _,zP _ _ ?_,?_,(((((((Keep.refl _ w).alloc _).alloc _).alloc _).alloc _).alloc _).alloc _).alloc _⟩<;>simp
structure PI (w0:World) (q:Nat) (pre:List Str) (W:World) (own:Nat->Option T) (m:M):Prop where
 read:zC ⟨zX,0⟩ 0 pre=.ok m.ps_
 pat:PAt W own (q+1+1+1) m
 no:∀g,g<=q+8->g≠q+1+1+1->own g=none
 few:Few m.play
 st:m.st<=5
 r0:W.heap[q]?=some (.cells m0.val 40 (0,0))
 r1:W.heap[q+1]?=some (.cells #[.int .i64 0] 3 (0,0))
 r2:W.heap[q+1+1]?=some (.cells #[.int .i64 0] 41 (0,0))
 bx:W.heap[q+1+1+1+1]?=some (.cells #[.pointer (some ⟨q+1+1+1,0,none⟩)] 57 (0,0))
 bn:W.heap[q+1+1+1+1+1]?=some (.cells #[.int .i64 (pre.length:Int)] 3 (0,0))
 k:Keep (fun _=>False) w0 W
theorem PI.keep{w0:World}{q:Nat}{pre:List Str}{W W':World}{own:Nat->Option T}{m:M}{bs:Nat->Prop}(h:PI w0 q pre W own m)(hq:w0.heap.size=q)(k:Keep bs W W')(hn:∀g,bs g->q+6<=g/\own g=none):PI w0 q pre W' own m where
 read:=h.read
 pat:=h.pat.keep k fun g hg hb=>hg (hn g hb).2
 no:=h.no
 few:=h.few
 st:=h.st
 r0:=k.same h.r0 fun hb=>by have:=(hn _ hb).1;omega
 r1:=k.same h.r1 fun hb=>by have:=(hn _ hb).1;omega
 r2:=k.same h.r2 fun hb=>by have:=(hn _ hb).1;omega
 bx:=k.same h.bx fun hb=>by have:=(hn _ hb).1;omega
 bn:=k.same h.bn fun hb=>by have:=(hn _ hb).1;omega
 k:=h.k.own k fun i hb=>Or.inr (by have:=(hn _ hb).1;omega)
structure PX (w0:World) (q:Nat) (pre:List Str) (W:World) (c:Int):Prop where
 read:zC ⟨zX,0⟩ 0 pre=.error (pre.length,c)
 r0:W.heap[q]?=some (.cells m0.val 40 (0,0))
 r1:W.heap[q+1]?=some (.cells #[.int .i64 (pre.length:Int)] 3 (0,0))
 r2:W.heap[q+1+1]?=some (.cells #[.int .i64 c] 41 (0,0))
 k:Keep (fun _=>False) w0 W
theorem PX.keep{w0:World}{q:Nat}{pre:List Str}{W W':World}{c:Int}{bs:Nat->Prop}(h:PX w0 q pre W c)(hq:w0.heap.size=q)(k:Keep bs W W')(hn:∀g,bs g->q+6<=g):PX w0 q pre W' c where
 read:=h.read
 r0:=k.same h.r0 fun hb=>by have:=hn _ hb;omega
 r1:=k.same h.r1 fun hb=>by have:=hn _ hb;omega
 r2:=k.same h.r2 fun hb=>by have:=hn _ hb;omega
 k:=h.k.own k fun i hb=>Or.inr (by have:=hn _ hb;omega)
def zcH(s:Str)(w:World)(e:Ending)(w':World):Prop:=
 ∃(m:M) (own:Nat->Option T) (n c:Int),e=.returned (.tuple #[.agg m.val,.int .i64 n,.int .i64 c])/\((m.play,n,c):Play×Int×Int)=((yl s).1,((yl s).2.1:Int),(yl s).2.2)/\LAt w' own m/\(∀g,own g≠none->w.heap.size<=g)/\Keep (fun _=>False) w w'
theorem PI.low{w0:World}{q:Nat}{pre:List Str}{W:World}{own:Nat->Option T}{m:M}(h:PI w0 q pre W own m){g:Nat}(hg:own g≠none):g=q+1+1+1\/q+8<g:=by
 by_cases h1:g=q+1+1+1
 ·exact Or.inl h1
 ·right;apply Nat.lt_of_not_le;intro h2;exact hg (h.no g h2 h1)
theorem z8y{st:Nat}{k:Int}(h0:¬st<=1)(h5:st<=5)(hk:k=1\/k=2):nxt st k=6:=by obtain rfl|rfl|rfl|rfl:st=2\/st=3\/st=4\/st=5:=(by omega);all_goals(rcases hk with rfl|rfl<;>rfl)
theorem PAt.leave{w:World}{own:Nat->Option T}{pb:Nat}{m:M}(h:PAt w own pb m):LAt w (fun g=>if g=pb then none else own g) m:=by
 have ho:∀g (t:T),t.1≠0->own g=some t->(if g=pb then none else own g)=some t:=fun g t h1 h2=>by
  rw[if_neg]
  ·exact h2
  ·intro e;subst e;rw[h.tag]at h2;cases h2;exact h1 rfl
 have k:=Keep.refl (fun _=>False) w
 refine⟨fun g hg=>?_,h.fs.move k (fun _ _=>id) fun g=>ho g _ (by decide),h.ts.move k (fun _ _=>id) fun g=>ho g _ (by decide),fun i t ht=>(h.calls i t ht).move k (fun _ _ _ _ _=>id) fun g n j hn=>ho g _ (by show n≠0;omega),
  h.ps.move k (fun _ _=>id) fun g=>ho g _ (by decide),h.es.move k (fun _ _=>id) fun g=>ho g _ (by decide),fun i e he=>(h.ends i e he).move k (fun _ _ _ _ _=>id) fun g n j hn=>ho g _ (by show n≠0;omega)⟩
 by_cases e:g=pb
 ·simp[e]at hg
 ·rw[if_neg e]at hg;exact h.low g hg
theorem zbk{w W:World}{q:Nat}(hq:w.heap.size=q)
  (b0:W.heap[q]?=some (.cells m0.val 40 (0,0)))(b1:W.heap[q+1]?=some (.cells #[.int .i64 0] 3 (0,0)))(b2:W.heap[q+1+1]?=some (.cells #[.int .i64 0] 41 (0,0)))
  (b3:W.heap[q+1+1+1]?=some (.cells m0.cells 61 (0,0)))(b4:W.heap[q+1+1+1+1]?=some (.cells #[.pointer (some ⟨q+1+1+1,0,none⟩)] 57 (0,0)))
  (b5:W.heap[q+1+1+1+1+1]?=some (.cells #[.int .i64 0] 3 (0,0)))(k:Keep (fun _=>False) w W):∃own m,PI w q [] W own m:=by
 refine⟨fun g=>if g=q+1+1+1 then some (0,0,0)else none,m0,rfl,⟨?_,b3,by simp,RowT.nil _ _ _ _ _,RowT.nil _ _ _ _ _,?_,RowT.nil _ _ _ _ _,RowT.nil _ _ _ _ _,?_⟩,?_,zfv,by decide,b0,b1,b2,b4,b5,k⟩
 ·intro g hg
  by_cases h:g=q+1+1+1
  ·subst h;exact lt_of_block b3
  ·simp[h]at hg
 ·intro i t h;simp[m0]at h
 ·intro i t h;simp[m0]at h
 ·intro g _ h;simp only[if_neg h]
theorem z2i(V:World)(q:Nat)(n c:Int)(x y:Int)(v0 v1 v2 v3 v4 v5 v6 v7 v8 v9 v10 v11 v12 v13:Value)(r0:V.heap[q]?=some (.cells m0.val 40 (0,0)))(r1:V.heap[q+1]?=some (.cells #[.int .i64 x] 3 (0,0)))(r2:V.heap[q+1+1]?=some (.cells #[.int .i64 y] 41 (0,0))):
  ∃W,(((((((((((((((V.setCell ⟨q,0,none⟩ v0).setCell ⟨q,1,none⟩ v1).setCell ⟨q,2,none⟩ v2).setCell ⟨q,3,none⟩ v3).setCell ⟨q,4,none⟩ v4).setCell ⟨q,5,none⟩ v5).setCell ⟨q,6,none⟩ v6).setCell ⟨q,7,none⟩ v7).setCell ⟨q,8,none⟩ v8).setCell ⟨q,9,none⟩ v9).setCell ⟨q,10,none⟩ v10).setCell ⟨q,11,none⟩ v11).setCell ⟨q,12,none⟩ v12).setCell ⟨q,13,none⟩ v13).setCell ⟨q+1,0,none⟩ (.int .i64 n)).setCell ⟨q+1+1,0,none⟩ (.int .i64 c)=W/\W.heap[q]?=some (.cells #[v0,v1,v2,v3,v4,v5,v6,v7,v8,v9,v10,v11,v12,v13] 40 (0,0))/\W.heap[q+1]?=some (.cells #[.int .i64 n] 3 (0,0))/\W.heap[q+1+1]?=some (.cells #[.int .i64 c] 41 (0,0))/\Keep (fun g=>g=q\/g=q+1\/g=q+1+1) V W:=by
 obtain⟨W,hW⟩:∃W,((((((((((((((V.setCell ⟨q,0,none⟩ v0).setCell ⟨q,1,none⟩ v1).setCell ⟨q,2,none⟩ v2).setCell ⟨q,3,none⟩ v3).setCell ⟨q,4,none⟩ v4).setCell ⟨q,5,none⟩ v5).setCell ⟨q,6,none⟩ v6).setCell ⟨q,7,none⟩ v7).setCell ⟨q,8,none⟩ v8).setCell ⟨q,9,none⟩ v9).setCell ⟨q,10,none⟩ v10).setCell ⟨q,11,none⟩ v11).setCell ⟨q,12,none⟩ v12).setCell ⟨q,13,none⟩ v13)=W:=⟨_,rfl⟩;have k:Keep (fun g=>g=q) V W:=(by rw[<-hW];exact(((((((((((((((Keep.refl (fun g=>g=q) V).setCell (p:=⟨q,0,none⟩) (Or.inl rfl) _).setCell (p:=⟨q,1,none⟩) (Or.inl rfl) _).setCell (p:=⟨q,2,none⟩) (Or.inl rfl) _).setCell (p:=⟨q,3,none⟩) (Or.inl rfl) _).setCell (p:=⟨q,4,none⟩) (Or.inl rfl) _).setCell (p:=⟨q,5,none⟩) (Or.inl rfl) _).setCell (p:=⟨q,6,none⟩) (Or.inl rfl) _).setCell (p:=⟨q,7,none⟩) (Or.inl rfl) _).setCell (p:=⟨q,8,none⟩) (Or.inl rfl) _).setCell (p:=⟨q,9,none⟩) (Or.inl rfl) _).setCell (p:=⟨q,10,none⟩) (Or.inl rfl) _).setCell (p:=⟨q,11,none⟩) (Or.inl rfl) _).setCell (p:=⟨q,12,none⟩) (Or.inl rfl) _).setCell (p:=⟨q,13,none⟩) (Or.inl rfl) _));have b:W.heap[q]?=some (.cells #[v0,v1,v2,v3,v4,v5,v6,v7,v8,v9,v10,v11,v12,v13] 40 (0,0)):=(by rw[<-hW];have h:=r0;simp only[m0,M.val]at h;replace h:=zg h 0 v0;replace h:=zg h 1 v1;replace h:=zg h 2 v2;replace h:=zg h 3 v3;replace h:=zg h 4 v4;replace h:=zg h 5 v5;replace h:=zg h 6 v6;replace h:=zg h 7 v7;replace h:=zg h 8 v8;replace h:=zg h 9 v9;replace h:=zg h 10 v10;replace h:=zg h 11 v11;replace h:=zg h 12 v12;replace h:=zg h 13 v13;simp only[List.setIfInBounds_toArray,List.set_cons_zero,List.set_cons_succ]at h;exact h);have b1:=k.same r1 (by omega);have b2:=k.same r2 (by omega);rw[hW];refine⟨_,rfl,?_,?_,?_,?_⟩
 ·exact zS (zS b (by omega) _ _) (by omega) _ _
 ·exact zS (zg b1 0 _) (by omega) _ _
 ·exact zg (zS b2 (by omega) _ _) 0 _
 ·have k':Keep (fun g=>g=q\/g=q+1\/g=q+1+1) V W:=k.mono fun _ _ h=>Or.inl h;exact(k'.setCell (p:=⟨q+1,0,none⟩) (Or.inl (Or.inr (Or.inl rfl))) _).setCell (p:=⟨q+1+1,0,none⟩) (Or.inl (Or.inr (Or.inr rfl))) _
theorem zcg(V:World)(q:Nat)(n c:Int)(x y:Int)(v0 v1 v2 v3 v4 v5 v6 v7 v8 v9 v10 v11 v12 v13:Value)(r0:V.heap[q]?=some (.cells m0.val 40 (0,0)))(r1:V.heap[q+1]?=some (.cells #[.int .i64 x] 3 (0,0)))(r2:V.heap[q+1+1]?=some (.cells #[.int .i64 y] 41 (0,0))):
  ∃W,((((((((((((((((V.setCell ⟨q,0,none⟩ v0).setCell ⟨q,1,none⟩ v1).setCell ⟨q,2,none⟩ v2).setCell ⟨q,3,none⟩ v3).setCell ⟨q,4,none⟩ v4).setCell ⟨q,5,none⟩ v5).setCell ⟨q,6,none⟩ v6).setCell ⟨q,7,none⟩ v7).setCell ⟨q,8,none⟩ v8).setCell ⟨q,9,none⟩ v9).setCell ⟨q,10,none⟩ v10).setCell ⟨q,11,none⟩ v11).setCell ⟨q,12,none⟩ v12).setCell ⟨q,13,none⟩ v13).setCell ⟨q+1,0,none⟩ (.int .i64 n)).setCell ⟨q+1+1,0,none⟩ (.int .i64 c)).drew=W/\W.heap[q]?=some (.cells #[v0,v1,v2,v3,v4,v5,v6,v7,v8,v9,v10,v11,v12,v13] 40 (0,0))/\W.heap[q+1]?=some (.cells #[.int .i64 n] 3 (0,0))/\W.heap[q+1+1]?=some (.cells #[.int .i64 c] 41 (0,0))/\Keep (fun g=>g=q\/g=q+1\/g=q+1+1) V W:=by
 obtain⟨W,hW,h0,h1,h2,k⟩:=z2i V q n c x y v0 v1 v2 v3 v4 v5 v6 v7 v8 v9 v10 v11 v12 v13 r0 r1 r2;rw[hW];exact⟨_,rfl,h0,h1,h2,k.drewN 1⟩
theorem xx(s:Str)(w:World)(hE:Ev w.heap.size w):Calls Tryz.prog 8 #[.string (zc s)] w (zcH s w):=by
 have HE:=Qh hE;have hz:((zc s).size:Int)=(s.length:Int):=(by rw[zw]);obtain⟨q,hq⟩:=Qx w.heap.size;refine(callsIn_wide (n:=4)).1 ?_;refine callsIn_of_wp_marks Tryz.func8 rfl trivial ?_ rfl;simp only[Tryz.ntmps8,List.size_toArray,List.length_cons,List.length_nil,Nat.reduceAdd,Nat.reduceSub,Array.replicate_succ,Array.replicate_zero,List.push_toArray,List.append_toArray,List.nil_append,List.cons_append];rcases Nat.lt_or_ge 65536 s.length with hl|hl
 ·have hl1:(65536:Int)<(s.length:Int):=(by omega);have hP:yl s=(zX,0,3):=(by unfold yl;rw[if_pos hl]);clear hE;gi_wp2;refine⟨_,qy _ _ q m0.val 0 3 rfl rfl rfl (zr (zr (zP w _ hq) _) _) rfl (zr (zP _ _ (by simp[hq])) _) (zP _ _ (by simp[hq])),?_⟩;exact⟨m0,fun _=>none,0,3,rfl,by rw[hP];rfl,LAt.zero _,fun g h=>absurd rfl h,(((Keep.refl _ w).alloc _).alloc _).alloc _⟩
 ·have hl1:¬(65536:Int)<(s.length:Int):=by omega
  have hfl:Fence.wide.fn 18:=trivial;have HLM:=Qh (z7R (zc s));have HL:=Qh hl;clear hE hl;gi_wp2_with(gi_at_call 18;refine(callsIn_wide.2 (HLM.out _)).mono ?_;rintro e w' ⟨rfl,rfl⟩)
  obtain⟨W,hW,b0,b1,b2,b3,b4,b5,b6,hsz,kW⟩:=zfm w (.cells #[.int .i64 0,.int .i64 0,.int .i64 0,.int .i64 0,.int .i64 0,.int .i64 0,.int .i64 0,.float .f64 0,.float .f64 0,.slice none 0 0,.slice none 0 0,.slice none 0 0,.int .i64 0,.slice none 0 0] 40) (.cells #[.int .i64 0] 3) (.cells #[.int .i64 0] 41)
   (.cells #[.int .i64 0,.int .i64 0,.int .i64 0,.int .i64 0,.int .i64 0,.int .i64 0,.int .i64 0,.float .f64 0,.float .f64 0,.slice none 0 0,.slice none 0 0,.slice none 0 0,.int .i64 0,.slice none 0 0,.func (.func 17) #[] #[]] 61) (.cells #[.pointer (some ⟨q+1+1+1,0,none⟩)] 57) (.cells #[.int .i64 0] 3) (.cells #[.string (zc s)] 9)
  rw[hW];rw[hq]at b0 b1 b2 b3 b4 b5 b6 hsz;clear hW;have HI0:=Qh (zbk hq b0 b1 b2 b3 b4 b5 kW);have hsz7:W.heap.size=q+7:=(by omega);have HLG:=Qh (z6m 3 q (q+1+1+1+1+1+1) s W (by omega) (by omega) (by rw[<-hq];exact HE.kept kW.none) b6 (by have:=HL.out;omega));clear b0 b1 b2 b3 b4 b5 b6 kW hsz
  refine It.z6a rfl (by omega) (gf:=40) (lb:=#[.pointer (some ⟨q+1+1+1+1+1+1,0,none⟩)]) rfl trivial (enters_of Tryz.func40 (by kernel_rfl) rfl) (encs:=fun x:Str=>#[.string (zc x)]) (fun _=>rfl) q (q+1+1+1+1+1+1) (by omega) (by omega) (zA s) HLG.out
   (fun pre A=>∃own m,PI w q pre A own m) (fun pre A=>∃c,PX w q pre A c)
   ?hIg ?hIb ?hIl ?hIxl ?h0 (fun x:Str=>{tmps:=#[.string (zc s),undef,.pointer (some ⟨q,0,none⟩),.pointer (some ⟨q+1,0,none⟩),.pointer (some ⟨q+1+1,0,none⟩),.pointer (some ⟨q+1+1+1+1,0,none⟩),.pointer (some ⟨q+1+1+1+1+1,0,none⟩),.string (zc x),undef,.string (zc s),.int .i64 (s.length:Int),.bool false,undef,.agg #[.int .i64 0,.int .i64 0,.int .i64 0,.int .i64 0,.int .i64 0,.int .i64 0,.int .i64 0,.float .f64 0,.float .f64 0,.slice none 0 0,.slice none 0 0,.slice none 0 0,.int .i64 0,.slice none 0 0,.func (.func 17) #[] #[]],.pointer (some ⟨q+1+1+1,0,none⟩),.string (zc s),.func (.func 40) #[] #[.pointer (some ⟨q+1+1+1+1+1+1,0,none⟩)],.string (zc x),undef,undef,undef,undef,undef,undef,undef,undef,undef,undef,undef,undef,undef,undef,undef,undef,undef,undef,undef,undef,undef,undef,undef,undef,undef,undef,undef,undef,undef],defers:=[]}) ?assign ?body ?done ?stop
  case hIg=>
   rintro pre A A' ⟨own,m,h⟩ hg;exact⟨own,m,h.keep hq (⟨hg.os,hg.tape,hg.output,hg.size,fun i hi _=>hg.block i hi (by simp)⟩:Keep (fun _=>False) A A') fun _ h=>h.elim⟩
  case hIb=>
   rintro pre A v ⟨own,m,h⟩;refine⟨own,m,h.keep hq ((Keep.refl (fun g=>g=q+1+1+1+1+1+1) A).setCell (p:=⟨q+1+1+1+1+1+1,0,none⟩) (Or.inl rfl) v) ?_⟩;rintro g rfl;exact⟨by omega,h.no _ (by omega) (by omega)⟩
  case hIl=>
   rintro pre A o lp ⟨own,m,h⟩ hl;rw[hsz7]at hl⊢
   refine⟨own,m,h.keep hq (bs:=fun g=>g=q+7+1) ⟨rfl,rfl,rfl,by simp,fun i _ hn=>World.putObj_heap_other hn⟩ ?_⟩;rintro g rfl;exact⟨by omega,h.no _ (by omega) (by omega)⟩
  case hIxl=>
   rintro pre A o lp ⟨c,h⟩ hl;rw[hsz7]at hl⊢
   refine⟨c,h.keep hq (bs:=fun g=>g=q+7+1) ⟨rfl,rfl,rfl,by simp,fun i _ hn=>World.putObj_heap_other hn⟩ ?_⟩;rintro g rfl;omega
  case h0=>exact HI0.out
  case assign=>
   intro l x W K hK;gi_wp2;exact hK
  case body=>
   rintro l pre x W hpre hD ⟨lp,hLp⟩ ⟨own,m,hPI⟩;rw[hsz7]at hD hLp⊢
   have hxs:x∈zA s:=(by obtain⟨t,ht⟩:=hpre;rw[<-ht];simp);have hx:x.length<=65536:=Nat.le_trans (z0T s x hxs) HL.out;have hlen:pre.length+1<=65536:=(by have h1:=hpre.length_le;have h2:=z4z s;have h3:=HL.out;simp at h1;omega);have hPA:zC ⟨zX,0⟩ 0 (pre++[x])=(match yd m.ps_ x with| .error e=>.error (pre.length+1,e)| .ok σ'=>.ok σ'):=by
    rw[qz,hPI.read];simp only[];rw[zC];cases yd m.ps_ x with
    |error e=>simp
    |ok σ'=>rfl
   have c5:=za hPI.bx 0;have cn:=za hPI.bn 0;have fn_:=zd hPI.bn 0;simp at c5 cn;have HH:=Qh (Qa hPI (Qa hD (Qa hLp (Qa hx (Qa hPA hlen)))));have hm:(pre.length:Int)+1<=65536:=(by omega);have hm0:(0:Int)<=(pre.length:Int):=(by omega);have hfn:Fence.wide.fn 19:=trivial;generalize hN:(pre.length:Int)=N at*
   clear hPI hD hLp hx hPA hlen hxs hpre;gi_wp2;obtain⟨V1,hV1⟩:∃V1,W.setCell ⟨q+1+1+1+1+1,0,none⟩ (.int .i64 (N+1))=V1:=⟨_,rfl⟩;rw[hV1];have k1:Keep (fun g=>g=q+1+1+1+1+1) W V1:=(by rw[<-hV1];exact(Keep.refl (fun g=>g=q+1+1+1+1+1) W).setCell (p:=⟨q+1+1+1+1+1,0,none⟩) (Or.inl rfl) _);have bn1:V1.heap[q+1+1+1+1+1]?=some (.cells #[.int .i64 (N+1)] 3 (0,0)):=(by rw[<-hV1];exact zg HH.1.bn 0 _);have hp1:PAt V1 own (q+1+1+1) m:=HH.1.pat.keep k1 (fun g hg e=>by subst e;have:=HH.1.low hg;omega);have kw1:Keep (fun _=>False) w V1:=HH.1.k.own k1 (fun i e=>Or.inr (by omega));have hev:Ev q V1:=(by rw[<-hq];exact HE.on (kw1.none));have HL1:=Qh (zbG q x hp1 hev HH.2.2.2.1 (fun g hg=>by have:=HH.1.low hg;omega) HH.1.few HH.1.st);have HK:=Qh (Qa k1 (Qa bn1 (Qa kw1 hp1)));clear k1 bn1 kw1 hp1 hev hV1;refine(CallsIn.inRound l (callsIn_wide.2 HL1.out)).mono ?_;clear HL1;rintro e V2 (⟨own',m',hr,rfl,hp2,hto⟩|⟨c,hr,hc0,rfl,k2⟩)
   ·have HR:=Qh (Qa hr (Qa hp2 hto))
    clear hr hp2 hto;gi_wp2;have k02:Keep (fun g=>own g≠none\/g=q+1+1+1+1+1) W V2:=(HK.1.mono fun _ _ h=>Or.inr h).trans (HR.2.2.keep.mono fun _ _ h=>Or.inl h);have hPI2:PI w q (pre++[x]) V2 own' m':=by
     have hno:∀g,g<=q+8->g≠q+1+1+1->g≠q+1+1+1+1+1->¬(own g≠none\/g=q+1+1+1+1+1):=fun g h1 h2 h3 h=>by
      rcases h with h|h
      ·exact h (HH.1.no g h1 h2)
      ·exact h3 h
     have hf:=z3t (σ:=m.ps_) HH.1.few HH.1.st HR.1;have hs1:q+8<V1.heap.size:=Nat.lt_of_lt_of_le (by have:=lt_of_block HH.2.2.1;omega) HK.1.size
     exact{
      read:=by rw[HH.2.2.2.2.1,HR.1]
      pat:=HR.2.1
      no:=fun g h1 h2=>HR.2.2.old g (by omega) (HH.1.no g h1 h2)
      few:=hf.1
      st:=hf.2
      r0:=k02.same HH.1.r0 (hno _ (by omega) (by omega) (by omega))
      r1:=k02.same HH.1.r1 (hno _ (by omega) (by omega) (by omega))
      r2:=k02.same HH.1.r2 (hno _ (by omega) (by omega) (by omega))
      bx:=k02.same HH.1.bx (hno _ (by omega) (by omega) (by omega))
      bn:=by have h:=HR.2.2.keep.same HK.2.1 (fun h=>h (HH.1.no _ (by omega) (by omega)));rw[h,<-hN];simp
      k:=HH.1.k.own k02 fun i hi=>Or.inr (by
       rcases hi with hi|hi
       ·have:=HH.1.low hi;omega
       ·omega)}
    refine⟨⟨k02.block _ (by have:=lt_of_block HH.2.1;omega) ?_,k02.block _ (by have:=lt_of_block HH.2.2.1;omega) ?_⟩,⟨k02.below (by have:=lt_of_block HH.2.1;omega) ?_,k02.block _ (by have:=lt_of_block HH.2.1;omega) ?_⟩,own',m',hPI2⟩
    ·rintro(h|h)
     ·exact h (HH.1.no _ (by omega) (by omega))
     ·omega
    ·rintro(h|h)
     ·exact h (HH.1.no _ (by omega) (by omega))
     ·omega
    ·rintro i (h|h)
     ·have:=HH.1.low h;omega
     ·omega
    ·rintro(h|h)
     ·exact h (HH.1.no _ (by omega) (by omega))
     ·omega
   ·have HR:=Qh (Qa hr (Qa hc0 k2))
    have hcb:(c != 0)=true:=(by simpa using hc0);have k02:Keep (fun g=>own g≠none\/g=q+1+1+1+1+1) W V2:=(HK.1.mono fun _ _ h=>Or.inr h).trans (HR.2.2.mono fun _ _ h=>Or.inl h);have hno:∀g,g<=q+8->g≠q+1+1+1->g≠q+1+1+1+1+1->¬(own g≠none\/g=q+1+1+1+1+1):=fun g h1 h2 h3 h=>by
     rcases h with h|h
     ·exact h (HH.1.no g h1 h2)
     ·exact h3 h
    have r0:=k02.same HH.1.r0 (hno _ (by omega) (by omega) (by omega));have r1:=k02.same HH.1.r1 (hno _ (by omega) (by omega) (by omega));have r2:=k02.same HH.1.r2 (hno _ (by omega) (by omega) (by omega));have bn2:=HR.2.2.same HK.2.1 (fun h=>h (HH.1.no _ (by omega) (by omega)));have HB:=Qh (Qa r0 (Qa r1 (Qa r2 (Qa k02 hno))));have cn:=za bn2 0;have c0:=za r0;have c1:=za r1 0;have c2:=za r2 0;have f0:=zd r0;have f1:=zd r1 0;have f2:=zd r2 0;simp at cn c1 c2;simp only[m0,M.val]at c0;have c00:=c0 0;have c01:=c0 1;have c02:=c0 2;have c03:=c0 3;have c04:=c0 4;have c05:=c0 5;have c06:=c0 6;have c07:=c0 7;have c08:=c0 8;have c09:=c0 9;have c010:=c0 10;have c011:=c0 11;have c012:=c0 12;have c013:=c0 13;simp at c00 c01 c02 c03 c04 c05 c06 c07 c08 c09 c010 c011 c012 c013;clear hr hc0 k2 r0 r1 r2 bn2 c0 hno k02;gi_wp2;obtain⟨V3,hV3,q0,q1,q2,k3⟩:=zcg V2 q (N+1) c _ _ (.int .i64 0) (.int .i64 0) (.int .i64 0) (.int .i64 0) (.int .i64 0) (.int .i64 0) (.int .i64 0) (.float .f64 0) (.float .f64 0) (.slice none 0 0) (.slice none 0 0) (.slice none 0 0) (.int .i64 0) (.slice none 0 0) HB.1 HB.2.1 HB.2.2.1;have HZ:=Qh (Qa q0 (Qa q1 (Qa q2 k3)));clear q0 q1 q2 k3;gi_region
    all_goals
     (try rw[hV3]);clear hV3
     gi_wp2;refine⟨⟨(HZ.2.2.2.block _ (by have:=lt_of_block HH.2.1;have:=HB.2.2.2.1.size;omega) (by omega)).trans (HB.2.2.2.1.block _ (lt_of_block HH.2.1) (HB.2.2.2.2 _ (by omega) (by omega) (by omega))),(HZ.2.2.2.block _ (by have:=lt_of_block HH.2.2.1;have:=HB.2.2.2.1.size;omega) (by omega)).trans (HB.2.2.2.1.block _ (lt_of_block HH.2.2.1) (HB.2.2.2.2 _ (by omega) (by omega) (by omega)))⟩,c,?_,HZ.1,?_,HZ.2.2.1,?_⟩
     ·rw[HH.2.2.2.2.1,HR.1];simp
     ·rw[HZ.2.1,<-hN];simp
     ·refine(HH.1.k.own HB.2.2.2.1 fun i hi=>Or.inr ?_).own HZ.2.2.2 fun i hi=>Or.inr (by omega)
      rcases hi with hi|hi
      ·have:=HH.1.low hi;omega
      ·omega
  case done=>
   rintro W ⟨own,m,hPI⟩ hD;rw[hsz7]at hD⊢
   clear HI0 HLG hsz7;have hPF:yl s=(if m.st<=1 then(zX,0,63)else(m.play,0,0)):=(by unfold yl;rw[if_neg (by have:=HL.out;omega),hPI.read];rfl);have HH:=Qh (Qa hPI (Qa hD hPF));have heg:=z4N hPI.st;have HS1:=Qh (z25 m.st hPI.st 1 W);have HS2:=Qh (z25 m.st hPI.st 2 W);have c5:=za hPI.bx 0;have hb:=hPI.pat.blk;unfold M.cells at hb;rw[z54 hPI.st]at hb;generalize stF m.st=K1 at*
   have c14:=za hb 14;simp at c5 c14;have q1:=zby;have q2:=zdj;clear hPI hD hPF;have c0:=za HH.1.r0;have c1:=za HH.1.r1 0;have c2:=za HH.1.r2 0;have f0:=zd HH.1.r0;have f1:=zd HH.1.r1 0;have f2:=zd HH.1.r2 0;simp at c1 c2;simp only[m0,M.val]at c0;have c00:=c0 0;have c01:=c0 1;have c02:=c0 2;have c03:=c0 3;have c04:=c0 4;have c05:=c0 5;have c06:=c0 6;have c07:=c0 7;have c08:=c0 8;have c09:=c0 9;have c010:=c0 10;have c011:=c0 11;have c012:=c0 12;have c013:=c0 13;simp at c00 c01 c02 c03 c04 c05 c06 c07 c08 c09 c010 c011 c012 c013;by_cases h0:m.st<=1
   ·have HX:=Qh (show yl s=(zX,0,63)from by rw[HH.2.2,if_pos h0])
    obtain⟨V3,hV3,g0,g1,g2,k3⟩:=z2i W q 0 63 _ _ (.int .i64 0) (.int .i64 0) (.int .i64 0) (.int .i64 0) (.int .i64 0) (.int .i64 0) (.int .i64 0) (.float .f64 0) (.float .f64 0) (.slice none 0 0) (.slice none 0 0) (.slice none 0 0) (.int .i64 0) (.slice none 0 0) HH.1.r0 HH.1.r1 HH.1.r2;have hd3:=(k3.block _ (lt_of_block HH.2.1) (by omega)).trans HH.2.1;have HG:=Qh (Qa g0 (Qa g1 (Qa g2 (Qa k3 hd3))));clear g0 g1 g2 k3 hd3;rcases(show m.st=0\/m.st=1 by omega)with h|h
    ·rw[h]at HS1
     clear HS2 h0 h;rw[show nxt 0 1=1 from rfl,show stV 1=.func (.func (stF 1)) #[] #[]from rfl]at HS1;generalize stF 1=K2 at*
     gi_wp2;refine⟨trivial,(callsIn_wide.2 HS1.out).mono ?_⟩;rintro e w' ⟨rfl,hw⟩;obtain rfl:W=w':=hw.symm;gi_wp2;refine⟨fun _ h=>(by cases h),?_⟩;gi_wp2;refine⟨by simp,.inl ⟨_,_,rfl,run_takeDeferred HG.2.2.2.2,?_⟩⟩;have kp:Keep (fun g=>g=q+7) V3 (V3.putObj (q+7) (.deferred none)):=⟨rfl,rfl,rfl,by simp,fun i _ hn=>World.putObj_heap_other hn⟩;refine⟨_,qy _ _ q _ 0 63 rfl rfl rfl (kp.same HG.1 (by omega)) rfl (kp.same HG.2.1 (by omega)) (kp.same HG.2.2.1 (by omega)),?_⟩;exact⟨m0,fun _=>none,0,63,rfl,by rw[HX.out];rfl,LAt.zero _,fun g h=>absurd rfl h,(HH.1.k.own HG.2.2.2.1 fun i hi=>Or.inr (by omega)).own kp fun i hi=>Or.inr (by omega)⟩
    ·rw[h]at HS1 HS2
     clear h0 h;rw[show nxt 1 1=6 from rfl,show stV 6=.nilFunc from rfl]at HS1;rw[show nxt 1 2=2 from rfl,show stV 2=.func (.func (stF 2)) #[] #[]from rfl]at HS2;generalize stF 2=K2 at*
     gi_wp2;refine⟨trivial,(callsIn_wide.2 HS1.out).mono ?_⟩;rintro e w' ⟨rfl,hw⟩;obtain rfl:W=w':=hw.symm;gi_wp2;refine⟨trivial,(callsIn_wide.2 HS2.out).mono ?_⟩;rintro e w' ⟨rfl,hw⟩;obtain rfl:W=w':=hw.symm;gi_wp2;refine⟨by simp,.inl ⟨_,_,rfl,run_takeDeferred HG.2.2.2.2,?_⟩⟩;have kp:Keep (fun g=>g=q+7) V3 (V3.putObj (q+7) (.deferred none)):=⟨rfl,rfl,rfl,by simp,fun i _ hn=>World.putObj_heap_other hn⟩;refine⟨_,qy _ _ q _ 0 63 rfl rfl rfl (kp.same HG.1 (by omega)) rfl (kp.same HG.2.1 (by omega)) (kp.same HG.2.2.1 (by omega)),?_⟩;exact⟨m0,fun _=>none,0,63,rfl,by rw[HX.out];rfl,LAt.zero _,fun g h=>absurd rfl h,(HH.1.k.own HG.2.2.2.1 fun i hi=>Or.inr (by omega)).own kp fun i hi=>Or.inr (by omega)⟩
   ·have HX:=Qh (show yl s=(m.play,0,0)from by rw[HH.2.2,if_neg h0])
    obtain⟨o1,p1,hv1⟩:=HH.1.pat.fs.len;obtain⟨o2,p2,hv2⟩:=HH.1.pat.ts.len;obtain⟨o3,p3,hv3⟩:=HH.1.pat.ps.len;obtain⟨o4,p4,hv4⟩:=HH.1.pat.es.len;obtain⟨V3,hV3,g0,g1,g2,k3⟩:=z2i W q 0 0 _ _ (.int .i64 m.disk) (.int .i64 m.segMax) (.int .i64 m.base) (.int .i64 m.qcap) (.int .i64 m.qbytes) (.int .i64 m.pmost) (.int .i64 m.pbytes) (.float .f64 m.linger) (.float .f64 m.alpha) (.slice o1 m.fs.length p1) (.slice o2 m.ts.length p2) (.slice o3 m.ps.length p3) (.int .i64 m.most) (.slice o4 m.es.length p4) HH.1.r0 HH.1.r1 HH.1.r2;have hd3:=(k3.block _ (lt_of_block HH.2.1) (by omega)).trans HH.2.1;have HG:=Qh (Qa g0 (Qa g1 (Qa g2 (Qa k3 hd3))));clear g0 g1 g2 k3 hd3;have hx1:nxt m.st 1=6:=z8y h0 HH.1.st (Or.inl rfl);have hx2:nxt m.st 2=6:=z8y h0 HH.1.st (Or.inr rfl);rw[hx1,show stV 6=.nilFunc from rfl]at HS1;rw[hx2,show stV 6=.nilFunc from rfl]at HS2;clear h0 hx1 hx2;gi_wp2;refine⟨trivial,(callsIn_wide.2 HS1.out).mono ?_⟩;rintro e w' ⟨rfl,hw⟩;obtain rfl:W=w':=hw.symm;gi_wp2;refine⟨trivial,(callsIn_wide.2 HS2.out).mono ?_⟩;rintro e w' ⟨rfl,hw⟩;obtain rfl:W=w':=hw.symm;have e0:=za hb 0;have e1:=za hb 1;have e2:=za hb 2;have e3:=za hb 3;have e4:=za hb 4;have e5:=za hb 5;have e6:=za hb 6;have e7:=za hb 7;have e8:=za hb 8;have e9:=za hb 9;have e10:=za hb 10;have e11:=za hb 11;have e12:=za hb 12;have e13:=za hb 13;rw[hv1,hv2,hv3,hv4]at e0 e1 e2 e3 e4 e5 e6 e7 e8 e9 e10 e11 e12 e13;have HF:=Qh (show#[.int .i64 m.disk,.int .i64 m.segMax,.int .i64 m.base,.int .i64 m.qcap,.int .i64 m.qbytes,.int .i64 m.pmost,.int .i64 m.pbytes,.float .f64 m.linger,.float .f64 m.alpha,.slice o1 m.fs.length p1,.slice o2 m.ts.length p2,.slice o3 m.ps.length p3,.int .i64 m.most,.slice o4 m.es.length p4]=m.val from by unfold M.val;rw[hv1,hv2,hv3,hv4]);clear hv1 hv2 hv3 hv4;simp at e0 e1 e2 e3 e4 e5 e6 e7 e8 e9 e10 e11 e12 e13;clear hb;gi_wp2;refine⟨by simp,.inl ⟨_,_,rfl,run_takeDeferred HG.2.2.2.2,?_⟩⟩;have kp:Keep (fun g=>g=q+7) V3 (V3.putObj (q+7) (.deferred none)):=⟨rfl,rfl,rfl,by simp,fun i _ hn=>World.putObj_heap_other hn⟩;refine⟨_,qy _ _ q _ 0 0 rfl rfl rfl (kp.same HG.1 (by omega)) rfl (kp.same HG.2.1 (by omega)) (kp.same HG.2.2.1 (by omega)),?_⟩;refine⟨m,fun g=>if g=q+1+1+1 then none else own g,0,0,by rw[HF.out],by rw[HX.out];rfl,?_,?_,(HH.1.k.own HG.2.2.2.1 fun i hi=>Or.inr (by omega)).own kp fun i hi=>Or.inr (by omega)⟩
    ·have hno:∀g,(if g=q+1+1+1 then none else own g)≠none->q+8<g:=fun g hg=>by
      split at hg
      ·exact absurd rfl hg
      ·have:=HH.1.low hg;omega
     exact((HH.1.pat.leave.keep HG.2.2.2.1 fun g hg=>by have:=hno g hg;omega).keep kp fun g hg=>by have:=hno g hg;omega)
    ·intro g hg
     simp only[]at hg;split at hg
     ·exact absurd rfl hg
     ·have:=HH.1.low hg;omega
  case stop=>
   rintro pre x W hpre ⟨c,hPX⟩ hD;rw[hsz7]at hD⊢
   have hPF:yl s=(zX,(pre++[x]).length,c):=(by obtain⟨t,ht⟩:=hpre;unfold yl;rw[if_neg (by have:=HL.out;omega),<-ht,qz,hPX.read]);clear HI0 HLG hsz7;gi_wp2;refine⟨by simp,.inl ⟨_,_,rfl,run_takeDeferred hD,?_⟩⟩;have kp:Keep (fun g=>g=q+7) W (W.putObj (q+7) (.deferred none)):=⟨rfl,rfl,rfl,by simp,fun i _ hn=>World.putObj_heap_other hn⟩;refine⟨_,qy _ _ q _ ((pre++[x]).length:Int) c rfl rfl rfl (kp.same hPX.r0 (by omega)) rfl (kp.same hPX.r1 (by omega)) (kp.same hPX.r2 (by omega)),?_⟩;exact⟨m0,fun _=>none,((pre++[x]).length:Int),c,rfl,by rw[hPF];rfl,LAt.zero _,fun g h=>absurd rfl h,hPX.k.own kp fun i hi=>Or.inr (by omega)⟩
end Sc
end Go.Proofs.YtkkecpamnnojoaaGreatDoor
namespace Go.Proofs.YtkkecpamnnojoaaGreatDoor
open Go.ChangeShapes Go.WideShapes Go.ChangeAt Go.RowKit Go.Shelf
open Bt Dc By
namespace Sc
theorem z1w(s:Str):Lib.strCells (zc s)=u8v s:=by unfold Lib.strCells u8v;rw[ze]
theorem z26{P:Program}(w:World)(t u ty e:TypeId)(i:TypeInfo)(ht:P.underlying t=some (.slice e))(hu:P.underlying u=some .string)(hi:P.info? e=some i)(hz:i.zero=some (.int .u8 0))(hsize:i.size=1)(hby:i.bytes=1)
  (v:Value)(n:Nat)(xs:List Value)(hown:w.ownsRow 0 e 1 v n xs)(s:Str)(hn:n+s.length<=1099511627776):
  ∃v' w',(Builtin.append_ #[t,u] ty #[v,.string (zc s)]).run P w=.ok v' w'/\w'.ownsRow 0 e 1 v' (n+s.length) (xs++u8v s)/\w.grownBy w' v.ownBlock/\(v'.ownBlock=v.ownBlock\/∃g,v'.ownBlock=some g/\w.heap.size<=g):=by
 have hs:(zc s).size=s.length:=zw s;have h63:n+(zc s).size<=maxLen:=(by rw[hs];unfold maxLen;omega);have hbt:n+(zc s).size<=140737488355328:=(by rw[hs];omega);rcases hown.2 with⟨hv,h0⟩|⟨g,cap,cur,hv,-,hg,hnc,hcm,hcs,htake⟩
 ·obtain⟨v',w',hr,h1,h2,-⟩:=Lib.run_append_own_string (P:=P) w w.heap.size t u ty e i ht hu hi hz hsize hby v n xs ⟨hown.1,Or.inl ⟨hv,h0⟩⟩ (zc s) h63 hbt (Nat.le_refl _)
  rw[hs,z1w]at h1;refine⟨v',w',hr,qx h1 (fun g _=>Nat.zero_le _),h2,?_⟩;rcases h1.2 with⟨h3,-⟩|⟨g,cap,cur,h3,h4,-⟩
  ·left;rw[h3,hv]
  ·right;exact⟨g,by rw[h3];rfl,h4⟩
 ·obtain⟨v',w',hr,h1,h2,-⟩:=Lib.run_append_own_string (P:=P) w 0 t u ty e i ht hu hi hz hsize hby v n xs hown (zc s) h63 hbt (Nat.zero_le _)
  rw[hs,z1w]at h1;refine⟨v',w',hr,h1,h2,?_⟩;subst hv;have hcells:∀j u,xs[j]?=some u->w.cell? ((⟨g,0,none⟩:Addr).add j)=some u:=hown.cells (g:=g) rfl;by_cases hroom:n+(zc s).size<=cap
  ·have hr2:=Lib.run_append_room_string (P:=P) w t u ty e i ht hu hi hsize g n cap cur hg (zc s) hroom (by omega);rw[hr]at hr2;cases hr2;exact Or.inl rfl
  ·have hr2:=Lib.run_append_grow_string (P:=P) w t u ty e i (.int .u8 0) ht hu hi hz ⟨g,0,none⟩ n cap xs (by rw[hsize];simpa using hown.1) hcells (zc s) (by omega) (by rw[hs]at h63⊢;unfold maxLen at h63;omega) (by rw[hby];exact growslice_fits (by omega) (by omega));rw[hr]at hr2;cases hr2;exact Or.inr ⟨_,rfl,Nat.le_refl _⟩
theorem xi{P:Program}(w:World){ops:Array Oper}{rest:List Oper}{o:Oper}{a:Act}{Q:Exit->Act->World->Prop}(hgd:o.guard=none)(sl x:Operand)(t u:TypeId)
  (ho:o.op=.call {callee:=.builtin .append,args:=#[sl,x],argTypes:=#[t,u]})(e:TypeId)(i:TypeInfo)(ht:P.underlying t=some (.slice e))(hu:P.underlying u=some .string)(hi:P.info? e=some i)(hz:i.zero=some (.int .u8 0))(hsize:i.size=1)(hby:i.bytes=1)
  (v:Value)(n:Nat)(xs:List Value)(hs:a.eval sl=v)(hown:w.ownsRow 0 e 1 v n xs)(s:Str)(hx:a.eval x=.string (zc s))(hn:n+s.length<=1099511627776)
  (h:∀v' w',w'.ownsRow 0 e 1 v' (n+s.length) (xs++u8v s)->w.grownBy w' v.ownBlock->(v'.ownBlock=v.ownBlock\/∃g,v'.ownBlock=some g/\w.heap.size<=g)->wpList P ops Q rest (a.put o.dst v') w'):wpList P ops Q (o::rest) a w:=by
 refine wpList_plain hgd fun K hK=>?_;obtain⟨v',w',hr,h2,h3,h4⟩:=z26 (P:=P) w t u o.type e i ht hu hi hz hsize hby v n xs hown s hn;unfold Oper.wp execOp;simp only[ho,resolve,invoke,builtin,Sem.run_bind,Sem.run_pure,Result.andThen_ok,List.map_toArray,List.map_cons,List.map_nil,hs,hx,hr];exact hK _ _ (h v' w' h2 h3 h4)
structure Pr (w:World) (own:Nat->Option T) (xb:Nat) (v:Value) (B:Str):Prop where
 low:∀g,own g≠none->g<w.heap.size
 blk:w.heap[xb]?=some (.cells #[v] 89 (0,0))
 tag:own xb=some (0,0,0)
 row:RowT w own (1,0,0) 5 1 v B.length (u8v B)
theorem Pr.keep{w w':World}{own:Nat->Option T}{xb:Nat}{v:Value}{B:Str}{bs:Nat->Prop}(h:Pr w own xb v B)(k:Keep bs w w')(hn:∀g,own g≠none->¬bs g):Pr w' own xb v B:=
 ⟨fun g hg=>Nat.lt_of_lt_of_le (h.low g hg) k.size,k.same h.blk (hn xb (by rw[h.tag];simp)),h.tag,h.row.move k (fun g hg=>hn g (by rw[hg];simp)) (fun g hg=>hg)⟩
theorem Pr.kept{w w':World}{own:Nat->Option T}{xb:Nat}{v:Value}{B:Str}(h:Pr w own xb v B)(k:Keep (fun _=>False) w w'):Pr w' own xb v B:=h.keep k fun _ _=>id
theorem z4Y(A B:Str):u8v (A++B)=u8v A++u8v B:=by simp[u8v]
theorem z7U:∃i,Tryz.prog.info? 5=some i/\i.zero=some (.int .u8 0)/\i.size=1/\i.bytes=1:=z3q
theorem Pr.more{w w4:World}{own:Nat->Option T}{xb:Nat}{v v':Value}{B C:Str}(h:Pr w own xb v B)(hrow:w4.ownsRow 0 5 1 v' (B++C).length (u8v (B++C)))(k:Keep (fun g=>v.ownBlock=some g) w w4)
  (hb:v'.ownBlock=v.ownBlock\/∃g,v'.ownBlock=some g/\w.heap.size<=g):Pr (w4.setCell ⟨xb,0,none⟩ v') (put own v' (1,0,0)) xb v' (B++C)/\To own (put own v' (1,0,0)) w (w4.setCell ⟨xb,0,none⟩ v'):=by
 have G:=qm (i:=0) v' h.low h.row hrow k hb h.tag;have hx:v'.ownBlock≠some xb:=by
  intro e;rcases hb with hb|⟨g,hb,hl⟩
  ·have:=h.row.tag xb (by rw[<-hb];exact e);rw[h.tag]at this;cases this
  ·rw[e]at hb;cases hb;have:=h.low xb (by rw[h.tag];simp);omega
 have hbx:w4.heap[xb]?=some (.cells #[v] 89 (0,0)):=k.same h.blk (fun e=>by have:=h.row.tag xb e;rw[h.tag]at this;cases this);refine⟨⟨G.low,?_,G.old _ _ h.tag,zf hrow ((Keep.refl (fun g=>g=xb) w4).setCell (p:=⟨xb,0,none⟩) (Or.inl rfl) v') (fun g hg e=>hx (by rw[hg,e])),?_⟩,G.to⟩
 ·have:=zg hbx 0 v';rw[this];rfl
 ·intro g hg;show(if v'.ownBlock=some g then some (1,0,0)else own g)=_;rw[if_pos hg]
def z3M(w:World)(own:Nat->Option T)(xb:Nat)(B:Str)(w':World):Prop:=∃own' v',Pr w' own' xb v' B/\To own own' w w'
def bod:List Str->Str
 |[]=>[]
 |w::ws=>w++ws.flatMap (fun x=>32::x)
def ye(ws:List Str):Str:=bod ws++[10]
theorem zcE(ws:List Str)(k:Nat)(h:k<ws.length):bod (ws.take (k+1))=bod (ws.take k)++((if k=0 then[]else[32])++ws.getD k []):=by
 have e1:ws.take (k+1)=ws.take k++[ws.getD k []]:=(by rw[List.take_add_one,List.getElem?_eq_getElem h,List.getD_eq_getElem?_getD,List.getElem?_eq_getElem h];rfl);rw[e1];cases k with
 |zero=>simp[bod]
 |succ k=>
  cases ws with
  |nil=>simp at h
  |cons w r=>simp[bod]
theorem zfa(ws:List Str)(k:Nat):(bod (ws.take k)).length<=(bod ws).length:=by
 rcases Nat.lt_or_ge k ws.length with h|h
 ·cases ws with
  |nil=>simp at h
  |cons w r=>
   cases k with
   |zero=>simp[bod]
   |succ k=>
    simp only[List.take_succ_cons,bod,List.length_append];have:r.flatMap (fun x=>32::x)=(r.take k).flatMap (fun x=>32::x)++(r.drop k).flatMap (fun x=>32::x):=(by rw[<-List.flatMap_append,List.take_append_drop]);rw[this,List.length_append];omega
 ·rw[List.take_of_length_le h];exact Nat.le_refl _
theorem z7L{w w4:World}{own:Nat->Option T}{xb:Nat}{v v':Value}{B C:Str}{L:Nat}(h:Pr w own xb v B)(hL:B.length=L)(hrow:w4.ownsRow 0 5 1 v' (L+C.length) (u8v B++u8v C))(hg:w.grownBy w4 v.ownBlock)
  (hb:v'.ownBlock=v.ownBlock\/∃g,v'.ownBlock=some g/\w.heap.size<=g):∃o2 L2 p2,v'=.slice o2 L2 p2/\Pr (w4.setCell ⟨xb,0,none⟩ (.slice o2 L2 p2)) (put own v' (1,0,0)) xb (.slice o2 L2 p2) (B++C)/\To own (put own v' (1,0,0)) w (w4.setCell ⟨xb,0,none⟩ (.slice o2 L2 p2))/\(B++C).length=L2/\(w4.setCell ⟨xb,0,none⟩ (.slice o2 L2 p2)).ownsRow 0 5 1 (.slice o2 L2 p2) L2 (u8v (B++C))/\L2=L+C.length:=by
 have hm:=h.more (C:=C) (by rw[List.length_append,hL,z4Y];exact hrow) (zp hg) hb;obtain⟨o2,p2,hv2⟩:=hm.1.row.len;rw[hv2]at hm;exact⟨o2,_,p2,hv2,by rw[<-hv2]at hm⊢;exact hm.1,by rw[<-hv2]at hm⊢;exact hm.2,rfl,by have:=hm.1.row.row;exact this,by rw[List.length_append,hL]⟩
theorem z2I{w:World}{own:Nat->Option T}{xb:Nat}{v:Value}{B:Str}(h:Pr w own xb v B):¬v.ownBlock=some xb:=fun e=>by have h1:=h.row.tag xb e;rw[h.tag]at h1;cases h1
theorem z7O{w w4:World}{own:Nat->Option T}{xb:Nat}{v u:Value}{B:Str}(h:Pr w own xb v B)(hg:w.grownBy w4 v.ownBlock)(hc:w.cell? ⟨xb,0,none⟩=some u):w4.cell? ⟨xb,0,none⟩=some u:=
 ((zp hg).cell (p:=⟨xb,0,none⟩) (lt_of_block h.blk) (z2I h)).trans hc
theorem z7N{w w4:World}{own:Nat->Option T}{xb:Nat}{v:Value}{B:Str}(h:Pr w own xb v B)(hg:w.grownBy w4 v.ownBlock)(hc:w.frozen? ⟨xb,0,none⟩=false):w4.frozen? ⟨xb,0,none⟩=false:=
 ((zp hg).frozen (p:=⟨xb,0,none⟩) (lt_of_block h.blk) (z2I h)).trans hc
theorem zbB{w w4:World}{own:Nat->Option T}{xb:Nat}{v v':Value}{B:Str}{L:Nat}{o:Obj}{c:UInt8}(h:Pr w own xb v B)(hL:B.length=L)(hrow:w4.ownsRow 0 5 1 v' (L+1) (u8v B++[.int .u8 (c.toNat:Int)]))(hg:(w.alloc o).grownBy w4 v.ownBlock)
  (hb:v'.ownBlock=v.ownBlock\/v'.ownBlock=some (w.alloc o).heap.size):∃o2 L2 p2,v'=.slice o2 L2 p2/\Pr (w4.setCell ⟨xb,0,none⟩ (.slice o2 L2 p2)) (put own v' (1,0,0)) xb (.slice o2 L2 p2) (B++[c])/\To own (put own v' (1,0,0)) w (w4.setCell ⟨xb,0,none⟩ (.slice o2 L2 p2))/\(B++[c]).length=L2/\(w4.setCell ⟨xb,0,none⟩ (.slice o2 L2 p2)).ownsRow 0 5 1 (.slice o2 L2 p2) L2 (u8v (B++[c]))/\L2=L+1:=by
 have hm:=h.more (C:=[c]) (by rw[List.length_append,hL,z4Y];exact hrow) (((Keep.refl (fun q=>v.ownBlock=some q) w).alloc o).trans (zp hg)) (by
  rcases hb with hb|hb
  ·exact Or.inl hb
  ·exact Or.inr ⟨_,hb,by simp⟩)
 obtain⟨o2,p2,hv2⟩:=hm.1.row.len;rw[hv2]at hm;exact⟨o2,_,p2,hv2,by rw[<-hv2]at hm⊢;exact hm.1,by rw[<-hv2]at hm⊢;exact hm.2,rfl,by have:=hm.1.row.row;exact this,by rw[List.length_append,hL];rfl⟩
theorem z8C{w w4:World}{own:Nat->Option T}{xb:Nat}{v u:Value}{B:Str}{o:Obj}(h:Pr w own xb v B)(hg:(w.alloc o).grownBy w4 v.ownBlock)(hc:w.cell? ⟨xb,0,none⟩=some u):w4.cell? ⟨xb,0,none⟩=some u:=
 ((((Keep.refl (fun q=>v.ownBlock=some q) w).alloc o).trans (zp hg)).cell (p:=⟨xb,0,none⟩) (lt_of_block h.blk) (z2I h)).trans hc
theorem z8B{w w4:World}{own:Nat->Option T}{xb:Nat}{v:Value}{B:Str}{o:Obj}(h:Pr w own xb v B)(hg:(w.alloc o).grownBy w4 v.ownBlock)(hc:w.frozen? ⟨xb,0,none⟩=false):w4.frozen? ⟨xb,0,none⟩=false:=
 ((((Keep.refl (fun q=>v.ownBlock=some q) w).alloc o).trans (zp hg)).frozen (p:=⟨xb,0,none⟩) (lt_of_block h.blk) (z2I h)).trans hc
theorem xp{w:World}{own:Nat->Option T}{xb:Nat}{v:Value}{B:Str}(g f cap:Nat)(ws:List Str)(h:Pr w own xb v B)(hws:qh w (some ⟨g,f,none⟩) ws)(hg:own g=none)(hcap:ws.length<=cap)(hn:ws.length<=1073741824)(hb:(B++ye ws).length<=1099511627776):
  Calls Tryz.prog 61 #[.pointer (some ⟨xb,0,none⟩),.slice (some ⟨g,f,none⟩) ws.length cap] w fun e w'=>e=.returned (.tuple #[])/\z3M w own xb (B++ye ws) w':=by
 obtain⟨N,hN⟩:=Qx ws.length;have HB:=Qh hb;have HH:=Qh (Qa h (Qa hws hg));have HN:=Qh hN;have HLE:=Qh (zfa ws);have HSN:=Qh (zcE ws);obtain⟨i0,hi0,hz0,hz1,hz2⟩:=z7U;have HI:=Qh (Qa hi0 (Qa hz0 (Qa hz1 hz2)));clear hi0 hz0 hz1 hz2;rw[hN]at hn hcap⊢
 clear h hws hg hN hb;go_in;go_wp2_with fail;go_loopg[4,5,8] N (fun gq s4 s5 s8 wr=>∃k:Nat,gq+k=N/\s8=.int .i64 (k:Int)/\Hid (∃own' v',Pr wr own' xb v' (B++bod (ws.take k))/\To own own' w wr))
 case atStart=>exact⟨0,by omega,rfl,own,v,by simpa[bod]using HH.1,To.refl _ _⟩
 case round=>
  obtain⟨k,hgk,rfl,HK⟩:=hrel;obtain⟨own',v',hp,hto⟩:=HK;have hlen:=HLE.out k;have hB:=HB.out;have hs10:(ye ws).length=(bod ws).length+1:=(by unfold ye;simp);by_cases hk:k<N
  ·have hkI:(k:Int)<(N:Int):=by omega
   have hk0:(0:Int)<=(k:Int):=(by omega);obtain⟨g',f',e,hc,hl⟩:=HH.2.1 k (by rw[HN.out];exact hk);cases e;have hgo:own' g=none:=hto.old g hl HH.2.2;have cg:wr.cell? ⟨g,f+k,none⟩=some (qE (ws.getD k [])):=(hto.keep.cell (p:=⟨g,f+k,none⟩) hl (by rw[HH.2.2];simp)).trans hc;unfold qE at cg;have HS:=HSN.out k (by rw[HN.out];exact hk);have hlen2:=HLE.out (k+1);rw[HS]at hlen2;obtain⟨x,hx⟩:=Qx (ws.getD k []);rw[hx]at cg HS hlen2;have HX:=Qh HS;simp only[List.length_append]at hlen2 hB;have c0:=za hp.blk 0;have f0:=zd hp.blk 0;simp at c0;obtain⟨o,p,hv⟩:=hp.row.len;have hrw:=hp.row.row;rw[hv]at hrw;obtain⟨L,hL⟩:=Qx ((B++bod (ws.take k)).length);have HL:=Qh hL;rw[hL]at hv hrw;by_cases hkz:k=0
   ·have hkc:¬(0:Int)<(k:Int):=by omega
    rw[if_pos hkz]at HX hlen2;have hsz:L+x.length<=1099511627776:=(by rw[<-hL,List.length_append];simp at hlen2;omega);have HP:=Qh (Qa hp (Qa hto (Qa hv (Qa hsz hrw))));rw[hv]at c0;clear hp hto hv hrw hL hsz hlen hlen2 HS hc hl hgo hkz hx;go_wp2_with(at_builtin;refine xi _ rfl (.tmp 28) (.tmp 29) 53 9 rfl 5 i0 Tryz.underlying53 Tryz.underlying9 HI.1 HI.2.1 HI.2.2.1 HI.2.2.2 _ _ _ rfl HP.2.2.2.2 x rfl HP.2.2.2.1 ?_;intro v2 w4 hrow hgr hblk;rw[<-HP.2.2.1]at hgr hblk;obtain⟨o2,L2,p2,hv2,hm⟩:=z7L HP.1 HL.out hrow hgr hblk;have c4:=z7O HP.1 hgr c0;have f4:=z7N HP.1 hgr f0;have HM:=Qh hm;rw[hv2];clear hrow hgr hblk hm hv2);go_roundg(gk-1);all_goals first|omega|skip
    case rel=>
     refine⟨k+1,by omega,by simp,?_⟩;refine⟨_,.slice o2 L2 p2,?_,HP.2.1.trans HM.2.1⟩;rw[HX.out,<-List.append_assoc];simpa using HM.1
   ·have hkc:(0:Int)<(k:Int):=by omega
    rw[if_neg hkz]at HX hlen2;have hsz:L+1+x.length<=1099511627776:=(by rw[<-hL,List.length_append];simp at hlen2;omega);have HP:=Qh (Qa hp (Qa hto (Qa hv (Qa hsz hrw))));rw[hv]at c0;clear hp hto hv hrw hL hsz hlen hlen2 HS hc hl hgo hkz hx;go_wp2_with(first
     |(at_builtin;refine wpList_append_own_at _ rfl (.tmp 19) (.tmp 20) 53 rfl 0 5 i0 (.int .u8 0) 1 1 Tryz.underlying53 HI.1 HI.2.1 HI.2.2.1 HI.2.2.2 rfl (by decide) _ _ _ rfl (zf HP.2.2.2.2 ((Keep.refl (fun _=>False) wr).alloc _) fun _ _=>id) ⟨wr.heap.size,0,none⟩ 1 1 [.int .u8 32] rfl rfl (cell_one_new _ _ _) (by simp[Value.oneCell']) (by have:=HP.2.2.2.1;unfold maxLen;omega) (by have:=HP.2.2.2.1;omega) (Nat.zero_le _) ?_;intro v2 w4 hrow hgr _ hblk;rw[<-HP.2.2.1]at hgr hblk;obtain⟨o2,L2,p2,hv2,hm⟩:=zbB (c:=32) HP.1 HL.out hrow hgr hblk;have c4:=z8C HP.1 hgr c0;have f4:=z8B HP.1 hgr f0;have HM:=Qh hm;rw[hv2];clear hrow hgr hblk hm hv2)
     |(at_builtin;refine xi _ rfl (.tmp 28) (.tmp 29) 53 9 rfl 5 i0 Tryz.underlying53 Tryz.underlying9 HI.1 HI.2.1 HI.2.2.1 HI.2.2.2 _ _ _ rfl HM.2.2.2.1 x rfl (by have:=HM.2.2.2.2;have:=HP.2.2.2.1;omega) ?_;intro v3 w5 hrow hgr hblk;obtain⟨o3,L3,p3,hv3,hm⟩:=z7L HM.1 HM.2.2.1 hrow hgr hblk;have c5:=z7O HM.1 hgr (za HM.1.blk 0);have f5:=z7N HM.1 hgr (zd HM.1.blk 0);simp at c5;have HM2:=Qh hm;rw[hv3];clear hrow hgr hblk hm hv3))
    go_roundg(gk-1);all_goals first|omega|skip
    case rel=>
     refine⟨k+1,by omega,by simp,?_⟩;refine⟨_,.slice o3 L3 p3,?_,(HP.2.1.trans HM.2.1).trans HM2.2.1⟩;rw[HX.out,<-List.append_assoc,<-List.append_assoc];exact HM2.1
  ·obtain rfl:k=N:=by omega
   have htk:ws.take k=ws:=List.take_of_length_le (by rw[HN.out];exact Nat.le_refl _);rw[htk]at hp;have hkI:¬(k:Int)<(k:Int):=(by omega);have c0:=za hp.blk 0;have f0:=zd hp.blk 0;simp at c0;obtain⟨o,p,hv⟩:=hp.row.len;have hrw:=hp.row.row;rw[hv]at hrw;obtain⟨L,hL⟩:=Qx ((B++bod ws).length);have HL:=Qh hL;rw[hL]at hv hrw;have hsz:L+1<=1099511627776:=by
    rw[<-hL];have:=hB;unfold ye at this;simp only[List.length_append,List.length_cons,List.length_nil]at this⊢
    omega
   have HP:=Qh (Qa hp (Qa hto (Qa hv (Qa hsz hrw))));rw[hv]at c0;clear hp hto hv hrw hL hsz hlen hs10 hB htk;go_wp2_with(at_builtin;refine wpList_append_own_at _ rfl (.tmp 38) (.tmp 39) 53 rfl 0 5 i0 (.int .u8 0) 1 1 Tryz.underlying53 HI.1 HI.2.1 HI.2.2.1 HI.2.2.2 rfl (by decide) _ _ _ rfl (zf HP.2.2.2.2 ((Keep.refl (fun _=>False) wr).alloc _) fun _ _=>id) ⟨wr.heap.size,0,none⟩ 1 1 [.int .u8 10] rfl rfl (cell_one_new _ _ _) (by simp[Value.oneCell']) (by have:=HP.2.2.2.1;unfold maxLen;omega) (by have:=HP.2.2.2.1;omega) (Nat.zero_le _) ?_;intro v2 w4 hrow hgr _ hblk;rw[<-HP.2.2.1]at hgr hblk;obtain⟨o2,L2,p2,hv2,hm⟩:=zbB (c:=10) HP.1 HL.out hrow hgr hblk;have c4:=z8C HP.1 hgr c0;have f4:=z8B HP.1 hgr f0;have HM:=Qh hm;rw[hv2];clear hrow hgr hblk hm hv2);go_end0;refine⟨rfl,_,.slice o2 L2 p2,?_,HP.2.1.trans HM.2.1⟩;unfold ye;rw[<-List.append_assoc];exact HM.1
end Sc
end Go.Proofs.YtkkecpamnnojoaaGreatDoor
