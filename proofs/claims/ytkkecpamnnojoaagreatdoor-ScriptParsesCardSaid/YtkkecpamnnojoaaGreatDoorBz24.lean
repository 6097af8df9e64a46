/- A part of the proof of ScriptParses: nothing is assumed. By an AI agent. -/
import Derived.Test.YtkkecpamnnojoaaGreatDoorBz23
set_option linter.unusedVariables false
set_option linter.unusedSimpArgs false
set_option maxRecDepth 100000
set_option maxHeartbeats 32000000
namespace Go.Proofs.YtkkecpamnnojoaaGreatDoor
open Go.ChangeShapes Go.WideShapes Go.ChangeAt Go.RowKit
open Bt Dc By
namespace Sc
theorem yW(tmps:Array Value)(w:World)(g:Nat)(cs:Array Value)
  (hp:tmps.getD 2 undef=.pointer (some ⟨g,0,none⟩))(hg:w.heap[g]?=some (.cells cs 84 (0,0)))(hs:cs.size=2):(results Tryz.f89 tmps).run Tryz.prog w=.ok (.tuple #[.agg cs,tmps.getD 3 undef]) w:=
 z04 rfl tmps w g 84 cs (0,0) _ hp hg Tryz.underlying84 rfl (by rw[hs];exact z4E)
theorem z6W{s:Str}{i n:Nat}(h:i<s.length)(hp:has n (s.take i)=false)(hc:(s[i]).toNat=n):ya n s=s.take i/\yt n s=s.drop (i+1)/\has n s=true:=by
 have e:s=s.take i++(s[i]::s.drop (i+1)):=(by rw[<-List.drop_eq_getElem_cons h,List.take_append_drop]);have key:∀(p t:Str) (c:UInt8),has n p=false->c.toNat=n->ya n (p++(c::t))=p/\yt n (p++(c::t))=t/\has n (p++(c::t))=true:=by
  intro p
  induction p with
  |nil=>intro t c _ hc;exact⟨by rw[List.nil_append,yA,if_pos hc],by rw[List.nil_append,yG,if_pos hc],by rw[List.nil_append,qD,decide_eq_true hc];rfl⟩
  |cons x p ih=>
   intro t c hp hc;rw[qD,Bool.or_eq_false_iff,decide_eq_false_iff_not]at hp;obtain⟨h1,h2,h3⟩:=ih t c hp.2 hc;refine⟨?_,?_,?_⟩
   ·rw[List.cons_append,yA,if_neg hp.1,h1]
   ·rw[List.cons_append,yG,if_neg hp.1,h2]
   ·rw[List.cons_append,qD,h3,Bool.or_true]
 have:=key (s.take i) (s.drop (i+1)) s[i] hp hc;rw[<-e]at this;exact this
theorem zc1{z out:Str}(h:y9 z true=some out):(out=[]->y9 z false=none)/\(out≠[]->y9 z false=some out):=by
 unfold y9 at h⊢
 by_cases hz:z=[45]
 ·rw[if_pos ⟨hz,rfl⟩]at h;cases h;refine⟨fun _=>?_,fun h=>absurd rfl h⟩;rw[if_neg (fun h=>by cases h.2),if_pos (Or.inr (by rw[hz];decide))]
 ·rw[if_neg (fun h=>hz h.1)]at h
  rw[if_neg (fun h=>hz h.1)];refine⟨fun e=>?_,fun _=>h⟩;subst e;split at h
  ·cases h
  ·rename_i hn
   match z,hn with
   |[],hn=>exact absurd (Or.inl rfl) hn
   |[a],hn=>exact absurd (Or.inr (by simp)) hn
   |a::b::r,hn=>
    rw[xy]at h;split at h
    ·cases h
    ·cases hp:zL r with
     |none=>rw[hp]at h;cases h
     |some x=>rw[hp]at h;cases h
theorem z9Z{s:Str}{i:Nat}(h:i<=s.length):(zc s).extract 0 i=zc (s.take i):=by have h1:=z0p (s:=s) (fr:=0) (k:=i) (Nat.zero_le _) h;rw[h1];rfl
theorem zcF{s:Str}{i:Nat}(h:i<=s.length):(zc s).extract i s.length=zc (s.drop i):=by have h1:=z0p (s:=s) (fr:=i) (k:=s.length) h (Nat.le_refl _);rw[h1];unfold cur;rw[List.take_of_length_le (by rw[List.length_drop];exact Nat.le_refl _)]
theorem z9p(s:Str)(w:World)(hs:s.length<=1073741824):Calls Tryz.prog 89 #[.string (zc s)] w (zen s w):=by
 obtain⟨N,hN⟩:=Qx s.length;have hZ:((zc s).size:Int)=(N:Int):=(by rw[zw s,hN]);have HCH:=Qh (qu s);have HE1:=Qh (fun(i:Nat) (h:i<=s.length)=>z9Z (s:=s) h);have HE2:=Qh (fun(i:Nat) (h:i<=s.length)=>zcF (s:=s) h);have HKF:=Qh (z1P s);have HN:=Qh (Qa hN hs);rw[hN]at hs HE2;have HNS:=Qh (yN s);obtain⟨r,hr⟩:=Qx w.heap.size;obtain⟨W0,hW0⟩:∃W0,w.alloc (.cells #[.int .i64 0,.slice none 0 0] 84)=W0:=⟨_,rfl⟩;have b0:W0.heap[r]?=some (.cells #[.int .i64 0,.slice none 0 0] 84 (0,0)):=(by rw[<-hW0,<-hr];exact zm _ _);have k0:Keep (fun _=>False) w W0:=(by rw[<-hW0];exact(Keep.refl _ w).alloc _);have HB:=Qh (Qa b0 (Qa k0 hr));have hFin:∀(w2:World) (u0 u1:Value),Keep (fun _=>False) W0 w2->Keep (fun _=>False) w ((w2.setCell ⟨r,0,none⟩ u0).setCell ⟨r,1,none⟩ u1):=fun w2 u0 u1 k2=>
  (k0.trans k2).own (((Keep.refl (fun g=>g=r) w2).setCell (p:=⟨r,0,none⟩) (Or.inl rfl) u0).setCell (p:=⟨r,1,none⟩) (Or.inl rfl) u1) fun i hi=>Or.inr (by omega)
 have HFin:=Qh hFin;generalize hS:zc s=S at*
 clear hN hS b0 k0 hFin;go_in;go_wp2_with fail;clear hW0 hr;go_loopg[4] N (fun gq s4 wr=>∃i:Nat,gq+i=N/\s4=.int .i64 (i:Int)/\wr=W0/\Hid (has 58 (s.take i)=false))
 case atStart=>exact⟨0,by omega,rfl,by first|rfl|assumption,rfl⟩
 case round=>
  obtain⟨i,hgi,rfl,rfl,HJ⟩:=hrel;have hi0:(0:Int)<=(i:Int):=(by omega);by_cases hiN:i<N
  ·have hlt:(i:Int)<(N:Int):=by omega
   have hil:i<s.length:=(by rw[HN.1];exact hiN);have hin:i<S.size:=(by omega);have hcc:=HCH.out i hil;obtain⟨c,hch⟩:∃c,ch S (i:Int)=c:=⟨_,rfl⟩;rw[hch]at hcc;by_cases hc:c=58
   ·obtain⟨ha,hbh,hh⟩:=z6W hil HJ.out (by rw[<-hcc];exact hc)
    have hKF:yS s=match zh (s.take i)with
     |none=>.error 66
     |some n=>match y9 (s.drop (i+1)) false with
      |none=>.error 64
      |some b=>.ok ⟨n,b⟩:=by rw[HKF.out,ha,hbh,hh];rfl
    have x1:=HE1.out i (by omega);have x2:=HE2.out (i+1) hiN;have HNUM:=Qh (yN (s.take i) wr (by rw[List.length_take];have:=HN.2;omega));have HHX:=Qh (fun W=>z31 (s.drop (i+1)) W (by rw[List.length_drop];have:=HN.2;omega));obtain⟨z,hz⟩:=Qx (s.drop (i+1));rw[hz]at HHX hKF x2;obtain⟨y,hy⟩:=Qx (s.take i);rw[hy]at HNUM hKF x1;obtain⟨e1,he1⟩:=Qx (zc y);obtain⟨e2,he2⟩:=Qx (zc z);rw[he1]at HNUM x1;rw[he2]at HHX x2;have HR:=Qh hKF;have HX2:=Qh (Qa x2 (show S.size=N by omega));rw[hc]at hch;obtain⟨j,hj⟩:=Qx (i+1);have HX2:=Qh (show S.extract j S.size=e2 from by rw[HX2.2,<-hj];exact HX2.1);clear x2;have hjw:IntKind.i64.wrap ((i:Int)+1)=(j:Int):=(by rw[IntKind.wrap_i64];omega);have hi1:(0:Int)<=(j:Int):=(by omega);have hiN1:(j:Int)<=(N:Int):=(by omega);have hd0:=za HB.1 0;clear hKF ha hbh hh hz hy he1 he2 hcc hil hc HNS hd0 hj;go_upto_region 6 with(go_at_call 87;refine HNUM.mono ?_;rintro e w2 ⟨n,ok,rfl,hq,k2⟩;have H2:=Qh (Qa hq k2);clear hq k2);have b2:=H2.2.same HB.1 id;have d0:=za b2 0;have d1:=za b2 1;have g0:=zd b2 0;have g1:=zd b2 1;simp at d0 d1;have HB2:=Qh b2;clear b2;cases ok with
    |false=>
     have hx:zh y=none:=by
      have h:=H2.1;cases hq:zh y with
      |none=>rfl
      |some v=>rw[hq]at h;exact absurd h.1 (by decide)
     have HZ:=Qh (show yS s=.error 66 from by rw[HR.out,hx]);clear hx;go_wp2_with fail;refine bodyPost_ret (yW _ _ r _ rfl (zg (zg HB2.out 0 _) 1 _) rfl) rfl ?_;exact⟨Or.inr ⟨66,HZ.out,by decide,rfl⟩,HFin.out _ _ _ H2.2⟩
    |true=>
     have hx:zh y=some n:=by
      have h:=H2.1;cases hq:zh y with
      |none=>rw[hq]at h;cases h
      |some v=>rw[hq]at h;rw[h.2]
     have HZ:=Qh (show yS s=match y9 z false with|none=>.error 64|some b=>.ok ⟨n,b⟩from by rw[HR.out,hx]);clear hx;go_wp2_with fail;rw[HX2.out];refine(HHX.out _).mono ?_;rintro e w3 ⟨(⟨out,v,hho,rfl,hrow⟩|⟨hho,rfl⟩),k3⟩
     ·have b3:=k3.same HB2.out id
      have e0:=za b3 0;have e1':=za b3 1;have q0:=zd b3 0;have q1:=zd b3 1;simp at e0 e1';obtain⟨oo,cc,hv⟩:∃oo cc,v=.slice oo out.length cc:=by
       rcases hrow.2 with⟨h1,h2⟩|⟨g,cap,cur,h1,-⟩
       ·exact⟨none,0,by rw[h1,h2]⟩
       ·exact⟨_,cap,h1⟩
      have hvb:∀g,v.ownBlock=some g->w2.heap.size<=g:=fun g hg=>xL hrow hg;obtain⟨L,hL⟩:=Qx out.length;have HV:=Qh (Qa hrow (Qa b3 (Qa k3 (Qa hvb hL))));have hdd:=zc1 hho;have hw2:=H2.2.size;rw[hL]at hv;subst hv;by_cases h0:out=[]
      ·have HQ:=Qh (show yS s=.error 64 from by rw[HZ.out,hdd.1 h0]);have hL0:L=0:=(by rw[<-hL,h0];rfl);subst hL0;clear hdd h0 hrow b3 hvb hho hL d0 d1 g0 g1;go_wp2_with fail;refine bodyPost_ret (yW _ _ r _ rfl (zg (zg HV.2.1 0 _) 1 _) rfl) rfl ?_;exact⟨Or.inr ⟨64,HQ.out,by decide,rfl⟩,HFin.out _ _ _ (H2.2.trans HV.2.2.1)⟩
      ·have HQ:=Qh (show yS s=.ok ⟨n,out⟩from by rw[HZ.out,hdd.2 h0]);have hL0:((L:Int)==0)=false:=(by rw[beq_eq_false_iff_ne];intro h;exact h0 (List.length_eq_zero_iff.1 (by omega)));clear hdd h0 hrow b3 hvb hho hL d0 d1 g0 g1;go_wp2_with fail;refine bodyPost_ret (yW _ _ r _ rfl (zg (zg HV.2.1 0 _) 1 _) rfl) rfl ?_;refine⟨Or.inl ⟨⟨n,out⟩,.slice oo L cc,HQ.out,rfl,?_⟩,HFin.out _ _ _ (H2.2.trans HV.2.2.1)⟩;have hkr:Keep (fun g=>g=r) w3 ((w3.setCell ⟨r,0,none⟩ (.int .i64 n)).setCell ⟨r,1,none⟩ (.slice oo L cc)):=((Keep.refl (fun g=>g=r) w3).setCell (p:=⟨r,0,none⟩) (Or.inl rfl) _).setCell (p:=⟨r,1,none⟩) (Or.inl rfl) _;have hrl:r<w2.heap.size:=lt_of_block HB2.out;have hwr:w.heap.size<=w2.heap.size:=(by have:=HB.2.2;omega);exact qx (zf HV.1 hkr fun g hg e=>by have:=HV.2.2.2.1 g hg;omega) fun g hg=>Nat.le_trans hwr (HV.2.2.2.1 g hg)
     ·have b3:=k3.same HB2.out id
      have e0:=za b3 0;have e1':=za b3 1;have q0:=zd b3 0;have q1:=zd b3 1;simp at e0 e1';have hfl:y9 z false=none:=by
       unfold y9 at hho⊢
       by_cases hz:z=[45]
       ·rw[if_pos ⟨hz,rfl⟩]at hho;cases hho
       ·rw[if_neg (fun h=>hz h.1)]at hho;rw[if_neg (fun h=>hz h.1)];exact hho
      have HQ:=Qh (Qa (show yS s=.error 64 from by rw[HZ.out,hfl]) (Qa b3 k3));clear hho hfl b3 k3 d0 d1 g0 g1;go_wp2_with fail;refine bodyPost_ret (yW _ _ r _ rfl (zg (zg HQ.2.1 0 _) 1 _) rfl) rfl ?_;exact⟨Or.inr ⟨64,HQ.1,by decide,rfl⟩,HFin.out _ _ _ (H2.2.trans HQ.2.2)⟩
   ·have hcb:((c:Int) != 58)=true:=by rw[bne_iff_ne];omega
    have HP:=Qh (show has 58 (s.take (i+1))=false from by
     rw[qJ hil,z5l,HJ.out];unfold has;rw[List.any_cons,decide_eq_false (by rw[<-hcc];exact hc)];rfl)
    (clear hcc hil hc;go_wp2_with fail;go_roundg(gk-1);all_goals first|omega|skip);exact⟨i+1,by omega,by simp,by first|rfl|assumption,HP.out⟩
  ·obtain rfl:i=N:=by omega
   have hlt:¬(i:Int)<(i:Int):=(by omega);have hh:=HJ.out;rw[List.take_of_length_le (by rw[HN.1];exact Nat.le_refl _)]at hh;have HR:=Qh (show yS s=match zh s with|none=>.error 66|some n=>.ok ⟨n,[]⟩from by rw[HKF.out,xa 58 hh,hh];rfl);have HNUM:=Qh (HNS.out wr HN.2);clear hh;go_upto_region 13 with(go_at_call 87;refine HNUM.mono ?_;rintro e w2 ⟨n,ok,rfl,hq,k2⟩;have H2:=Qh (Qa hq k2);clear hq k2);have b2:=H2.2.same HB.1 id;have d0:=za b2 0;have d1:=za b2 1;have g0:=zd b2 0;have g1:=zd b2 1;simp at d0 d1;have HB2:=Qh b2;clear b2;cases ok with
   |false=>
    have hx:zh s=none:=by
     have h:=H2.1;cases hq:zh s with
     |none=>rfl
     |some v=>rw[hq]at h;exact absurd h.1 (by decide)
    have HZ:=Qh (show yS s=.error 66 from by rw[HR.out,hx]);clear hx;go_wp2_with fail;refine bodyPost_ret (yW _ _ r _ rfl (zg (zg HB2.out 0 _) 1 _) rfl) rfl ?_;exact⟨Or.inr ⟨66,HZ.out,by decide,rfl⟩,HFin.out _ _ _ H2.2⟩
   |true=>
    have hx:zh s=some n:=by
     have h:=H2.1;cases hq:zh s with
     |none=>rw[hq]at h;cases h
     |some v=>rw[hq]at h;rw[h.2]
    have HZ:=Qh (show yS s=.ok ⟨n,[]⟩from by rw[HR.out,hx]);clear hx;go_wp2_with fail;refine bodyPost_ret (yW _ _ r _ rfl (zg (zg HB2.out 0 _) 1 _) rfl) rfl ?_;exact⟨Or.inl ⟨⟨n,[]⟩,.slice none 0 0,HZ.out,rfl,yi _ _ _ _⟩,HFin.out _ _ _ H2.2⟩
noncomputable def zi(σ:PS)(k:Int)(x:Str)(ws:List Str):Except Int PS:=
 if nxt σ.st k=6\/(k=5/\σ.p.tasks=[])then .error 63
 else if full σ.p k ws.length=true then .error 9
 else if zF k x ws.length=false then .error 64
 else match zH σ.p k x ws with
  | .error e=>.error e
  | .ok p=>.ok ⟨p,nxt σ.st k⟩
def qI(own:Nat->Option T)(pb:Nat)(r:Except Int PS)(w:World)(e:Ending)(w':World):Prop:=
 (∃σ own' m',r=.ok σ/\e=.returned (.int .i64 0)/\RAt w' own' pb m'/\m'.play=σ.p/\m'.st=σ.st/\To own own' w w')\/(∃c,r=.error c/\c≠0/\e=.returned (.int .i64 c)/\Keep (fun g=>own g≠none) w w')
structure RkAt (w:World) (own:Nat->Option T) (pb:Nat) (m:M) (g f:Nat) (x:Str) (ws:List Str):Prop where
 at_:RAt w own pb m
 wa:qh w (some ⟨g,f,none⟩) (x::ws)
 sz:∀i,((x::ws).getD i []).length<=1073741824
 n:ws.length<=1048576
 free:own g=none
 few:Few m.play
 s5:m.st=5↔m.es≠[]
 s3:m.st=3->m.ts≠[]
 st:m.st<=5
theorem RkAt.cell{w:World}{own:Nat->Option T}{pb:Nat}{m:M}{g f:Nat}{x:Str}{ws:List Str}(h:RkAt w own pb m g f x ws)(i:Nat)(hi:i<ws.length+1){W:World}(k:Keep (fun _=>False) w W):W.cell? ⟨g,f+i,none⟩=some (.string (zc ((x::ws).getD i []))):=by obtain⟨g',f',e,hc,hl⟩:=h.wa i hi;cases e;exact(k.cell (p:=⟨g,f+i,none⟩) hl id).trans hc
theorem xq{y:Str}{n:Int}(h:match zh y with|some v=>true=true/\n=v|none=>true=false):zh y=some n:=by
 cases hq:zh y with
 |none=>rw[hq]at h;cases h
 |some v=>rw[hq]at h;rw[h.2]
theorem z0j{y:Str}{n:Int}(h:match zh y with|some v=>false=true/\n=v|none=>false=false):zh y=none:=by
 cases hq:zh y with
 |none=>rfl
 |some v=>rw[hq]at h;exact absurd h.1 (by decide)
theorem z5M{ws:List Str}(h:ws.length=3):∃a b c,ws=[a,b,c]:=by
 match ws,h with
 |[a,b,c],_=>exact⟨a,b,c,rfl⟩
theorem z7x{w:World}{own:Nat->Option T}{pb:Nat}{m:M}{g f:Nat}(cl:Nat){x:Str}{ws:List Str}(h:RkAt w own pb m g f x ws)(hst:m.st=2)(hcl:ws.length+1<=cl):
  Calls Tryz.prog 52 #[.pointer (some ⟨pb,0,none⟩),.slice (some ⟨g,f,none⟩) (ws.length+1) cl] w (qI own pb (zi ⟨m.play,m.st⟩ 3 x ws) w):=by
 have hR:zi ⟨m.play,m.st⟩ 3 x ws=(if 64<=(yb m).length then .error 9 else if ws.length≠3 then .error 64 else match zH m.play 3 x ws with| .error e=>.error e| .ok p=>.ok ⟨p,2⟩):=by
  unfold zi;rw[hst,if_neg (fun h=>by
   rcases h with h|⟨h,-⟩
   ·exact absurd (show nxt 2 3=6 from h) (by decide)
   ·exact absurd h (by decide))]
  rw[show full m.play 3 ws.length=decide (64<=(yb m).length)from by rw[z2L];rfl,show zF 3 x ws.length=decide (ws.length=3)from rfl];simp;rfl
 have hfl:(yb m).length<=64:=h.few.mem.2.2.2.1;have hel:m.es.length<=16:=h.few.mem.1;obtain⟨n,hn⟩:=Qx ws.length;have hnb:n<=1048576:=(by rw[<-hn];exact h.n);have c9:=za h.at_.blk 9;have c13:=za h.at_.blk 13;have c14:=za h.at_.blk 14;unfold M.rcells at c9 c13 c14;simp at c9 c13 c14;rw[hst]at c14;clear c9;obtain⟨ca,fa,oa,pa,hav⟩:=h.at_.arm_cell;rw[hav]at ca;clear c13;have he:m.es=[]:=by
  by_cases h0:m.es=[]
  ·exact h0
  ·have:=h.s5.2 h0;omega
 have hP:yu m pb=⟨pb,9,none⟩:=(by unfold yu;rw[if_pos he]);have HP:=Qh (Qa hP hst);rw[hP]at ca fa;have hPl:pb<w.heap.size:=By.zG ca;obtain⟨q,hq⟩:=Qx ((yb m).length);have HH:=Qh (Qa h (Qa (show qv m=.slice oa q pa by rw[hav,hq]) (Qa hq hn)));rw[hq]at hR hfl ca;rw[hn]at hR⊢
 have HCL:=Qh (fun(i:Nat) (hi:i<n+1) (W:World) (k:Keep (fun _=>False) w W)=>h.cell i (by rw[hn];exact hi) k);have HNS:=Qh yN;clear h hst hav hq hn hP;by_cases h9:64<=q
 ·obtain rfl:q=64:=(by omega);have HE:=Qh (show zi ⟨m.play,m.st⟩ 3 x ws=.error 9 from by rw[hR,if_pos h9]);clear hR h9 hfl;go_in;go_wp2_with fail;go_ret;exact Or.inr ⟨9,HE.out,by decide,rfl,(Keep.refl (fun _=>False) w).mono fun _ _ h=>h.elim⟩
 have b9:((q:Int)==64)=false:=Qb (by omega);rw[if_neg h9]at hR;by_cases h3:n≠3
 ·have b3:((n:Int)+1 != 4)=true:=(by rw[bne_iff_ne];omega);have HE:=Qh (show zi ⟨m.play,m.st⟩ 3 x ws=.error 64 from by rw[hR,if_pos h3]);clear hR h9 hfl h3;go_in;go_wp2_with fail;go_ret;exact Or.inr ⟨64,HE.out,by decide,rfl,(Keep.refl (fun _=>False) w).mono fun _ _ h=>h.elim⟩
 obtain rfl:n=3:=(by omega);obtain⟨a,b,c,rfl⟩:=z5M HH.2.2.2;rw[if_neg (by decide)]at hR;have hR2:zi ⟨m.play,m.st⟩ 3 x [a,b,c]=match zh a with
  |none=>.error 66
  |some n=>if zq b=0 then .error 65 else match zh c with
   |none=>.error 66
   |some q=>.ok ⟨arm m.play ⟨n,zq b,q⟩,2⟩:=by
  rw[hR,show zH m.play 3 x [a,b,c]=yZ m.play [a,b,c]from rfl,show yZ m.play [a,b,c]=(match zh a with
   |none=>.error 66
   |some n=>if zq b=0 then .error 65 else match zh c with
    |none=>.error 66
    |some q=>.ok (arm m.play ⟨n,zq b,q⟩))from rfl]
  cases zh a with
  |none=>rfl
  |some n=>
   by_cases hk:zq b=0
   ·simp only[if_pos hk]
   ·simp only[if_neg hk];cases zh c<;>rfl
 have HR:=Qh hR2;have HZ:=Qh (Qa (HH.1.sz 1) (HH.1.sz 3));have HC1:=Qh (fun(W:World) (k:Keep (fun _=>False) w W)=>show W.cell? ⟨g,f+1,none⟩=some (.string (zc a))from HCL.out 1 (by decide) W k);have HC2:=Qh (fun(W:World) (k:Keep (fun _=>False) w W)=>show W.cell? ⟨g,f+2,none⟩=some (.string (zc b))from HCL.out 2 (by decide) W k);have HC3:=Qh (fun(W:World) (k:Keep (fun _=>False) w W)=>show W.cell? ⟨g,f+3,none⟩=some (.string (zc c))from HCL.out 3 (by decide) W k);have x1:=HC1.out w (Keep.refl _ _);have HNow:=Qh (Keep.refl (fun _=>False) w);have HNA:=Qh (fun W=>HNS.out a W HZ.1);have HNC:=Qh (fun W=>HNS.out c W HZ.2);have HKD:=Qh (fun W=>z35 b W);obtain⟨sa,hsa⟩:=Qx (zc a);obtain⟨sb,hsb⟩:=Qx (zc b);obtain⟨sc,hsc⟩:=Qx (zc c);rw[hsa]at x1 HNA HC1;rw[hsb]at HKD HC2;rw[hsc]at HNC HC3;obtain⟨kk,hkk⟩:=Qx (zq b);rw[hkk]at HKD HR;have hqb:q<=1048576:=(by omega);clear hR hR2 h9 hfl hsa hsb hsc HNS HCL hkk;go_in;go_upto_region 11 with(go_at_call 87;refine(HNA.out _).mono ?_;rintro e w1 ⟨n1,ok,rfl,hq1,k1⟩;have H1:=Qh (Qa hq1 k1);clear hq1 k1);have kw1:=Qh (H1.2);cases ok with
 |false=>
  have HE:=Qh (show zi ⟨m.play,m.st⟩ 3 x [a,b,c]=.error 66 from by rw[HR.out,z0j H1.1]);go_wp2_with fail;go_ret;exact Or.inr ⟨66,HE.out,by decide,rfl,kw1.out.mono fun _ _ h=>h.elim⟩
 |true=>
  have HRa:=Qh (show zi ⟨m.play,m.st⟩ 3 x [a,b,c]=(if kk=0 then .error 65 else match zh c with|none=>.error 66|some q=>.ok ⟨arm m.play ⟨n1,kk,q⟩,2⟩)from by rw[HR.out,xq H1.1]);have x2:=HC2.out w1 kw1.out;by_cases hk0:kk=0
  ·subst hk0;have HE:=Qh (show zi ⟨m.play,m.st⟩ 3 x [a,b,c]=.error 65 from by rw[HRa.out,if_pos rfl]);go_wp2_with(go_at_call 88;refine(HKD.out _).mono ?_;rintro e w2 ⟨rfl,hw2⟩;obtain rfl:w1=w2:=hw2.symm);go_ret;exact Or.inr ⟨65,HE.out,by decide,rfl,kw1.out.mono fun _ _ h=>h.elim⟩
  have bk:(kk==0)=false:=(by rw[beq_eq_false_iff_ne];exact hk0);have HRb:=Qh (show zi ⟨m.play,m.st⟩ 3 x [a,b,c]=(match zh c with|none=>.error 66|some q=>.ok ⟨arm m.play ⟨n1,kk,q⟩,2⟩)from by rw[HRa.out,if_neg hk0]);have x3:=HC3.out w1 kw1.out;clear hk0 x1;go_upto_region 17 with(first
   |(go_at_call 88;refine(HKD.out _).mono ?_;rintro e w2 ⟨rfl,hw2⟩;obtain rfl:w1=w2:=hw2.symm)
   |(go_at_call 87;refine(HNC.out _).mono ?_;rintro e w3 ⟨n3,ok3,rfl,hq3,k3⟩;have H3:=Qh (Qa hq3 (kw1.out.trans k3));clear hq3 k3))
  cases ok3 with
  |false=>
   have HE:=Qh (show zi ⟨m.play,m.st⟩ 3 x [a,b,c]=.error 66 from by rw[HRb.out,z0j H3.1]);go_wp2_with fail;go_ret;exact Or.inr ⟨66,HE.out,by decide,rfl,H3.2.mono fun _ _ h=>h.elim⟩
  |true=>
   have HE:=Qh (show zi ⟨m.play,m.st⟩ 3 x [a,b,c]=.ok ⟨arm m.play ⟨n1,kk,n3⟩,2⟩from by rw[HRb.out,xq H3.1]);have ca3:=(H3.2.cell (p:=⟨pb,9,none⟩) hPl id).trans ca;have fa3:=(H3.2.frozen (p:=⟨pb,9,none⟩) hPl id).trans fa;have hrow:w3.ownsRow 0 114 3 (.slice oa q pa) q (fsv (yb m)):=(by have h:=(HH.1.at_.kept H3.2).arm_row.1.row;rw[HH.2.1,HH.2.2.1]at h;exact h);have hgne:∀b',(qv m).ownBlock=some b'->b'≠pb:=fun b' hb e=>(by obtain⟨h1,t2,h2,-,h3⟩:=HH.1.at_.arm_row;have h4:=h1.tag b' hb;rw[HP.1,<-e,h4]at h2;exact h3 (Option.some.inj h2).symm);have HROW:=Qh (Qa hrow hgne);obtain⟨i0,hi0,hz0,hz1,hz2⟩:=zbW;have HI:=Qh (Qa hi0 (Qa hz0 (Qa hz1 hz2)));clear hrow hgne hi0 hz0 hz1 hz2 x2 x3 ca fa;go_wp2_with(at_builtin;refine wpList_append_own_at _ rfl (.tmp 73) (.tmp 78) 35 rfl 0 114 i0 _ 3 24 Tryz.underlying35 HI.1 HI.2.1 HI.2.2.1 HI.2.2.2 rfl (by decide) (.slice oa q pa) q (fsv (yb m)) rfl (zf HROW.1 ((Keep.refl (fun _=>False) w3).alloc _) fun _ _=>id) ⟨w3.heap.size,0,none⟩ 1 1 [.int .i64 n1,.int .i64 kk,.int .i64 n3] rfl rfl (zD _ _ _) (by intro u hu;simp at hu;rcases hu with rfl|rfl|rfl<;>rfl) (by unfold maxLen;omega) (by omega) (Nat.zero_le _) ?_;intro v4 w4 hown hgr _ hblk;obtain⟨g4,c4,rfl⟩:=ownsRow_succ hown;rw[<-HH.2.1]at hgr hblk;have k4:Keep (fun q=>(qv m).ownBlock=some q) w3 w4:=((Keep.refl (fun q=>(qv m).ownBlock=some q) w3).alloc _).trans (zp hgr);have ca4:=(k4.cell (p:=⟨pb,9,none⟩) (Nat.lt_of_lt_of_le hPl H3.2.size) (fun h=>HROW.2 _ h rfl)).trans ca3;have fa4:=(k4.frozen (p:=⟨pb,9,none⟩) (Nat.lt_of_lt_of_le hPl H3.2.size) (fun h=>HROW.2 _ h rfl)).trans fa3;have H4:=Qh (Qa hown (Qa hblk k4));clear hown hgr hblk k4);go_ret;have hq:=HH.2.2.1;have hown:=H4.1;rw[<-hq]at hown;have hpush:=HH.1.at_.arm_push ⟨n1,kk,n3⟩ hown ((H3.2.mono fun _ _ h=>h.elim).trans H4.2.2) (by
    rcases H4.2.1 with h|h
    ·exact Or.inl h
    ·refine Or.inr ⟨_,h,?_⟩
     have:=H3.2.size;simp;omega)
   rw[HP.1]at hpush;obtain⟨e1,e2⟩:=M.arm_play m ⟨n1,kk,n3⟩ (.slice (some ⟨g4,0,none⟩) ((yb m).length+1) c4);rw[hq]at hpush e1 e2;exact Or.inl ⟨_,_,_,HE.out,rfl,hpush.1,e1,e2.trans HP.2,hpush.2⟩
theorem z66{w:World}{own:Nat->Option T}{pb:Nat}{m:M}{g f:Nat}(cl:Nat){x:Str}{ws:List Str}(h:RkAt w own pb m g f x ws)(hst:m.st=5)(hcl:ws.length+1<=cl):
  Calls Tryz.prog 52 #[.pointer (some ⟨pb,0,none⟩),.slice (some ⟨g,f,none⟩) (ws.length+1) cl] w (qI own pb (zi ⟨m.play,m.st⟩ 3 x ws) w):=by
 have hR:zi ⟨m.play,m.st⟩ 3 x ws=(if 64<=(yb m).length then .error 9 else if ws.length≠3 then .error 64 else match zH m.play 3 x ws with| .error e=>.error e| .ok p=>.ok ⟨p,5⟩):=by
  unfold zi;rw[hst,if_neg (fun h=>by
   rcases h with h|⟨h,-⟩
   ·exact absurd (show nxt 5 3=6 from h) (by decide)
   ·exact absurd h (by decide))]
  rw[show full m.play 3 ws.length=decide (64<=(yb m).length)from by rw[z2L];rfl,show zF 3 x ws.length=decide (ws.length=3)from rfl];simp;rfl
 have hfl:(yb m).length<=64:=h.few.mem.2.2.2.1;have hel:m.es.length<=16:=h.few.mem.1;obtain⟨n,hn⟩:=Qx ws.length;have hnb:n<=1048576:=(by rw[<-hn];exact h.n);have c9:=za h.at_.blk 9;have c13:=za h.at_.blk 13;have c14:=za h.at_.blk 14;unfold M.rcells at c9 c13 c14;simp at c9 c13 c14;rw[hst]at c14;clear c9;obtain⟨ca,fa,oa,pa,hav⟩:=h.at_.arm_cell;rw[hav]at ca;have hne:m.es≠[]:=h.s5.1 hst;obtain⟨gP,capE,hve,-,-,-⟩:=h.at_.shape_es hne;obtain⟨L,hL⟩:=Qx m.es.length;have hL0:0<L:=(by rw[<-hL];exact List.length_pos_iff.2 hne);obtain⟨l,hl⟩:∃l,L=l+1:=⟨L-1,by omega⟩;have hP:yu m pb=⟨gP,l*3+2,none⟩:=(by unfold yu;rw[if_neg hne,hve,hL,hl];rfl);rw[hve,hL]at c13;rw[hL]at hel;have hlw:IntKind.i64.wrap ((L:Int)-1)=(l:Int):=(by rw[IntKind.wrap_i64];omega);have hl0:(0:Int)<=(l:Int):=(by omega);have hlL:(l:Int)<(L:Int):=(by omega);clear hve hL hne hl;have HP:=Qh (Qa hP hst);rw[hP]at ca fa;have hPl:gP<w.heap.size:=By.zG ca;obtain⟨q,hq⟩:=Qx ((yb m).length);have HH:=Qh (Qa h (Qa (show qv m=.slice oa q pa by rw[hav,hq]) (Qa hq hn)));rw[hq]at hR hfl ca;rw[hn]at hR⊢
 have HCL:=Qh (fun(i:Nat) (hi:i<n+1) (W:World) (k:Keep (fun _=>False) w W)=>h.cell i (by rw[hn];exact hi) k);have HNS:=Qh yN;clear h hst hav hq hn hP;by_cases h9:64<=q
 ·obtain rfl:q=64:=(by omega);have HE:=Qh (show zi ⟨m.play,m.st⟩ 3 x ws=.error 9 from by rw[hR,if_pos h9]);clear hR h9 hfl;go_in;go_upto_region 3 with fail;go_quiet(fail);go_wp2_with fail;go_ret;exact Or.inr ⟨9,HE.out,by decide,rfl,((Keep.refl (fun _=>False) w).drewN _).mono fun _ _ h=>h.elim⟩
 have b9:((q:Int)==64)=false:=Qb (by omega);rw[if_neg h9]at hR;by_cases h3:n≠3
 ·have b3:((n:Int)+1 != 4)=true:=(by rw[bne_iff_ne];omega);have HE:=Qh (show zi ⟨m.play,m.st⟩ 3 x ws=.error 64 from by rw[hR,if_pos h3]);clear hR h9 hfl h3;go_in;go_upto_region 3 with fail;go_quiet(fail);go_wp2_with fail;go_ret;exact Or.inr ⟨64,HE.out,by decide,rfl,((Keep.refl (fun _=>False) w).drewN _).mono fun _ _ h=>h.elim⟩
 obtain rfl:n=3:=(by omega);obtain⟨a,b,c,rfl⟩:=z5M HH.2.2.2;rw[if_neg (by decide)]at hR;have hR2:zi ⟨m.play,m.st⟩ 3 x [a,b,c]=match zh a with
  |none=>.error 66
  |some n=>if zq b=0 then .error 65 else match zh c with
   |none=>.error 66
   |some q=>.ok ⟨arm m.play ⟨n,zq b,q⟩,5⟩:=by
  rw[hR,show zH m.play 3 x [a,b,c]=yZ m.play [a,b,c]from rfl,show yZ m.play [a,b,c]=(match zh a with
   |none=>.error 66
   |some n=>if zq b=0 then .error 65 else match zh c with
    |none=>.error 66
    |some q=>.ok (arm m.play ⟨n,zq b,q⟩))from rfl]
  cases zh a with
  |none=>rfl
  |some n=>
   by_cases hk:zq b=0
   ·simp only[if_pos hk]
   ·simp only[if_neg hk];cases zh c<;>rfl
 have HR:=Qh hR2;have HZ:=Qh (Qa (HH.1.sz 1) (HH.1.sz 3));have HC1:=Qh (fun(W:World) (k:Keep (fun _=>False) w W)=>show W.cell? ⟨g,f+1,none⟩=some (.string (zc a))from HCL.out 1 (by decide) W k);have HC2:=Qh (fun(W:World) (k:Keep (fun _=>False) w W)=>show W.cell? ⟨g,f+2,none⟩=some (.string (zc b))from HCL.out 2 (by decide) W k);have HC3:=Qh (fun(W:World) (k:Keep (fun _=>False) w W)=>show W.cell? ⟨g,f+3,none⟩=some (.string (zc c))from HCL.out 3 (by decide) W k);have x1:=HC1.out w (Keep.refl _ _);have HNow:=Qh (Keep.refl (fun _=>False) w);have HNA:=Qh (fun W=>HNS.out a W HZ.1);have HNC:=Qh (fun W=>HNS.out c W HZ.2);have HKD:=Qh (fun W=>z35 b W);obtain⟨sa,hsa⟩:=Qx (zc a);obtain⟨sb,hsb⟩:=Qx (zc b);obtain⟨sc,hsc⟩:=Qx (zc c);rw[hsa]at x1 HNA HC1;rw[hsb]at HKD HC2;rw[hsc]at HNC HC3;obtain⟨kk,hkk⟩:=Qx (zq b);rw[hkk]at HKD HR;have hqb:q<=1048576:=(by omega);clear hR hR2 h9 hfl hsa hsb hsc HNS HCL hkk;go_in;go_upto_region 3 with fail;go_quiet(fail);go_upto_region 11 with(go_at_call 87;refine(HNA.out _).mono ?_;rintro e w1 ⟨n1,ok,rfl,hq1,k1⟩;have H1:=Qh (Qa hq1 k1);clear hq1 k1);have kw1:=Qh (((Keep.refl (fun _=>False) w).drewN _).trans H1.2);cases ok with
 |false=>
  have HE:=Qh (show zi ⟨m.play,m.st⟩ 3 x [a,b,c]=.error 66 from by rw[HR.out,z0j H1.1]);go_wp2_with fail;go_ret;exact Or.inr ⟨66,HE.out,by decide,rfl,kw1.out.mono fun _ _ h=>h.elim⟩
 |true=>
  have HRa:=Qh (show zi ⟨m.play,m.st⟩ 3 x [a,b,c]=(if kk=0 then .error 65 else match zh c with|none=>.error 66|some q=>.ok ⟨arm m.play ⟨n1,kk,q⟩,5⟩)from by rw[HR.out,xq H1.1]);have x2:=HC2.out w1 kw1.out;by_cases hk0:kk=0
  ·subst hk0;have HE:=Qh (show zi ⟨m.play,m.st⟩ 3 x [a,b,c]=.error 65 from by rw[HRa.out,if_pos rfl]);go_wp2_with(go_at_call 88;refine(HKD.out _).mono ?_;rintro e w2 ⟨rfl,hw2⟩;obtain rfl:w1=w2:=hw2.symm);go_ret;exact Or.inr ⟨65,HE.out,by decide,rfl,kw1.out.mono fun _ _ h=>h.elim⟩
  have bk:(kk==0)=false:=(by rw[beq_eq_false_iff_ne];exact hk0);have HRb:=Qh (show zi ⟨m.play,m.st⟩ 3 x [a,b,c]=(match zh c with|none=>.error 66|some q=>.ok ⟨arm m.play ⟨n1,kk,q⟩,5⟩)from by rw[HRa.out,if_neg hk0]);have x3:=HC3.out w1 kw1.out;clear hk0 x1;go_upto_region 17 with(first
   |(go_at_call 88;refine(HKD.out _).mono ?_;rintro e w2 ⟨rfl,hw2⟩;obtain rfl:w1=w2:=hw2.symm)
   |(go_at_call 87;refine(HNC.out _).mono ?_;rintro e w3 ⟨n3,ok3,rfl,hq3,k3⟩;have H3:=Qh (Qa hq3 (kw1.out.trans k3));clear hq3 k3))
  cases ok3 with
  |false=>
   have HE:=Qh (show zi ⟨m.play,m.st⟩ 3 x [a,b,c]=.error 66 from by rw[HRb.out,z0j H3.1]);go_wp2_with fail;go_ret;exact Or.inr ⟨66,HE.out,by decide,rfl,H3.2.mono fun _ _ h=>h.elim⟩
  |true=>
   have HE:=Qh (show zi ⟨m.play,m.st⟩ 3 x [a,b,c]=.ok ⟨arm m.play ⟨n1,kk,n3⟩,5⟩from by rw[HRb.out,xq H3.1]);have ca3:=(H3.2.cell (p:=⟨gP,l*3+2,none⟩) hPl id).trans ca;have fa3:=(H3.2.frozen (p:=⟨gP,l*3+2,none⟩) hPl id).trans fa;have hrow:w3.ownsRow 0 114 3 (.slice oa q pa) q (fsv (yb m)):=(by have h:=(HH.1.at_.kept H3.2).arm_row.1.row;rw[HH.2.1,HH.2.2.1]at h;exact h);have hgne:∀b',(qv m).ownBlock=some b'->b'≠gP:=fun b' hb e=>(by obtain⟨h1,t2,h2,-,h3⟩:=HH.1.at_.arm_row;have h4:=h1.tag b' hb;rw[HP.1,<-e,h4]at h2;exact h3 (Option.some.inj h2).symm);have HROW:=Qh (Qa hrow hgne);obtain⟨i0,hi0,hz0,hz1,hz2⟩:=zbW;have HI:=Qh (Qa hi0 (Qa hz0 (Qa hz1 hz2)));clear hrow hgne hi0 hz0 hz1 hz2 x2 x3 ca fa;go_wp2_with(at_builtin;refine wpList_append_own_at _ rfl (.tmp 73) (.tmp 78) 35 rfl 0 114 i0 _ 3 24 Tryz.underlying35 HI.1 HI.2.1 HI.2.2.1 HI.2.2.2 rfl (by decide) (.slice oa q pa) q (fsv (yb m)) rfl (zf HROW.1 ((Keep.refl (fun _=>False) w3).alloc _) fun _ _=>id) ⟨w3.heap.size,0,none⟩ 1 1 [.int .i64 n1,.int .i64 kk,.int .i64 n3] rfl rfl (zD _ _ _) (by intro u hu;simp at hu;rcases hu with rfl|rfl|rfl<;>rfl) (by unfold maxLen;omega) (by omega) (Nat.zero_le _) ?_;intro v4 w4 hown hgr _ hblk;obtain⟨g4,c4,rfl⟩:=ownsRow_succ hown;rw[<-HH.2.1]at hgr hblk;have k4:Keep (fun q=>(qv m).ownBlock=some q) w3 w4:=((Keep.refl (fun q=>(qv m).ownBlock=some q) w3).alloc _).trans (zp hgr);have ca4:=(k4.cell (p:=⟨gP,l*3+2,none⟩) (Nat.lt_of_lt_of_le hPl H3.2.size) (fun h=>HROW.2 _ h rfl)).trans ca3;have fa4:=(k4.frozen (p:=⟨gP,l*3+2,none⟩) (Nat.lt_of_lt_of_le hPl H3.2.size) (fun h=>HROW.2 _ h rfl)).trans fa3;have H4:=Qh (Qa hown (Qa hblk k4));clear hown hgr hblk k4);go_ret;have hq:=HH.2.2.1;have hown:=H4.1;rw[<-hq]at hown;have hpush:=HH.1.at_.arm_push ⟨n1,kk,n3⟩ hown ((H3.2.mono fun _ _ h=>h.elim).trans H4.2.2) (by
    rcases H4.2.1 with h|h
    ·exact Or.inl h
    ·refine Or.inr ⟨_,h,?_⟩
     have:=H3.2.size;simp;omega)
   rw[HP.1]at hpush;obtain⟨e1,e2⟩:=M.arm_play m ⟨n1,kk,n3⟩ (.slice (some ⟨g4,0,none⟩) ((yb m).length+1) c4);rw[hq]at hpush e1 e2;exact Or.inl ⟨_,_,_,HE.out,rfl,hpush.1,e1,e2.trans HP.2,hpush.2⟩
theorem z7y{w:World}{own:Nat->Option T}{pb:Nat}{m:M}{g f:Nat}(cl:Nat){x:Str}{ws:List Str}(h:RkAt w own pb m g f x ws)(hcl:ws.length+1<=cl):
  Calls Tryz.prog 52 #[.pointer (some ⟨pb,0,none⟩),.slice (some ⟨g,f,none⟩) (ws.length+1) cl] w (qI own pb (zi ⟨m.play,m.st⟩ 3 x ws) w):=by
 by_cases h2:m.st=2
 ·exact z7x cl h h2 hcl
 by_cases h5:m.st=5
 ·exact z66 cl h h5 hcl
 have HE:=Qh (show zi ⟨m.play,m.st⟩ 3 x ws=.error 63 from by
  unfold zi;have hs:=h.st;rw[if_pos];left;show nxt m.st 3=6;obtain e|e|e|e:m.st=0\/m.st=1\/m.st=3\/m.st=4:=(by omega);all_goals rw[e];rfl)
 have c14:=za h.at_.blk 14;unfold M.rcells at c14;simp at c14;obtain⟨s,hs⟩:=Qx m.st;rw[hs]at h2 h5 c14;have e2:((s:Int)==5)=false:=Qb (by omega);have e5:((s:Int) != 2)=true:=(by rw[bne_iff_ne];omega);clear h h2 h5 hs;go_in;go_wp2_with fail;go_ret;exact Or.inr ⟨63,HE.out,by decide,rfl,Keep.refl _ _⟩
end Sc
end Go.Proofs.YtkkecpamnnojoaaGreatDoor
