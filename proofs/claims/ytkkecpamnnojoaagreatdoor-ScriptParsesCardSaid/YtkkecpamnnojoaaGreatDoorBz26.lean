/- A part of the proof of ScriptParses: nothing is assumed. By an AI agent. -/
import Derived.Test.YtkkecpamnnojoaaGreatDoorBz25
set_option linter.unusedVariables false
set_option linter.unusedSimpArgs false
set_option maxRecDepth 100000
set_option maxHeartbeats 32000000
namespace Go.Proofs.YtkkecpamnnojoaaGreatDoor
open Go.ChangeShapes Go.WideShapes Go.ChangeAt Go.RowKit
open Bt Dc By
namespace Sc
theorem zex{m:M}{x:Str}{ws:List Str}{s n q:Nat}(hs:m.st=s)(hs5:s<=5)(hn:ws.length=n)(hq:m.es.length=q):zi ⟨m.play,m.st⟩ 7 x ws=if s<2 then .error 63 else if 16<=q\/257<n then .error 9 else if n=0 then .error 64 else match z0o m.play ws with
  | .error e=>.error e
  | .ok p=>.ok ⟨p,5⟩:=by
 unfold zi;rw[show full m.play 7 ws.length=(decide (16<=(m.es.map ME.reopen).length)||decide (257<ws.length))from rfl,show zF 7 x ws.length=decide (1<=ws.length)from rfl,List.length_map,hq,hn,hs,show zH m.play 7 x ws=z0o m.play ws from rfl];by_cases h1:s<2
 ·rw[if_pos h1,if_pos];left;obtain e|e:s=0\/s=1:=(by omega);all_goals rw[e];rfl
 ·have e5:nxt s 7=5:=by
   obtain e|e|e|e:s=2\/s=3\/s=4\/s=5:=(by omega);all_goals rw[e];rfl
  rw[if_neg h1,e5,if_neg (fun h=>by rcases h with h|⟨h,-⟩<;>exact absurd h (by decide))];by_cases h2:16<=q\/257<n
  ·rw[if_pos h2,if_pos (by simpa using h2)]
  ·rw[if_neg h2,if_neg (by simpa using h2)]
   by_cases h3:n=0
   ·rw[if_pos h3,if_pos (decide_eq_false (by omega))]
   ·rw[if_neg h3,if_neg (by rw[decide_eq_true (by omega)];decide)];cases z0o m.play ws<;>rfl
theorem zba{w:World}{own:Nat->Option T}{pb:Nat}{m:M}{g f:Nat}(cl:Nat){x:Str}{ws:List Str}(h:RkAt w own pb m g f x ws)(hcl:ws.length+1<=cl):
    Calls Tryz.prog 54 #[.pointer (some ⟨pb,0,none⟩),.slice (some ⟨g,f,none⟩) (ws.length+1) cl] w (qI own pb (zi ⟨m.play,m.st⟩ 7 x ws) w):=by
  have hs5:=h.st;have c14:=za h.at_.blk 14;have c13:=za h.at_.blk 13;unfold M.rcells at c14 c13;simp at c14 c13;obtain⟨oE,cE,hev⟩:=h.at_.es.len;rw[hev]at c13;obtain⟨n,hn⟩:=Qx ws.length;have hnb:n<=1048576:=(by rw[<-hn];exact h.n);obtain⟨q,hq⟩:=Qx m.es.length;have hqb:q<=16:=(by rw[<-hq];exact h.few.mem.1);rw[hq]at c13 hev;obtain⟨s,hs⟩:=Qx m.st;have hR:=zex (x:=x) hs (by rw[<-hs];exact hs5) hn hq;rw[hs]at c14 hs5;have HH:=Qh (Qa h (Qa hn (Qa hq (Qa hs hev))));have HNS:=Qh yN;rw[hn];rw[hn]at hcl;clear h hn hq hs hev;by_cases h1:s<2
  · have i1:(s:Int)<2:=by omega
    have HE:=Qh (show zi ⟨m.play,m.st⟩ 7 x ws=.error 63 from by rw[hR,if_pos h1]);clear hR h1;go_in;go_wp2_with fail;go_ret;exact Or.inr ⟨63,HE.out,by decide,rfl,Keep.refl _ _⟩
  have i1:¬(s:Int)<2:=(by omega);rw[if_neg h1]at hR;by_cases h16:16<=q
  · obtain rfl:q=16:=by omega
    have HE:=Qh (show zi ⟨m.play,m.st⟩ 7 x ws=.error 9 from by rw[hR,if_pos (Or.inl h16)]);clear hR h1 h16;go_in;go_wp2_with fail;go_ret;exact Or.inr ⟨9,HE.out,by decide,rfl,Keep.refl _ _⟩
  have b16:((q:Int)==16)=false:=Qb (by omega);by_cases h257:257<n
  · obtain⟨n2,hn2⟩:∃n2,n=n2+1:=⟨n-1,by omega⟩
    have hw2:IntKind.i64.wrap ((n:Int)+1-2)=(n2:Int):=(by rw[IntKind.wrap_i64];omega);have i9:(256:Int)<(n2:Int):=(by omega);have HE:=Qh (show zi ⟨m.play,m.st⟩ 7 x ws=.error 9 from by rw[hR,if_pos (Or.inr h257)]);clear hR h1 h16 h257 hn2;go_in;go_wp2_with fail;go_ret;exact Or.inr ⟨9,HE.out,by decide,rfl,Keep.refl _ _⟩
  rw[if_neg (by omega)]at hR;obtain⟨nm,hnm⟩:∃nm:Int,(n:Int)+1-2=nm:=⟨_,rfl⟩;have hw2:IntKind.i64.wrap ((n:Int)+1-2)=nm:=(by rw[IntKind.wrap_i64];omega);have i9:¬(256:Int)<nm:=(by omega);by_cases h0:n=0
  · subst h0
    have hnm':nm= -1:=(by omega);subst hnm';have HE:=Qh (show zi ⟨m.play,m.st⟩ 7 x ws=.error 64 from by rw[hR,if_pos rfl]);clear hR h1 h16 h257 hnm;go_in;go_wp2_with fail;go_ret;exact Or.inr ⟨64,HE.out,by decide,rfl,Keep.refl _ _⟩
  rw[if_neg h0]at hR;have i0:¬(n:Int)+1<2:=(by omega);obtain⟨a,R,rfl⟩:∃a R,ws=a::R:=by
    cases ws with
    |nil=>exact absurd HH.2.1.symm h0
    |cons a R=>exact⟨a,R,rfl⟩
  obtain⟨nr,hnr⟩:=Qx R.length;have hnn:n=nr+1:=(by rw[<-HH.2.1,<-hnr];rfl);have HR:=Qh (show zi ⟨m.play,m.st⟩ 7 x (a::R)=match zh a with
    |none=>.error 66
    |some d=>match zO R with
      | .error e=>.error e
      | .ok ks=>.ok ⟨{m.play with ends:=m.play.ends++[⟨d,ks,[]⟩]},5⟩from by
    rw[hR,show z0o m.play (a::R)=(match zh a with
      |none=>.error 66
      |some d=>match zO R with
        | .error e=>.error e
        | .ok ks=>.ok {m.play with ends:=m.play.ends++[⟨d,ks,[]⟩]})from rfl]
    cases zh a with
    |none=>rfl
    |some d=>cases zO R<;>rfl)
  have x1:w.cell? ⟨g,f+1,none⟩=some (.string (zc a)):=HH.1.cell 1 (by simp) (Keep.refl _ _);have HNA:=Qh (fun W=>HNS.out a W (HH.1.sz 1));have HNR:=Qh (Qa hnr hnn);have hnI:(n:Int)+1=(nr:Int)+2:=(by omega);obtain⟨sa,hsa⟩:=Qx (zc a);rw[hsa]at x1 HNA;have hnrb:nr<=256:=(by omega);clear hR h1 h16 h257 hnm h0 hnr hnn hsa HNS;go_in;go_upto_region 8 with(go_at_call 87;refine(HNA.out _).mono ?_;rintro e w2 ⟨d,ok,rfl,hq1,k2⟩;have H2:=Qh (Qa hq1 k2);clear hq1 k2);clear c14 c13 x1;cases ok with
  |false=>
    have HE:=Qh (show zi ⟨m.play,m.st⟩ 7 x (a::R)=.error 66 from by rw[HR.out,z0j H2.1]);go_wp2_with fail;go_ret;exact Or.inr ⟨66,HE.out,by decide,rfl,H2.2.mono fun _ _ h=>h.elim⟩
  |true=>
    have HR2:=Qh (show zi ⟨m.play,m.st⟩ 7 x (a::R)=(match zO R with
      | .error e=>.error e
      | .ok ks=>.ok ⟨{m.play with ends:=m.play.ends++[⟨d,ks,[]⟩]},5⟩)from by rw[HR.out,xq H2.1])
    go_upto_region 11 with fail;obtain⟨r,hr⟩:=Qx w2.heap.size;obtain⟨W3,hW3⟩:∃W3,w2.alloc (.cells #[.int .i64 d,.slice none 0 0,.slice none 0 0] 82)=W3:=⟨_,rfl⟩;have hb:W3.heap[r]?=some (.cells #[.int .i64 d,.slice none 0 0,.slice none 0 0] 82 (0,0)):=(by rw[<-hW3,<-hr];exact zm _ _);have kk2:Keep (fun _=>False) w W3:=(by rw[<-hW3];exact H2.2.alloc _);have hwr:w.heap.size<=r:=(by rw[<-hr];exact H2.2.size);have hlt2:=lt_of_block hb;rw[hW3,hr];obtain⟨own0,ho⟩:∃own0:Nat->Option T,own0=fun q=>if q=r then some (10,0,0)else own q:=⟨_,rfl⟩;have hor:own r=none:=by
      cases hq:own r with
      |none=>rfl
      |some t=>have:=HH.1.at_.low r (by rw[hq];simp);omega
    have G0:Grown (fun _=>False) w W3 own own0:=⟨kk2.mono fun _ _ h=>h.elim,fun q t hq=>by
        rw[ho];show(if q=r then some (10,0,0)else own q)=some t;rw[if_neg (fun e=>by rw[e,hor]at hq;cases hq)];exact hq,fun q hq=>by
        rw[ho]at hq;by_cases e:q=r
        · rw[e];exact hlt2
        · have hq2:(if q=r then some (10,0,0)else own q)≠none:=hq
          rw[if_neg e]at hq2;exact Nat.lt_of_lt_of_le (HH.1.at_.low q hq2) kk2.size,fun q hq1 hq=>by
        rw[ho]at hq;by_cases e:q=r
        · omega
        · have hq2:(if q=r then some (10,0,0)else own q)≠none:=hq
          rw[if_neg e]at hq2;exact absurd hq1 hq2⟩
    have h0r:own0 r=some (10,0,0):=(by rw[ho];exact if_pos rfl);have HS:=Qh (Qa (HH.1.at_.far G0 fun _ h=>h.elim) (Qa h0r (Qa hb G0.to)));clear hb kk2 ho hor G0 h0r hlt2 hW3 hr;go_wp2_with fail;go_loopg[8,9,10] nr (fun gq s8 s9 s10 wr=>∃k:Nat,gq+k=nr/\s8=.int .i64 ((k:Int)+2)/\Hid (∃(ks:List MK) (kv:Value) (ownk:Nat->Option T),zO (R.take k)=.ok (ks.map (·.k))/\RAt wr ownk pb m/\KsAt wr ownk m.es.length kv ks/\ownk r=some (10,0,0)/\wr.heap[r]?=some (Obj.cells #[.int .i64 d,kv,.slice none 0 0] 82 (0,0))/\To own ownk w wr))
    case atStart=>exact⟨0,by omega,rfl,[],.slice none 0 0,own0,rfl,HS.1,⟨RowT.nil _ _ _ _ _,fun j k hk=>by simp at hk⟩,HS.2.1,HS.2.2.1,HS.2.2.2⟩
    case round=>
      obtain⟨k,hgk,rfl,HK⟩:=hrel;obtain⟨ks,kv,ownk,hks,hpk,hka,hrk,hbk,hto⟩:=HK.out;by_cases hk:k<nr
      · have hkw:k<R.length:=by rw[HNR.1];exact hk
        have cw:wr.cell? ⟨g,f+(k+2),none⟩=some (.string (zc (R.getD k []))):=HH.1.cellTo (k+2) (by simp;omega) hto;have hsz:(R.getD k []).length<=1073741824:=HH.1.sz (k+2);have HKP:=Qh (z9p (R.getD k []) wr hsz);have HLK:=Qh (fun c=>@z3o R k (ks.map (·.k)) c hkw hks)
        have HLM:=Qh (fun kp=>@z2y R k (ks.map (·.k)) kp hkw hks)
        have hgd:R.getD k []=R[k]:=(by rw[List.getD_eq_getElem?_getD,List.getElem?_eq_getElem hkw];rfl);rw[<-hgd]at HLK HLM;have HKL:=Qh (show ks.length=k from by have:=z1i hks;rw[List.length_map,List.length_take]at this;omega);have HB:=Qh (Qa hpk (Qa hka (Qa hrk (Qa hbk hto))));generalize R.getD k []=y at*
        obtain⟨sy,hsy⟩:=Qx (zc y);rw[hsy]at cw HKP;obtain⟨j,hj⟩:=Qx (k+2);have hjI:(k:Int)+2=(j:Int):=(by omega);have hk1:(j:Int)<(nr:Int)+2:=(by omega);have hk0:(0:Int)<=(j:Int):=(by omega);have hjn:(j:Int)<(n:Int)+1:=(by omega);rw[hj]at cw;rw[hjI];have HJ:=Qh (Qa hj hgk);clear HK hks hpk hka hrk hbk hto hsz hgd hkw hsy hj hjI;go_wp2_with fail;refine HKP.mono ?_;clear HKP;rintro e w3 ⟨(⟨kp,dv,hx,rfl,hrow⟩|⟨c,hx,hc,rfl⟩),k3⟩
        · obtain⟨oo,cc,hv⟩:∃oo cc,dv=.slice oo kp.junk.length cc:=by
            rcases hrow.2 with⟨h1,h2⟩|⟨g,cap,cur,h1, -⟩
            · exact⟨none,0,by rw[h1,h2]⟩
            · exact⟨_,cap,h1⟩
          have hdb:∀q,dv.ownBlock=some q->wr.heap.size<=q/\q<w3.heap.size:=fun q hq=>⟨xL hrow hq,xE hrow hq⟩;obtain⟨ok2,ck2,hkv⟩:=HB.2.1.keeps.len;have b3:=k3.same HB.2.2.2.1 id;have c1:=za b3 1;have f1:=zd b3 1;simp at c1;have hrl:r<w3.heap.size:=lt_of_block b3;have hown3:((w3.alloc (.cells #[.int .i64 kp.n,dv] 84)).alloc (.cells #[.int .i64 kp.n,dv] 84)).ownsRow 0 84 2 kv ks.length (ks.flatMap MK.cells):=zf HB.2.1.keeps.row ((k3.alloc _).alloc _) fun _ _=>id;have H3:=Qh (Qa hx (Qa hrow (Qa k3 (Qa hdb hown3))));have HKV:=Qh hkv;obtain⟨i0,hi,hz0,hz1,hz2⟩:=zei;have hkl:ks.length<=1048576:=(by have:=HKL.out;omega);have hKne:∀q,kv.ownBlock=some q->q≠r:=fun q hq e=>(by have h4:=HB.2.1.keeps.tag q hq;rw[e,HB.2.2.1]at h4;cases h4);have HKN:=Qh hKne;rw[hkv]at c1;subst hv;clear hx hrow k3 hdb b3 hown3 hKne hkv;go_wp2_with(at_builtin;refine wpList_append_own_at _ rfl (.tmp 63) (.tmp 65) 78 rfl 0 84 i0 _ 2 32 Tryz.underlying78 hi hz0 hz1 hz2 rfl (by decide) kv ks.length (ks.flatMap MK.cells) (by rw[HKV.out];rfl) H3.2.2.2.2 ⟨w3.heap.size+1,0,none⟩ 1 1 [.int .i64 kp.n,.slice oo kp.junk.length cc] rfl rfl ?a1 (by intro u hu;simp at hu;rcases hu with rfl|rfl<;>rfl) (by unfold maxLen;omega) (by omega) (Nat.zero_le _) ?a2)
          case a1=>
            have h:=zD (w3.alloc (.cells #[.int .i64 kp.n,.slice oo kp.junk.length cc] 84)) [.int .i64 kp.n,.slice oo kp.junk.length cc] 84;rw[World.size_alloc]at h;exact h
          case a2=>
            intro v4 w4 hown hgr _ hblk;obtain⟨g4,c4,rfl⟩:=ownsRow_succ hown;have k4:Keep (fun q=>kv.ownBlock=some q) w3 w4:=(((Keep.refl (fun q=>kv.ownBlock=some q) w3).alloc _).alloc _).trans (zp hgr);have ca4:=(k4.cell (p:=⟨r,1,none⟩) hrl (fun h=>HKN.out _ h rfl)).trans c1;have fa4:=(k4.frozen (p:=⟨r,1,none⟩) hrl (fun h=>HKN.out _ h rfl)).trans f1;have H4:=Qh (Qa hown (Qa hblk k4));clear hown hgr hblk k4 c1 f1;go_wp2_with fail;have hj:=HJ.1;go_roundg(gk-1);all_goals first|omega|skip
            case rel=>
              have hsz3:=H3.2.2.1.size;obtain⟨own',hp1,hp2,hp3,hp4⟩:=KsAt.rpush (i:=0) (o:=1) HB.1 HB.2.1 HB.2.2.1 rfl kp (d:=.slice oo kp.junk.length cc) H4.1 (zf H3.2.1 H4.2.2 fun q hq e=>by
                  have h1:=HB.1.low q (by have h2:=HB.2.1.keeps.tag q e;rw[h2];simp);have:=(H3.2.2.2.1 q hq).1;omega) (fun q hq e=>by
                  have h3:=H3.2.2.2.1 q e;rcases H4.2.1 with h|h
                  · rw[hq]at h
                    have h1:=HB.1.low q (by have h2:=HB.2.1.keeps.tag q h.symm;rw[h2];simp);omega
                  · rw[hq]at h
                    simp at h;omega) ((H3.2.2.1.mono fun _ _ h=>h.elim).trans H4.2.2) (by
                rcases H4.2.1 with h|h
                · exact Or.inl h
                · refine Or.inr ⟨_,h,?_⟩
                  first|(simp;omega)|omega)
              refine⟨k+1,by omega,by congr 1;omega,ks++[⟨kp,.slice oo kp.junk.length cc⟩],_,own',?_,hp1,hp2,hp3,?_,HB.2.2.2.2.trans hp4⟩
              · rw[HLM.out kp H3.1]
                simp
              · have hb4:=H4.2.2.same (H3.2.2.1.same HB.2.2.2.1 id) (fun h=>HKN.out _ h rfl)
                exact zg hb4 1 _
        · have H3:=Qh (Qa hx (Qa hc k3))
          have HRX:=Qh (show zi ⟨m.play,m.st⟩ 7 x (a::R)=.error c from by rw[HR2.out,HLK.out c hx]);have hcb:(c != 0)=true:=(by rw[bne_iff_ne];exact hc);clear hx hc k3;go_wp2_with fail;go_ret;refine Or.inr ⟨c,HRX.out,H3.2.1,rfl,?_⟩;exact HB.2.2.2.2.keep.own ((H3.2.2.mono fun _ _ h=>h.elim).trans ((Keep.refl (fun q=>q=w3.heap.size) w3).alloc _)) fun i hi=>Or.inr (by
            have:=HB.2.2.2.2.keep.size;have:=H3.2.2.size;omega)
      · obtain rfl:k=nr:=by omega
        have hkI:¬(k:Int)+2<(n:Int)+1:=(by omega);rw[List.take_of_length_le (by rw[HNR.1];exact Nat.le_refl _)]at hks;have HRX:=Qh (show zi ⟨m.play,m.st⟩ 7 x (a::R)=.ok ⟨{m.play with ends:=m.play.ends++[⟨d,ks.map (·.k),[]⟩]},5⟩from by rw[HR2.out,hks])
        have HB:=Qh (Qa hpk (Qa hka (Qa hrk (Qa hbk hto))));clear HK hks hpk hka hrk hbk hto;have c0:=za HB.2.2.2.1 0;have c1:=za HB.2.2.2.1 1;have c2:=za HB.2.2.2.1 2;simp at c0 c1 c2;have cX:=za HB.1.blk 13;have fX:=zd HB.1.blk 13;have cS:=za HB.1.blk 14;have fS:=zd HB.1.blk 14;unfold M.rcells at cX cS;simp at cX cS;rw[HH.2.2.2.2]at cX;have hpl:pb<wr.heap.size:=lt_of_block HB.1.blk;obtain⟨i0,hi,hz0,hz1,hz2⟩:=zbV;obtain⟨ok2,ck2,hkv⟩:=HB.2.1.keeps.len;have hrow:((wr.drew).alloc (.cells #[.int .i64 d,kv,.slice none 0 0] 82)).ownsRow 0 82 3 (.slice oE q cE) q (m.es.flatMap ME.cells):=(by have h:=HB.1.es.row;rw[HH.2.2.2.2,HH.2.2.1]at h;exact zf h ((Keep.refl (fun _=>False) wr).drew.alloc _) fun _ _=>id);have HROW:=Qh hrow;have HGN:=Qh (show ∀q,m.ev.ownBlock=some q->q≠pb from fun q hq e=>by
          have h4:=HB.1.es.tag q hq;rw[e,HB.1.tag]at h4;cases h4)
        have HKV:=Qh hkv;rw[hkv]at c1 HROW;clear hrow hkv;go_wp2_with fail;go_region_law(first
          |(refine zy rfl (.tmp 74) (.tmp 76) 38 rfl 0 82 i0 _ 3 56 Tryz.underlying38 hi hz0 hz1 hz2 rfl (by decide) (.slice oE q cE) q (m.es.flatMap ME.cells) rfl HROW.out ⟨wr.heap.size,0,none⟩ 1 1 [.int .i64 d,.slice ok2 ks.length ck2,.slice none 0 0] rfl rfl (zD _ _ _) (by intro u hu;simp at hu;rcases hu with rfl|rfl|rfl<;>rfl) (by unfold maxLen;omega) (by omega) (Nat.zero_le _) ?_;intro v4 w4 hown hgr hblk;obtain⟨g4,c4,rfl⟩:=ownsRow_succ hown;rw[<-HH.2.2.2.2]at hgr hblk;have k4:Keep (fun q=>m.ev.ownBlock=some q) wr w4:=((Keep.refl (fun q=>m.ev.ownBlock=some q) wr).drew.alloc _).trans (zp hgr);have cX4:=(k4.cell (p:=⟨pb,13,none⟩) hpl (fun h=>HGN.out _ h rfl)).trans cX;have fX4:=(k4.frozen (p:=⟨pb,13,none⟩) hpl (fun h=>HGN.out _ h rfl)).trans fX;have cS4:=(k4.cell (p:=⟨pb,14,none⟩) hpl (fun h=>HGN.out _ h rfl)).trans cS;have fS4:=(k4.frozen (p:=⟨pb,14,none⟩) hpl (fun h=>HGN.out _ h rfl)).trans fS;have H4:=Qh (Qa hown (Qa hblk k4));clear hown hgr hblk k4))
        (all_goals go_wp2_with fail);all_goals go_ret
        all_goals
          obtain⟨own',hp1,hp2⟩:=HB.1.end_push d HB.2.1 (v':=.slice (some ⟨g4,0,none⟩) (q+1) c4) (by rw[HKV.out,HH.2.2.1];exact H4.1) H4.2.2 (by
            rcases H4.2.1 with h|h
            · exact Or.inl h
            · exact Or.inr ⟨_,h,by simp⟩)
          obtain⟨e1,e2⟩:=M.newEnd_play m d kv ks (.slice (some ⟨g4,0,none⟩) (q+1) c4);have hsc:=hp1.scalars (m':={m.newEnd d kv ks (.slice (some ⟨g4,0,none⟩) (q+1) c4)with st:=5}) ((Keep.refl (fun b=>b=pb) _).setCell (p:=⟨pb,14,none⟩) (Or.inl rfl) (.int .i64 5)) (by
            rw[zg hp1.blk 14 (.int .i64 5)];rfl) rfl rfl rfl rfl rfl rfl rfl rfl
          exact Or.inl ⟨_,_,_,HRX.out,rfl,hsc.1,e1,rfl,(HB.2.2.2.2.trans hp2).trans hsc.2⟩
theorem Ev.rup{B:Nat}{w:World}(h:Ev B w):Ev w.heap.size w:=⟨z7Y h.env,z4c h.tb,fun w' k=>h.errs w' (k.mono h.le),fun w' k=>h.mx w' (k.mono h.le)⟩
theorem z8l(s:Str)(B:Nat)(w:World)(hE:Ev B w)(hs:s.length<=1073741824):Calls Tryz.prog 86 #[.string (zc s)] w fun e w'=>(∃y k,e=.returned (.tuple #[.float .f64 y,.int .i64 k])/\zJ s=(y,k)/\(k=0\/k=66))/\Keep (fun _=>False) w w':=by have h:=hE.rup;refine(z7p (zc s) w (by rw[zw];exact hs) h.env h.errs h.tb).mono ?_;rintro e w' ⟨⟨y,k,rfl,hr⟩,hb⟩;exact⟨⟨y,k,rfl,z1F hr,z57 hr⟩,Keep.of_below hb⟩
theorem z3N.code{ws:List Str}{ads:List (Nat×Nat)}{w w':World}{e:Ending}(h:z3N ws ads w e w'):
  ∃c:Int,e=.returned (.int .i64 c)/\((∃ns,zI ws=some ns/\c=0/\∀(g:Nat) (cs:Array Value) (t:TypeId),w.heap[g]?=some (Obj.cells cs t (0,0))->w'.heap[g]?=some (Obj.cells (xf g cs ads ns) t (0,0)))\/(zI ws=none/\c=66))/\Keep (fun g=>∃a∈ads,a.1=g) w w':=by
 rcases h with⟨(⟨ns,h1,h2,h3⟩|⟨h1,h2⟩),h4⟩
 ·exact⟨0,h2,Or.inl ⟨ns,h1,rfl,h3⟩,h4⟩
 ·exact⟨66,h2,Or.inr ⟨h1,rfl⟩,h4⟩
theorem z3f{s0 s1 s2 s3 s4 s5 s6:Str}{ns:List Int}(h:zI [s0,s1,s2,s3,s4,s5,s6]=some ns):∃a b c d e f g,ns=[a,b,c,d,e,f,g]:=by
 have:=qP h
 match ns,this with
 |[a,b,c,d,e,f,g],_=>exact⟨a,b,c,d,e,f,g,rfl⟩
theorem zeA{m:M}{x:Str}{ws:List Str}{n:Nat}(hs:m.st=0)(hn:ws.length=n):zi ⟨m.play,m.st⟩ 1 x ws=if n≠9 then .error 64 else match qq m.play ws with
  | .error e=>.error e
  | .ok p=>.ok ⟨p,1⟩:=by
 unfold zi;rw[show full m.play 1 ws.length=false from rfl,show zF 1 x ws.length=decide (ws.length=9)from rfl,hn,hs,show zH m.play 1 x ws=qq m.play ws from rfl];rw[if_neg (fun h=>by
  rcases h with h|⟨h,-⟩
  ·exact absurd (show nxt 0 1=6 from h) (by decide)
  ·exact absurd h (by decide)),if_neg (by decide)]
 by_cases h:n≠9
 ·rw[if_pos h,if_pos (decide_eq_false h)]
 ·rw[if_neg h,if_neg (by rw[decide_eq_true (by omega)];decide)];cases qq m.play ws<;>rfl
theorem z9k{w:World}{own:Nat->Option T}{pb:Nat}{m:M}{g f:Nat}(cl B:Nat){x:Str}{ws:List Str}(h:RkAt w own pb m g f x ws)(hst:m.st=0)(hcl:ws.length+1<=cl)(hE:Ev B w)(hB:∀q,own q≠none->B<=q):
    Calls Tryz.prog 50 #[.pointer (some ⟨pb,0,none⟩),.slice (some ⟨g,f,none⟩) (ws.length+1) cl] w (qI own pb (zi ⟨m.play,m.st⟩ 1 x ws) w):=by
  obtain⟨n,hn⟩:=Qx ws.length;have hR:=zeA (x:=x) hst hn;have hnb:n<=1048576:=(by rw[<-hn];exact h.n);by_cases h9:n≠9
  · have b9:((n:Int)+1 != 10)=true:=by rw[bne_iff_ne];omega
    have HE:=Qh (show zi ⟨m.play,m.st⟩ 1 x ws=.error 64 from by rw[hR,if_pos h9]);rw[hn];clear hR h9 h hst hE hB hn;go_in;go_wp2_with fail;go_ret;exact Or.inr ⟨64,HE.out,by decide,rfl,Keep.refl _ _⟩
  rw[if_neg h9]at hR;obtain rfl:n=9:=(by omega);obtain⟨s0,s1,s2,s3,s4,s5,s6,s7,s8,rfl⟩:∃s0 s1 s2 s3 s4 s5 s6 s7 s8,ws=[s0,s1,s2,s3,s4,s5,s6,s7,s8]:=by
    match ws,hn with
    |[s0,s1,s2,s3,s4,s5,s6,s7,s8],_=>exact⟨s0,s1,s2,s3,s4,s5,s6,s7,s8,rfl⟩
  have hBp:B<=pb:=hB pb (by rw[h.at_.tag];simp);have hgp:pb≠g:=(by intro e;have:=h.free;rw[<-e,h.at_.tag]at this;cases this);have hpl:=lt_of_block h.at_.blk;have HH:=Qh (Qa h (Qa hst (Qa hE (Qa hBp (Qa hgp hpl)))));have HPF:=Qh (show zi ⟨m.play,m.st⟩ 1 x [s0,s1,s2,s3,s4,s5,s6,s7,s8]=match zI [s0,s1,s2,s3,s4,s5,s6]with
    |some [a,b,c,d,e,f,g]=>
      if(zJ s7).2≠0 then .error (zJ s7).2
      else if(zJ s8).2≠0 then .error (zJ s8).2
      else .ok ⟨{m.play with disk:=a,segMax:=b,base:=c,qcap:=d,qbytes:=e,pmost:=f,pbytes:=g,linger:=(zJ s7).1,alpha:=(zJ s8).1},1⟩
    |_=>.error 66 from by
    rw[hR];unfold qq;rw[show[s0,s1,s2,s3,s4,s5,s6,s7,s8].take 7=[s0,s1,s2,s3,s4,s5,s6]from rfl,show[s0,s1,s2,s3,s4,s5,s6,s7,s8].getD 7 []=s7 from rfl,show[s0,s1,s2,s3,s4,s5,s6,s7,s8].getD 8 []=s8 from rfl];cases hq:zI [s0,s1,s2,s3,s4,s5,s6]with
    |none=>rfl
    |some ns=>
      obtain⟨a,b,c,d,e,f,g,rfl⟩:=z3f hq;simp only[];by_cases h7:(zJ s7).2≠0
      · rw[if_pos h7,if_pos h7]
      · rw[if_neg h7,if_neg h7]
        by_cases h8:(zJ s8).2≠0
        · rw[if_pos h8,if_pos h8]
        · rw[if_neg h8,if_neg h8])
  obtain⟨bb,hbb⟩:=Qx w.heap.size;obtain⟨W1,hW1⟩:=Qx (w.alloc (.cells #[.int .i64 0] 3));have b1:W1.heap[bb]?=some (.cells #[.int .i64 0] 3 (0,0)):=(by rw[<-hW1,<-hbb];exact zm _ _);have k1:Keep (fun _=>False) w W1:=(by rw[<-hW1];exact(Keep.refl _ w).alloc _);have hz1:W1.heap.size=bb+1:=(by rw[<-hW1,<-hbb];simp);have hgl:g<w.heap.size:=(by have h1:=h.cell 0 (by simp) (Keep.refl _ w);exact By.zG h1);have hIG:∀W0:World,Keep (fun _=>False) W1 W0->W0.heap.size=bb+1->Calls Tryz.prog 51 #[.slice (some ⟨g,f+1,none⟩) 7 (cl-1),.slice (some ⟨bb+1,0,none⟩) 7 7] (W0.alloc (.cells #[.pointer (some ⟨pb,0,none⟩),.pointer (some ⟨pb,1,none⟩),.pointer (some ⟨bb,0,none⟩),.pointer (some ⟨pb,3,none⟩),.pointer (some ⟨pb,4,none⟩),.pointer (some ⟨pb,5,none⟩),.pointer (some ⟨pb,6,none⟩)] 108)) (fun e w2=>∃W,z3N [s0,s1,s2,s3,s4,s5,s6] [(pb,0),(pb,1),(bb,0),(pb,3),(pb,4),(pb,5),(pb,6)] W e w2/\Keep (fun _=>False) W1 W):=by
   intro W0 kW0 hW0;obtain⟨W,hW⟩:∃W,W0.alloc (.cells #[.pointer (some ⟨pb,0,none⟩),.pointer (some ⟨pb,1,none⟩),.pointer (some ⟨bb,0,none⟩),.pointer (some ⟨pb,3,none⟩),.pointer (some ⟨pb,4,none⟩),.pointer (some ⟨pb,5,none⟩),.pointer (some ⟨pb,6,none⟩)] 108)=W:=⟨_,rfl⟩;have bt:W.heap[bb+1]?=some (.cells #[.pointer (some ⟨pb,0,none⟩),.pointer (some ⟨pb,1,none⟩),.pointer (some ⟨bb,0,none⟩),.pointer (some ⟨pb,3,none⟩),.pointer (some ⟨pb,4,none⟩),.pointer (some ⟨pb,5,none⟩),.pointer (some ⟨pb,6,none⟩)] 108 (0,0)):=(by rw[<-hW,<-hW0];exact zm W0 _);have kW:Keep (fun _=>False) W1 W:=(by rw[<-hW];exact kW0.alloc _);have kw:=k1.trans kW;rw[hW];have hI:=z1A [s0,s1,s2,s3,s4,s5,s6] (some ⟨g,f+1,none⟩) (cl-1) 7 (bb+1) [(pb,0),(pb,1),(bb,0),(pb,3),(pb,4),(pb,5),(pb,6)] W (fun i hi=>by
       have hi7:i<7:=hi;have hc:=h.cell (i+1) (by simp;omega) kw;refine⟨g,f+1,rfl,?_,Nat.lt_of_lt_of_le hgl kw.size⟩;rw[show f+1+i=f+(i+1) by omega,hc];obtain rfl|rfl|rfl|rfl|rfl|rfl|rfl:i=0\/i=1\/i=2\/i=3\/i=4\/i=5\/i=6:=(by omega);all_goals rfl) rfl (by simp) (fun i=>by
       by_cases hi7:i<7
       · have hc:=h.sz (i+1)
         obtain rfl|rfl|rfl|rfl|rfl|rfl|rfl:i=0\/i=1\/i=2\/i=3\/i=4\/i=5\/i=6:=(by omega);all_goals exact hc
       · rw[List.getD_eq_getElem?_getD,List.getElem?_eq_none (by simp;omega)];simp) bt (fun a ha=>by
       have hpA:∀o,o<15->(∃cs t,W.heap[pb]?=some (.cells cs t (0,0))/\o<cs.size)/\pb≠bb+1:=fun o ho=>⟨⟨_,_,kw.same h.at_.blk id,ho⟩,by omega⟩;have hbA:(∃cs t,W.heap[bb]?=some (.cells cs t (0,0))/\0<cs.size)/\bb≠bb+1:=⟨⟨_,_,kW.same b1 id,Nat.zero_lt_one⟩,by omega⟩;simp only[List.mem_cons,List.not_mem_nil,or_false]at ha;rcases ha with rfl|rfl|rfl|rfl|rfl|rfl|rfl
       · exact hpA 0 (by decide)
       · exact hpA 1 (by decide)
       · exact hbA
       · exact hpA 3 (by decide)
       · exact hpA 4 (by decide)
       · exact hpA 5 (by decide)
       · exact hpA 6 (by decide)) (fun g' f' he a ha=>by
       cases he;have hbg:bb≠g:=(by omega);simp only[List.mem_cons,List.not_mem_nil,or_false]at ha;rcases ha with rfl|rfl|rfl|rfl|rfl|rfl|rfl
       · exact hgp
       · exact hgp
       · exact hbg
       · exact hgp
       · exact hgp
       · exact hgp
       · exact hgp)
   exact(show Calls Tryz.prog 51 #[.slice (some ⟨g,f+1,none⟩) 7 (cl-1),.slice (some ⟨bb+1,0,none⟩) 7 7] W (z3N [s0,s1,s2,s3,s4,s5,s6] [(pb,0),(pb,1),(bb,0),(pb,3),(pb,4),(pb,5),(pb,6)] W)from hI).mono fun e w2 hq=>⟨W,hq,kW⟩
  have HI:=Qh hIG;have HW1:=Qh hW1;have HW:=Qh (Qa k1 (Qa hbb (Qa b1 (k1.same h.at_.blk id))));have HNow:=Qh ((Keep.refl (fun _=>False) W1).drewN 1);have HZ1:=Qh hz1;have HBB:=Qh hB;have HEV:=Qh (fun(W:World) (k:To own own w W)=>hE.on (k.keep.below hE.le fun q hq=>hB q hq));have hc10:(10:Nat)<=cl:=hcl;clear hR h9 h hst hE hB hn hBp hgp hIG b1 k1 hcl hW1;go_in;have hc8:(8:Int)<=(cl:Int):=(by omega);have hc1:¬cl=1:=(by omega);go_upto_region 4 with fail;rw[HW1.out];go_wp2_with fail;go_region_held3(fun _=>True) (first|exact True.intro) (first|(go_at_call 51;refine(HI.out _ HNow.out HZ1.out).mono ?_;rintro e w2 ⟨W,hq,kW⟩;obtain⟨code,rfl,hq2,k2⟩:=hq.code;have HKW:=Qh kW;clear hq kW));clear HI;rcases hq2 with⟨ns,hn,rfl,hb⟩|⟨hn,rfl⟩
  · obtain⟨a,b,c,d,e,f',g',rfl⟩:=z3f hn
    have hbw:=HW.2.1;have hne:bb≠pb:=(by have:=HH.2.2.2.2.2;omega);have k12:Keep (fun q=>q=pb) w w2:=((HW.1.trans HKW.out).mono fun _ _ h=>h.elim).own k2 fun i hi=>by
      obtain⟨a,ha,rfl⟩:=hi;simp only[List.mem_cons,List.not_mem_nil,or_false]at ha;rcases ha with rfl|rfl|rfl|rfl|rfl|rfl|rfl
      all_goals first
        |exact Or.inl rfl
        |exact Or.inr (by show w.heap.size<=bb;omega)
    have hbP:=hb pb _ _ (HKW.same HW.2.2.2 id);have hbB:=hb bb _ _ (HKW.same HW.2.2.1 id);have eP:xf pb m.rcells [(pb,0),(pb,1),(bb,0),(pb,3),(pb,4),(pb,5),(pb,6)] [a,b,c,d,e,f',g']=({m with disk:=a,segMax:=b,qcap:=d,qbytes:=e,pmost:=f',pbytes:=g'}:M).rcells:=(by simp only[xf,if_pos,if_neg hne];rfl);have eB:xf bb #[.int .i64 0] [(pb,0),(pb,1),(bb,0),(pb,3),(pb,4),(pb,5),(pb,6)] [a,b,c,d,e,f',g']=#[.int .i64 c]:=(by simp only[xf,if_pos,if_neg hne.symm];rfl);rw[eP]at hbP;rw[eB]at hbB;have hsc:=HH.1.at_.scalars k12 hbP rfl rfl rfl rfl rfl rfl rfl rfl;have c0:=za hbB 0;have c2:=za hsc.1.blk 2;have f2:=zd hsc.1.blk 2;unfold M.rcells at c2;simp at c0 c2;have HS:=Qh (Qa hn hsc);clear hn hb k2 hbP hbB eP eB hsc k12 hbw hne HKW HZ1 HNow;go_wp2_with fail;obtain⟨w3,hw3⟩:∃w3,w2.setCell ⟨pb,2,none⟩ (.int .i64 c)=w3:=⟨_,rfl⟩;have hs3:=HS.2.1.scalars (m':={m with disk:=a,segMax:=b,base:=c,qcap:=d,qbytes:=e,pmost:=f',pbytes:=g'}) ((Keep.refl (fun q=>q=pb) w2).setCell (p:=⟨pb,2,none⟩) (Or.inl rfl) (.int .i64 c)) (by
      rw[zg HS.2.1.blk 2 (.int .i64 c)];rfl) rfl rfl rfl rfl rfl rfl rfl rfl
    rw[hw3]at hs3⊢
    obtain⟨m2,hm2⟩:∃m2,({m with disk:=a,segMax:=b,base:=c,qcap:=d,qbytes:=e,pmost:=f',pbytes:=g'}:M)=m2:=⟨_,rfl⟩;rw[hm2]at hs3;have HS3:=Qh (Qa hs3.1 (HS.2.2.trans hs3.2));have HM2:=Qh hm2
    have HR2:=Qh (show zi ⟨m.play,m.st⟩ 1 x [s0,s1,s2,s3,s4,s5,s6,s7,s8]=(if(zJ s7).2≠0 then .error (zJ s7).2
      else if(zJ s8).2≠0 then .error (zJ s8).2
      else .ok ⟨{m.play with disk:=a,segMax:=b,base:=c,qcap:=d,qbytes:=e,pmost:=f',pbytes:=g',linger:=(zJ s7).1,alpha:=(zJ s8).1},1⟩)from by rw[HPF.out,HS.1])
    clear hs3 hm2 hw3 c0 c2 f2;go_loopg[8,9,10] 2 (fun gq s8' s9' s10' wr=>∃k:Nat,gq+k=2/\s8'=.int .i64 ((k:Int)+8)/\Hid (∃m',RAt wr own pb m'/\To own own w wr/\(k=0->m'=m2)/\(k=1->(zJ s7).2=0/\m'={m2 with linger:=(zJ s7).1})/\(k=2->(zJ s7).2=0/\(zJ s8).2=0/\m'={m2 with linger:=(zJ s7).1,alpha:=(zJ s8).1})))
    case atStart=>exact⟨0,by omega,rfl,m2,HS3.1,HS3.2,fun _=>rfl,fun h=>by omega,fun h=>by omega⟩
    case round=>
      obtain⟨k,hgk,rfl,HK⟩:=hrel;obtain⟨m',hat,hto,h0,h1,h2⟩:=HK;rcases(show k=0\/k=1\/k=2 by omega)with rfl|rfl|rfl
      · obtain rfl:=h0 rfl
        have cw:wr.cell? ⟨g,f+8,none⟩=some (.string (zc s7)):=HH.1.cellTo 8 (by simp) hto;have HRD:=Qh (z8l s7 B wr (HEV.out wr hto) (HH.1.sz 8));have HB:=Qh (Qa hat hto);obtain⟨sy,hsy⟩:=Qx (zc s7);rw[hsy]at cw HRD;clear hat hto h0 h1 h2 hsy;go_upto_region 13 with(go_at_call 86;refine HRD.mono ?_;rintro e4 w4 ⟨⟨y,cd,rfl,hrd,hcd⟩,k4⟩;have H4:=Qh (Qa hrd k4);clear hrd k4);rcases hcd with rfl|rfl
        · have hat4:=HB.1.kept H4.2
          (have c7:=za hat4.blk 7;have f7:=zd hat4.blk 7;unfold M.rcells at c7;simp at c7;have HA4:=Qh hat4;clear hat4;go_wp2_with fail;go_roundg(gk-1);all_goals first|omega|skip);have hsc:=HA4.scalars (m':={m' with linger:=y}) ((Keep.refl (fun q=>q=pb) w4).setCell (p:=⟨pb,7,none⟩) (Or.inl rfl) (.float .f64 y)) (by
            rw[zg HA4.blk 7 (.float .f64 y)];rfl) rfl rfl rfl rfl rfl rfl rfl rfl
          exact⟨1,by omega,rfl,_,hsc.1,(HB.2.trans (To.kept H4.2)).trans hsc.2,fun h=>absurd h (by decide),fun _=>⟨by rw[H4.1],by rw[H4.1]⟩,fun h=>absurd h (by decide)⟩
        · have HE:=Qh (show zi ⟨m.play,m.st⟩ 1 x [s0,s1,s2,s3,s4,s5,s6,s7,s8]=.error 66 from by rw[HR2.out,H4.1,if_pos (show(66:Int)≠0 by decide)])
          go_wp2_with fail;go_ret;exact Or.inr ⟨66,HE.out,by decide,rfl,HB.2.keep.trans (H4.2.mono fun _ _ h=>h.elim)⟩
      · obtain⟨z7,hm'⟩:=h1 rfl
        have cw:wr.cell? ⟨g,f+9,none⟩=some (.string (zc s8)):=HH.1.cellTo 9 (by simp) hto;have HRD:=Qh (z8l s8 B wr (HEV.out wr hto) (HH.1.sz 9));have HB:=Qh (Qa hat (Qa hto (Qa z7 hm')));obtain⟨sy,hsy⟩:=Qx (zc s8);rw[hsy]at cw HRD;clear hat hto h0 h1 h2 hsy z7 hm';go_upto_region 13 with(go_at_call 86;refine HRD.mono ?_;rintro e4 w4 ⟨⟨y,cd,rfl,hrd,hcd⟩,k4⟩;have H4:=Qh (Qa hrd k4);clear hrd k4);rcases hcd with rfl|rfl
        · have hat4:=HB.1.kept H4.2
          (have c8:=za hat4.blk 8;have f8:=zd hat4.blk 8;unfold M.rcells at c8;simp at c8;have HA4:=Qh hat4;clear hat4;go_wp2_with fail;go_roundg(gk-1);all_goals first|omega|skip);have hsc:=HA4.scalars (m':={m' with alpha:=y}) ((Keep.refl (fun q=>q=pb) w4).setCell (p:=⟨pb,8,none⟩) (Or.inl rfl) (.float .f64 y)) (by
            rw[zg HA4.blk 8 (.float .f64 y)];rfl) rfl rfl rfl rfl rfl rfl rfl rfl
          exact⟨2,by omega,rfl,_,hsc.1,(HB.2.1.trans (To.kept H4.2)).trans hsc.2,fun h=>absurd h (by decide),fun h=>absurd h (by decide),fun _=>⟨HB.2.2.1,by rw[H4.1],by rw[H4.1,HB.2.2.2]⟩⟩
        · have HE:=Qh (show zi ⟨m.play,m.st⟩ 1 x [s0,s1,s2,s3,s4,s5,s6,s7,s8]=.error 66 from by rw[HR2.out,if_neg (by rw[HB.2.2.1];decide),H4.1,if_pos (show(66:Int)≠0 by decide)])
          go_wp2_with fail;go_ret;exact Or.inr ⟨66,HE.out,by decide,rfl,HB.2.1.keep.trans (H4.2.mono fun _ _ h=>h.elim)⟩
      · obtain⟨z7,z8,hm'⟩:=h2 rfl
        have HE:=Qh (show zi ⟨m.play,m.st⟩ 1 x [s0,s1,s2,s3,s4,s5,s6,s7,s8]=.ok ⟨{m.play with disk:=a,segMax:=b,base:=c,qcap:=d,qbytes:=e,pmost:=f',pbytes:=g',linger:=(zJ s7).1,alpha:=(zJ s8).1},1⟩from by rw[HR2.out,if_neg (by rw[z7];decide),if_neg (by rw[z8];decide)]);have c14:=za hat.blk 14;have f14:=zd hat.blk 14;unfold M.rcells at c14;simp at c14;have HB:=Qh (Qa hat (Qa hto hm'));clear hat hto h0 h1 h2 z7 z8 hm';go_wp2_with fail;go_ret;have hsc:=HB.1.scalars (m':={m' with st:=1}) ((Keep.refl (fun q=>q=pb) wr).setCell (p:=⟨pb,14,none⟩) (Or.inl rfl) (.int .i64 1)) (by
          rw[zg HB.1.blk 14 (.int .i64 1)];rfl) rfl rfl rfl rfl rfl rfl rfl rfl
        refine Or.inl ⟨_,_,_,HE.out,rfl,hsc.1,?_,rfl,HB.2.1.trans hsc.2⟩;rw[HB.2.2,<-HM2.out];rfl
  · have HE:=Qh (show zi ⟨m.play,m.st⟩ 1 x [s0,s1,s2,s3,s4,s5,s6,s7,s8]=.error 66 from by rw[HPF.out,hn])
    have HK2:=Qh (show Keep (fun q=>own q≠none) w w2 from((HW.1.trans HKW.out).mono fun _ _ h=>h.elim).own k2 fun i hi=>by
      obtain⟨a,ha,rfl⟩:=hi;have h0:=HH.1.at_.tag;have hbw:=HW.2.1;simp only[List.mem_cons,List.not_mem_nil,or_false]at ha;rcases ha with rfl|rfl|rfl|rfl|rfl|rfl|rfl
      all_goals first
        |exact Or.inl (by show own pb≠none;rw[h0];simp)
        |exact Or.inr (by show w.heap.size<=bb;omega))
    clear hn k2;go_wp2_with fail;go_ret;exact Or.inr ⟨66,HE.out,by decide,rfl,HK2.out⟩
theorem RkAt.kept{w w':World}{own:Nat->Option T}{pb:Nat}{m:M}{g f:Nat}{x:Str}{ws:List Str}(h:RkAt w own pb m g f x ws)(k:Keep (fun _=>False) w w'):RkAt w' own pb m g f x ws:={h with at_:=h.at_.kept k,wa:=h.wa.kept k}
theorem qI.from{own:Nat->Option T}{pb:Nat}{r:Except Int PS}{w w1 w':World}{e:Ending}(h:qI own pb r w1 e w')(k:Keep (fun _=>False) w w1):qI own pb r w e w':=by
 rcases h with⟨σ,own',m',h1,h2,h3,h4,h5,h6⟩|⟨c,h1,h2,h3,h4⟩
 ·exact Or.inl ⟨σ,own',m',h1,h2,h3,h4,h5,(To.kept k).trans h6⟩
 ·exact Or.inr ⟨c,h1,h2,h3,(k.mono fun _ _ h=>h.elim).trans h4⟩
theorem qI.ret{own:Nat->Option T}{pb:Nat}{r:Except Int PS}{w w':World}{e:Ending}(h:qI own pb r w e w'):∃c:Int,e=.returned (.int .i64 c)/\qI own pb r w (.returned (.int .i64 c)) w':=by
 rcases h with⟨σ,own',m',h1,rfl,h3⟩|⟨c,h1,h2,rfl,h4⟩
 ·exact⟨0,rfl,Or.inl ⟨σ,own',m',h1,rfl,h3⟩⟩
 ·exact⟨c,rfl,Or.inr ⟨c,h1,h2,rfl,h4⟩⟩
theorem yw{p:Play}{st s:Nat}{x:Str}{ws:List Str}(k:Int)(hs:st=s)(h:nxt s k=6):zi ⟨p,st⟩ k x ws=.error 63:=by unfold zi;rw[if_pos];left;show nxt st k=6;rw[hs];exact h
theorem z7u{w:World}{own:Nat->Option T}{pb:Nat}{m:M}{g f:Nat}(cl:Nat){x:Str}{ws:List Str}(h:RkAt w own pb m g f x ws)(hcl:ws.length+1<=cl)(hx:x≠[112,108,97,121]/\x≠[109,111,115,116]/\x≠[102,97,117,108,116]/\x≠[116,97,115,107]/\x≠[112,105,99,107,115]/\x≠[101,110,100])(hk0:zb x=0):
  Calls Tryz.prog 21 #[.pointer (some ⟨pb,0,none⟩),.slice (some ⟨g,f,none⟩) (ws.length+1) cl] w (qI own pb (.error 65) w):=by
 have hs5:=h.st;have c14:=za h.at_.blk 14;have f14:=zd h.at_.blk 14;unfold M.rcells at c14;simp at c14;obtain⟨s,hs⟩:=Qx m.st;rw[hs]at c14 hs5;have HPL:=Qh (lt_of_block h.at_.blk);have x0:w.cell? ⟨g,f,none⟩=some (.string (zc x)):=h.cell 0 (by omega) (Keep.refl _ w);have HCK:=Qh (show Calls Tryz.prog 49 #[.string (zc x)] w fun e w'=>e=.returned (.int .i64 0)/\Keep (fun _=>False) w w' from by
  have h1:=qd x w;rw[hk0]at h1;exact h1)
 obtain⟨n,hn⟩:=Qx ws.length;have hnp:(0:Int)<(n:Int)+1:=(by omega);rw[hn];rw[hn]at hcl;have b1:((zc x).toList==[112,108,97,121])=false:=yr (by rw[ze];exact hx.1);have b2:((zc x).toList==[109,111,115,116])=false:=yr (by rw[ze];exact hx.2.1);have b3:((zc x).toList==[102,97,117,108,116])=false:=yr (by rw[ze];exact hx.2.2.1);have b4:((zc x).toList==[116,97,115,107])=false:=yr (by rw[ze];exact hx.2.2.2.1);have b6:((zc x).toList==[112,105,99,107,115])=false:=yr (by rw[ze];exact hx.2.2.2.2.1);have b7:((zc x).toList==[101,110,100])=false:=yr (by rw[ze];exact hx.2.2.2.2.2);generalize zc x=X at*
 clear h hs hn hx;go_in;go_wp2_with(go_at_call 49;refine HCK.mono ?_;rintro e w1 ⟨rfl,k1⟩;have x14:=(k1.cell (p:=⟨pb,14,none⟩) HPL.out id).trans c14;have K1:=Qh k1;clear k1);go_ret;exact Or.inr ⟨65,rfl,by decide,rfl,K1.out.mono fun _ _ h=>h.elim⟩
theorem z65{w:World}{own:Nat->Option T}{pb:Nat}{m:M}{g f:Nat}(cl:Nat){ws:List Str}(h:RkAt w own pb m g f [102,97,117,108,116] ws)(hcl:ws.length+1<=cl):
  Calls Tryz.prog 21 #[.pointer (some ⟨pb,0,none⟩),.slice (some ⟨g,f,none⟩) (ws.length+1) cl] w (qI own pb (zi ⟨m.play,m.st⟩ 3 [102,97,117,108,116] ws) w):=by
 have hs5:=h.st;have c14:=za h.at_.blk 14;have f14:=zd h.at_.blk 14;unfold M.rcells at c14;simp at c14;obtain⟨s,hs⟩:=Qx m.st;rw[hs]at c14 hs5;have HPL:=Qh (lt_of_block h.at_.blk);have x0:w.cell? ⟨g,f,none⟩=some (.string (zc [102,97,117,108,116])):=h.cell 0 (by omega) (Keep.refl _ w);have HCK:=Qh (show Calls Tryz.prog 49 #[.string (zc [102,97,117,108,116])] w fun e w'=>e=.returned (.int .i64 0)/\Keep (fun _=>False) w w' from by
  have h1:=qd [102,97,117,108,116] w;rw[show zb [102,97,117,108,116]=0 from by decide]at h1;exact h1)
 have HP:=Qh (show ∀W,Keep (fun _=>False) w W->Calls Tryz.prog 52 #[.pointer (some ⟨pb,0,none⟩),.slice (some ⟨g,f,none⟩) (ws.length+1) cl] W (fun e w'=>∃c:Int,e=.returned (.int .i64 c)/\qI own pb (zi ⟨m.play,m.st⟩ 3 [102,97,117,108,116] ws) w (.returned (.int .i64 c)) w')from fun W k=>(z7y cl (h.kept k) hcl).mono fun e w' hr=>(hr.from k).ret);obtain⟨n,hn⟩:=Qx ws.length;have hnp:(0:Int)<(n:Int)+1:=(by omega);rw[hn];rw[hn]at hcl;rw[hn]at HP;have b1:((zc [102,97,117,108,116]).toList==[112,108,97,121])=false:=(by rw[ByteArray.toList_eq,ze];rfl);have b2:((zc [102,97,117,108,116]).toList==[109,111,115,116])=false:=(by rw[ByteArray.toList_eq,ze];rfl);have b3:((zc [102,97,117,108,116]).toList==[102,97,117,108,116])=true:=(by rw[ByteArray.toList_eq,ze];rfl);have b4:((zc [102,97,117,108,116]).toList==[116,97,115,107])=false:=(by rw[ByteArray.toList_eq,ze];rfl);have b6:((zc [102,97,117,108,116]).toList==[112,105,99,107,115])=false:=(by rw[ByteArray.toList_eq,ze];rfl);have b7:((zc [102,97,117,108,116]).toList==[101,110,100])=false:=(by rw[ByteArray.toList_eq,ze];rfl);generalize zc [102,97,117,108,116]=X at*
 by_cases h0:s=0
 ·have e0:((s:Int)==0)=true:=(by rw[beq_iff_eq];omega);have HE:=Qh (yw (p:=m.play) (x:=[102,97,117,108,116]) (ws:=ws) 3 hs (by subst h0;rfl));clear h hs hn HP;go_in;go_wp2_with(go_at_call 49;refine HCK.mono ?_;rintro e w1 ⟨rfl,k1⟩;have x14:=(k1.cell (p:=⟨pb,14,none⟩) HPL.out id).trans c14;have K1:=Qh k1;clear k1);go_ret;exact Or.inr ⟨63,HE.out,by decide,rfl,K1.out.mono fun _ _ h=>h.elim⟩
 have e0:((s:Int)==0)=false:=Qb (by omega);by_cases h1:s=1
 ·have e1:((s:Int)==1)=true:=(by rw[beq_iff_eq];omega);have HE:=Qh (yw (p:=m.play) (x:=[102,97,117,108,116]) (ws:=ws) 3 hs (by subst h1;rfl));clear h hs hn HP;go_in;go_wp2_with(go_at_call 49;refine HCK.mono ?_;rintro e w1 ⟨rfl,k1⟩;have x14:=(k1.cell (p:=⟨pb,14,none⟩) HPL.out id).trans c14;have K1:=Qh k1;clear k1);go_ret;exact Or.inr ⟨63,HE.out,by decide,rfl,K1.out.mono fun _ _ h=>h.elim⟩
 have e1:((s:Int)==1)=false:=Qb (by omega);clear h hs hn h0 h1;go_in;go_wp2_with(first|(go_at_call 49;refine HCK.mono ?_;rintro e w1 ⟨rfl,k1⟩;have x14:=(k1.cell (p:=⟨pb,14,none⟩) HPL.out id).trans c14;have K1:=Qh k1;clear k1)|(go_at_call 52;refine(HP.out w1 K1.out).mono ?_;rintro e w2 ⟨c,rfl,hr⟩;have HR:=Qh hr;clear hr));go_ret;exact HR.out
theorem z64{w:World}{own:Nat->Option T}{pb:Nat}{m:M}{g f:Nat}(cl:Nat){ws:List Str}(h:RkAt w own pb m g f [112,105,99,107,115] ws)(hcl:ws.length+1<=cl):
  Calls Tryz.prog 21 #[.pointer (some ⟨pb,0,none⟩),.slice (some ⟨g,f,none⟩) (ws.length+1) cl] w (qI own pb (zi ⟨m.play,m.st⟩ 6 [112,105,99,107,115] ws) w):=by
 have hs5:=h.st;have c14:=za h.at_.blk 14;have f14:=zd h.at_.blk 14;unfold M.rcells at c14;simp at c14;obtain⟨s,hs⟩:=Qx m.st;rw[hs]at c14 hs5;have HPL:=Qh (lt_of_block h.at_.blk);have x0:w.cell? ⟨g,f,none⟩=some (.string (zc [112,105,99,107,115])):=h.cell 0 (by omega) (Keep.refl _ w);have HCK:=Qh (show Calls Tryz.prog 49 #[.string (zc [112,105,99,107,115])] w fun e w'=>e=.returned (.int .i64 0)/\Keep (fun _=>False) w w' from by
  have h1:=qd [112,105,99,107,115] w;rw[show zb [112,105,99,107,115]=0 from by decide]at h1;exact h1)
 have HP:=Qh (show ∀W,Keep (fun _=>False) w W->Calls Tryz.prog 53 #[.pointer (some ⟨pb,0,none⟩),.slice (some ⟨g,f,none⟩) (ws.length+1) cl] W (fun e w'=>∃c:Int,e=.returned (.int .i64 c)/\qI own pb (zi ⟨m.play,m.st⟩ 6 [112,105,99,107,115] ws) w (.returned (.int .i64 c)) w')from fun W k=>(z7q cl (h.kept k) hcl).mono fun e w' hr=>(hr.from k).ret);obtain⟨n,hn⟩:=Qx ws.length;have hnp:(0:Int)<(n:Int)+1:=(by omega);rw[hn];rw[hn]at hcl;rw[hn]at HP;have b1:((zc [112,105,99,107,115]).toList==[112,108,97,121])=false:=(by rw[ByteArray.toList_eq,ze];rfl);have b2:((zc [112,105,99,107,115]).toList==[109,111,115,116])=false:=(by rw[ByteArray.toList_eq,ze];rfl);have b3:((zc [112,105,99,107,115]).toList==[102,97,117,108,116])=false:=(by rw[ByteArray.toList_eq,ze];rfl);have b4:((zc [112,105,99,107,115]).toList==[116,97,115,107])=false:=(by rw[ByteArray.toList_eq,ze];rfl);have b6:((zc [112,105,99,107,115]).toList==[112,105,99,107,115])=true:=(by rw[ByteArray.toList_eq,ze];rfl);have b7:((zc [112,105,99,107,115]).toList==[101,110,100])=false:=(by rw[ByteArray.toList_eq,ze];rfl);generalize zc [112,105,99,107,115]=X at*
 by_cases h0:s=0
 ·have e0:((s:Int)==0)=true:=(by rw[beq_iff_eq];omega);have HE:=Qh (yw (p:=m.play) (x:=[112,105,99,107,115]) (ws:=ws) 6 hs (by subst h0;rfl));clear h hs hn HP;go_in;go_wp2_with(go_at_call 49;refine HCK.mono ?_;rintro e w1 ⟨rfl,k1⟩;have x14:=(k1.cell (p:=⟨pb,14,none⟩) HPL.out id).trans c14;have K1:=Qh k1;clear k1);go_ret;exact Or.inr ⟨63,HE.out,by decide,rfl,K1.out.mono fun _ _ h=>h.elim⟩
 have e0:((s:Int)==0)=false:=Qb (by omega);by_cases h1:s=1
 ·have e1:((s:Int)==1)=true:=(by rw[beq_iff_eq];omega);have HE:=Qh (yw (p:=m.play) (x:=[112,105,99,107,115]) (ws:=ws) 6 hs (by subst h1;rfl));clear h hs hn HP;go_in;go_wp2_with(go_at_call 49;refine HCK.mono ?_;rintro e w1 ⟨rfl,k1⟩;have x14:=(k1.cell (p:=⟨pb,14,none⟩) HPL.out id).trans c14;have K1:=Qh k1;clear k1);go_ret;exact Or.inr ⟨63,HE.out,by decide,rfl,K1.out.mono fun _ _ h=>h.elim⟩
 have e1:((s:Int)==1)=false:=Qb (by omega);clear h hs hn h0 h1;go_in;go_wp2_with(first|(go_at_call 49;refine HCK.mono ?_;rintro e w1 ⟨rfl,k1⟩;have x14:=(k1.cell (p:=⟨pb,14,none⟩) HPL.out id).trans c14;have K1:=Qh k1;clear k1)|(go_at_call 53;refine(HP.out w1 K1.out).mono ?_;rintro e w2 ⟨c,rfl,hr⟩;have HR:=Qh hr;clear hr));go_ret;exact HR.out
theorem z9o{w:World}{own:Nat->Option T}{pb:Nat}{m:M}{g f:Nat}(cl:Nat){ws:List Str}(h:RkAt w own pb m g f [101,110,100] ws)(hcl:ws.length+1<=cl):
  Calls Tryz.prog 21 #[.pointer (some ⟨pb,0,none⟩),.slice (some ⟨g,f,none⟩) (ws.length+1) cl] w (qI own pb (zi ⟨m.play,m.st⟩ 7 [101,110,100] ws) w):=by
 have hs5:=h.st;have c14:=za h.at_.blk 14;have f14:=zd h.at_.blk 14;unfold M.rcells at c14;simp at c14;obtain⟨s,hs⟩:=Qx m.st;rw[hs]at c14 hs5;have HPL:=Qh (lt_of_block h.at_.blk);have x0:w.cell? ⟨g,f,none⟩=some (.string (zc [101,110,100])):=h.cell 0 (by omega) (Keep.refl _ w);have HCK:=Qh (show Calls Tryz.prog 49 #[.string (zc [101,110,100])] w fun e w'=>e=.returned (.int .i64 0)/\Keep (fun _=>False) w w' from by
  have h1:=qd [101,110,100] w;rw[show zb [101,110,100]=0 from by decide]at h1;exact h1)
 have HP:=Qh (show ∀W,Keep (fun _=>False) w W->Calls Tryz.prog 54 #[.pointer (some ⟨pb,0,none⟩),.slice (some ⟨g,f,none⟩) (ws.length+1) cl] W (fun e w'=>∃c:Int,e=.returned (.int .i64 c)/\qI own pb (zi ⟨m.play,m.st⟩ 7 [101,110,100] ws) w (.returned (.int .i64 c)) w')from fun W k=>(zba cl (h.kept k) hcl).mono fun e w' hr=>(hr.from k).ret);obtain⟨n,hn⟩:=Qx ws.length;have hnp:(0:Int)<(n:Int)+1:=(by omega);rw[hn];rw[hn]at hcl;rw[hn]at HP;have b1:((zc [101,110,100]).toList==[112,108,97,121])=false:=(by rw[ByteArray.toList_eq,ze];rfl);have b2:((zc [101,110,100]).toList==[109,111,115,116])=false:=(by rw[ByteArray.toList_eq,ze];rfl);have b3:((zc [101,110,100]).toList==[102,97,117,108,116])=false:=(by rw[ByteArray.toList_eq,ze];rfl);have b4:((zc [101,110,100]).toList==[116,97,115,107])=false:=(by rw[ByteArray.toList_eq,ze];rfl);have b6:((zc [101,110,100]).toList==[112,105,99,107,115])=false:=(by rw[ByteArray.toList_eq,ze];rfl);have b7:((zc [101,110,100]).toList==[101,110,100])=true:=(by rw[ByteArray.toList_eq,ze];rfl);generalize zc [101,110,100]=X at*
 by_cases h0:s=0
 ·have e0:((s:Int)==0)=true:=(by rw[beq_iff_eq];omega);have HE:=Qh (yw (p:=m.play) (x:=[101,110,100]) (ws:=ws) 7 hs (by subst h0;rfl));clear h hs hn HP;go_in;go_wp2_with(go_at_call 49;refine HCK.mono ?_;rintro e w1 ⟨rfl,k1⟩;have x14:=(k1.cell (p:=⟨pb,14,none⟩) HPL.out id).trans c14;have K1:=Qh k1;clear k1);go_ret;exact Or.inr ⟨63,HE.out,by decide,rfl,K1.out.mono fun _ _ h=>h.elim⟩
 have e0:((s:Int)==0)=false:=Qb (by omega);by_cases h1:s=1
 ·have e1:((s:Int)==1)=true:=(by rw[beq_iff_eq];omega);have HE:=Qh (yw (p:=m.play) (x:=[101,110,100]) (ws:=ws) 7 hs (by subst h1;rfl));clear h hs hn HP;go_in;go_wp2_with(go_at_call 49;refine HCK.mono ?_;rintro e w1 ⟨rfl,k1⟩;have x14:=(k1.cell (p:=⟨pb,14,none⟩) HPL.out id).trans c14;have K1:=Qh k1;clear k1);go_ret;exact Or.inr ⟨63,HE.out,by decide,rfl,K1.out.mono fun _ _ h=>h.elim⟩
 have e1:((s:Int)==1)=false:=Qb (by omega);clear h hs hn h0 h1;go_in;go_wp2_with(first|(go_at_call 49;refine HCK.mono ?_;rintro e w1 ⟨rfl,k1⟩;have x14:=(k1.cell (p:=⟨pb,14,none⟩) HPL.out id).trans c14;have K1:=Qh k1;clear k1)|(go_at_call 54;refine(HP.out w1 K1.out).mono ?_;rintro e w2 ⟨c,rfl,hr⟩;have HR:=Qh hr;clear hr));go_ret;exact HR.out
theorem z7w{w:World}{own:Nat->Option T}{pb:Nat}{m:M}{g f:Nat}(cl:Nat){x:Str}{ws:List Str}(h:RkAt w own pb m g f x ws)(hcl:ws.length+1<=cl)(hx:x≠[112,108,97,121]/\x≠[109,111,115,116]/\x≠[102,97,117,108,116]/\x≠[116,97,115,107]/\x≠[112,105,99,107,115]/\x≠[101,110,100])(hk0:zb x≠0):
  Calls Tryz.prog 21 #[.pointer (some ⟨pb,0,none⟩),.slice (some ⟨g,f,none⟩) (ws.length+1) cl] w (qI own pb (zi ⟨m.play,m.st⟩ 5 x ws) w):=by
 have hs5:=h.st;have c14:=za h.at_.blk 14;have f14:=zd h.at_.blk 14;unfold M.rcells at c14;simp at c14;obtain⟨s,hs⟩:=Qx m.st;rw[hs]at c14 hs5;have HPL:=Qh (lt_of_block h.at_.blk);have x0:w.cell? ⟨g,f,none⟩=some (.string (zc x)):=h.cell 0 (by omega) (Keep.refl _ w);have HCK:=Qh (show Calls Tryz.prog 49 #[.string (zc x)] w fun e w'=>e=.returned (.int .i64 (zb x))/\Keep (fun _=>False) w w' from by
  have h1:=qd x w;rw[show zb x=zb x from rfl]at h1;exact h1)
 have HP:=Qh (show ∀W,Keep (fun _=>False) w W->Calls Tryz.prog 55 #[.pointer (some ⟨pb,0,none⟩),.int .i64 (zb x),.slice (some ⟨g,f,none⟩) (ws.length+1) cl] W (fun e w'=>∃c:Int,e=.returned (.int .i64 c)/\qI own pb (zi ⟨m.play,m.st⟩ 5 x ws) w (.returned (.int .i64 c)) w')from fun W k=>(z9v cl (h.kept k) hcl hk0).mono fun e w' hr=>(hr.from k).ret);obtain⟨n,hn⟩:=Qx ws.length;have hnp:(0:Int)<(n:Int)+1:=(by omega);rw[hn];rw[hn]at hcl;rw[hn]at HP;have hkp:(0:Int)<zb x:=by
  (have:0<=zb x:=by(unfold zb;repeat' split);all_goals omega);omega
 have b1:((zc x).toList==[112,108,97,121])=false:=yr (by rw[ze];exact hx.1);have b2:((zc x).toList==[109,111,115,116])=false:=yr (by rw[ze];exact hx.2.1);have b3:((zc x).toList==[102,97,117,108,116])=false:=yr (by rw[ze];exact hx.2.2.1);have b4:((zc x).toList==[116,97,115,107])=false:=yr (by rw[ze];exact hx.2.2.2.1);have b6:((zc x).toList==[112,105,99,107,115])=false:=yr (by rw[ze];exact hx.2.2.2.2.1);have b7:((zc x).toList==[101,110,100])=false:=yr (by rw[ze];exact hx.2.2.2.2.2);generalize zc x=X at*
 generalize zb x=kk at*
 by_cases h0:s=0
 ·have e0:((s:Int)==0)=true:=(by rw[beq_iff_eq];omega);have HE:=Qh (yw (p:=m.play) (x:=x) (ws:=ws) 5 hs (by subst h0;rfl));clear h hs hn HP;go_in;go_wp2_with(go_at_call 49;refine HCK.mono ?_;rintro e w1 ⟨rfl,k1⟩;have x14:=(k1.cell (p:=⟨pb,14,none⟩) HPL.out id).trans c14;have K1:=Qh k1;clear k1);go_ret;exact Or.inr ⟨63,HE.out,by decide,rfl,K1.out.mono fun _ _ h=>h.elim⟩
 have e0:((s:Int)==0)=false:=Qb (by omega);by_cases h1:s=1
 ·have e1:((s:Int)==1)=true:=(by rw[beq_iff_eq];omega);have HE:=Qh (yw (p:=m.play) (x:=x) (ws:=ws) 5 hs (by subst h1;rfl));clear h hs hn HP;go_in;go_wp2_with(go_at_call 49;refine HCK.mono ?_;rintro e w1 ⟨rfl,k1⟩;have x14:=(k1.cell (p:=⟨pb,14,none⟩) HPL.out id).trans c14;have K1:=Qh k1;clear k1);go_ret;exact Or.inr ⟨63,HE.out,by decide,rfl,K1.out.mono fun _ _ h=>h.elim⟩
 have e1:((s:Int)==1)=false:=Qb (by omega);clear h hs hn h0 h1;go_in;go_wp2_with(first|(go_at_call 49;refine HCK.mono ?_;rintro e w1 ⟨rfl,k1⟩;have x14:=(k1.cell (p:=⟨pb,14,none⟩) HPL.out id).trans c14;have K1:=Qh k1;clear k1)|(go_at_call 55;refine(HP.out w1 K1.out).mono ?_;rintro e w2 ⟨c,rfl,hr⟩;have HR:=Qh hr;clear hr));go_ret;exact HR.out
theorem z7t{w:World}{own:Nat->Option T}{pb:Nat}{m:M}{g f:Nat}(cl:Nat){ws:List Str}(h:RkAt w own pb m g f [112,108,97,121] ws)(hcl:ws.length+1<=cl)(B:Nat)(hE:Ev B w)(hB:∀q,own q≠none->B<=q):
  Calls Tryz.prog 21 #[.pointer (some ⟨pb,0,none⟩),.slice (some ⟨g,f,none⟩) (ws.length+1) cl] w (qI own pb (zi ⟨m.play,m.st⟩ 1 [112,108,97,121] ws) w):=by
 have hs5:=h.st;have c14:=za h.at_.blk 14;have f14:=zd h.at_.blk 14;unfold M.rcells at c14;simp at c14;obtain⟨s,hs⟩:=Qx m.st;rw[hs]at c14 hs5;have HPL:=Qh (lt_of_block h.at_.blk);have x0:w.cell? ⟨g,f,none⟩=some (.string (zc [112,108,97,121])):=h.cell 0 (by omega) (Keep.refl _ w);have HCK:=Qh (show Calls Tryz.prog 49 #[.string (zc [112,108,97,121])] w fun e w'=>e=.returned (.int .i64 0)/\Keep (fun _=>False) w w' from by
  have h1:=qd [112,108,97,121] w;rw[show zb [112,108,97,121]=0 from by decide]at h1;exact h1)
 have HP:=Qh (show ∀W,Keep (fun _=>False) w W->m.st=0->Calls Tryz.prog 50 #[.pointer (some ⟨pb,0,none⟩),.slice (some ⟨g,f,none⟩) (ws.length+1) cl] W (fun e w'=>∃c:Int,e=.returned (.int .i64 c)/\qI own pb (zi ⟨m.play,m.st⟩ 1 [112,108,97,121] ws) w (.returned (.int .i64 c)) w')from fun W k h0=>(z9k cl B (h.kept k) h0 hcl (hE.on (k.below hE.le fun q hq=>hq.elim)) hB).mono fun e w' hr=>(hr.from k).ret);obtain⟨n,hn⟩:=Qx ws.length;have hnp:(0:Int)<(n:Int)+1:=(by omega);rw[hn];rw[hn]at hcl;rw[hn]at HP;have b1:((zc [112,108,97,121]).toList==[112,108,97,121])=true:=(by rw[ByteArray.toList_eq,ze];rfl);have b2:((zc [112,108,97,121]).toList==[109,111,115,116])=false:=(by rw[ByteArray.toList_eq,ze];rfl);have b3:((zc [112,108,97,121]).toList==[102,97,117,108,116])=false:=(by rw[ByteArray.toList_eq,ze];rfl);have b4:((zc [112,108,97,121]).toList==[116,97,115,107])=false:=(by rw[ByteArray.toList_eq,ze];rfl);have b6:((zc [112,108,97,121]).toList==[112,105,99,107,115])=false:=(by rw[ByteArray.toList_eq,ze];rfl);have b7:((zc [112,108,97,121]).toList==[101,110,100])=false:=(by rw[ByteArray.toList_eq,ze];rfl);generalize zc [112,108,97,121]=X at*
 by_cases h0:s=0
 ·have e0:((s:Int)==0)=true:=(by rw[beq_iff_eq];omega);have e1:((s:Int)==1)=false:=Qb (by omega);have HP0:=Qh fun W k=>HP.out W k (hs.trans h0);clear h hs hn HP h0;go_in;go_wp2_with(first|(go_at_call 49;refine HCK.mono ?_;rintro e w1 ⟨rfl,k1⟩;have x14:=(k1.cell (p:=⟨pb,14,none⟩) HPL.out id).trans c14;have K1:=Qh k1;clear k1)|(go_at_call 50;refine(HP0.out w1 K1.out).mono ?_;rintro e w2 ⟨c,rfl,hr⟩;have HR:=Qh hr;clear hr));go_ret;exact HR.out
 have e0:((s:Int)==0)=false:=Qb (by omega);have HE:=Qh (yw (p:=m.play) (x:=[112,108,97,121]) (ws:=ws) 1 hs (by rcases(show s=1\/s=2\/s=3\/s=4\/s=5 by omega)with rfl|rfl|rfl|rfl|rfl<;>rfl));clear h hs hn HP;go_in;go_wp2_with(go_at_call 49;refine HCK.mono ?_;rintro e w1 ⟨rfl,k1⟩;have x14:=(k1.cell (p:=⟨pb,14,none⟩) HPL.out id).trans c14;have K1:=Qh k1;clear k1);go_ret;exact Or.inr ⟨63,HE.out,by decide,rfl,K1.out.mono fun _ _ h=>h.elim⟩
end Sc
end Go.Proofs.YtkkecpamnnojoaaGreatDoor
