/- A part of the proof of ScriptParses: nothing is assumed. By an AI agent. -/
import Derived.Test.YtkkecpamnnojoaaGreatDoorBz18
set_option linter.unusedVariables false
set_option linter.unusedSimpArgs false
set_option maxRecDepth 100000
set_option maxHeartbeats 32000000
namespace Go.Proofs.YtkkecpamnnojoaaGreatDoor
open Go.ChangeShapes Go.WideShapes Go.ChangeAt Go.RowKit Go.Shelf
open Bt Dc By
namespace Sc
theorem zdD(l:List Fault):(fsv l).length=3*l.length:=zB _ 3 (fun _=>rfl) l
theorem zes(u N0:Nat)(W:World)(hE:Ev N0 W)(hu:u<18446744073709551616):Calls Tryz.prog 64 #[.float .f64 u] W fun e w'=>e=.returned (.string (zc (yo u)))/\Keep (fun _=>False) W w':=
 (hE.text u hu).mono fun e w' h=>⟨by rw[zaB];exact h.1,xV h.2⟩
theorem z7E{w0 ws W:World}{own0 own:Nat->Option T}{q xb n c:Nat}{o:Option Addr}{t:TypeId}{cs:Array Value}{v:Value}{B:Str}(N0:Nat){m:M}(hn:m.fs.length=n)(hv:m.fv=.slice o n c)(h:St w0 ws own0 q xb t cs W own v B)(hE:Ev N0 w0)(hs:Seen w0 m)(hok:PlayOk m.play)(hc:m.fs.length<=64)(hb:(B++zM m.fs).length<=1099511627776):
  Calls Tryz.prog 65 #[.pointer (some ⟨xb,0,none⟩),.slice o n c] W fun e w'=>e=.returned (.tuple #[])/\z3M W own xb (B++zM m.fs) w':=by
 have hz:=zdD m.fs;rw[<-hv];exact z2x N0 m.fv m.fs h.pr (hE.kept h.pn.keep.none) (fun g hg=>Nat.le_trans hE.le (h.pn.low g hg)) (hs.fs.kept h.pn.keep) (fun h0=>h.pn.free hs.fs (by omega)) hok.faults (by omega) hb
def zfP(own:Nat->Option T)(xb:Nat)(p:Play)(w:World)(e:Ending)(w':World):Prop:=
 e=.returned (.tuple #[])/\∃B',z3M w own xb B' w'/\(B'=zT p\/(65536<B'.length/\65536<(zT p).length))
theorem ze8{w0 w:World}{own:Nat->Option T}{xb:Nat}{v:Value}(N0:Nat)(m:M)(hp:Pr w own xb v [])(hn:Pn w0 w own)(hE:Ev N0 w0)(hok:PlayOk m.play)(hs:Seen w0 m)
  (hc:m.fs.length<=64/\m.ts.length<=16/\(∀t∈m.ts,t.l.length<=256)/\m.ps.length<=65536/\m.es.length<=16/\∀e∈m.es,e.fs.length<=64/\e.ks.length<=256)
  (hdat:(∀t∈m.ts,∀c∈t.l,c.c.data.length<=1073741824)/\∀e∈m.es,∀k∈e.ks,k.k.junk.length<=1073741824)(hb:(zT m.play).length<=1099511627776):
  Calls Tryz.prog 30 #[.pointer (some ⟨xb,0,none⟩),.agg m.val] w (zfP own xb m.play w):=by
 obtain⟨o1,c1,hv1⟩:=hs.fs.val;obtain⟨o2,c2,hv2⟩:=hs.ts.val;obtain⟨o3,c3,hv3⟩:=hs.ps.val;obtain⟨o4,c4,hv4⟩:=hs.es.val;obtain⟨n1,hn1⟩:=Qx m.fs.length;obtain⟨n2,hn2⟩:=Qx m.ts.length;obtain⟨n3,hn3⟩:=Qx m.ps.length;obtain⟨n4,hn4⟩:=Qx m.es.length;rw[hn1]at hv1;rw[hn2]at hv2;rw[hn3]at hv3;rw[hn4]at hv4;have ix0:=hok.disk;have ix1:=hok.segMax;have ix2:=hok.base;have ix3:=hok.qcap;have ix4:=hok.qbytes;have ix5:=hok.pmost;have ix6:=hok.pbytes;have ix7:=hok.linger;have ix8:=hok.alpha;have ix9:=hok.most;simp only[M.play]at ix0 ix1 ix2 ix3 ix4 ix5 ix6 ix7 ix8 ix9;have HHead:=Qh (show z1R m.play=ye [[112,108,97,121],zl m.disk,zl m.segMax,zl m.base,zl m.qcap,zl m.qbytes,zl m.pmost,zl m.pbytes,yo m.linger,yo m.alpha]++ye [[109,111,115,116],zl m.most]from rfl);unfold M.val;rw[hv1,hv2,hv3,hv4];have HC:=Qh (Qa hn1 (Qa hn2 (Qa hn3 (Qa hn4 (Qa hv1 (Qa hv2 (Qa hv3 hv4)))))));generalize m.disk=x0 at*
 generalize m.segMax=x1 at*
 generalize m.base=x2 at*
 generalize m.qcap=x3 at*
 generalize m.qbytes=x4 at*
 generalize m.pmost=x5 at*
 generalize m.pbytes=x6 at*
 generalize m.linger=x7 at*
 generalize m.alpha=x8 at*
 generalize m.most=x9 at*
 obtain⟨q,hq⟩:=Qx w.heap.size;obtain⟨W1,hW1⟩:∃W1,w.alloc (.cells #[.int .i64 x0,.int .i64 x1,.int .i64 x2,.int .i64 x3,.int .i64 x4,.int .i64 x5,.int .i64 x6,.float .f64 x7,.float .f64 x8,.slice o1 n1 c1,.slice o2 n2 c2,.slice o3 n3 c3,.int .i64 x9,.slice o4 n4 c4] 40)=W1:=⟨_,rfl⟩;have b1:W1.heap[q]?=some (.cells #[.int .i64 x0,.int .i64 x1,.int .i64 x2,.int .i64 x3,.int .i64 x4,.int .i64 x5,.int .i64 x6,.float .f64 x7,.float .f64 x8,.slice o1 n1 c1,.slice o2 n2 c2,.slice o3 n3 c3,.int .i64 x9,.slice o4 n4 c4] 40 (0,0)):=(by rw[<-hW1,<-hq];exact zm _ _);have k1:Keep (fun _=>False) w W1:=(by rw[<-hW1];exact(Keep.refl _ w).alloc _);have hz1:W1.heap.size=q+1:=(by rw[<-hW1,<-hq];simp);obtain⟨W0,hW0⟩:∃W0,W1.alloc (.cells #[.int .i64 x1,.int .i64 x2,.int .i64 x3,.int .i64 x4,.int .i64 x5,.int .i64 x6,.float .f64 x7,.float .f64 x8] 34)=W0:=⟨_,rfl⟩;have b0:W0.heap[q+1]?=some (.cells #[.int .i64 x1,.int .i64 x2,.int .i64 x3,.int .i64 x4,.int .i64 x5,.int .i64 x6,.float .f64 x7,.float .f64 x8] 34 (0,0)):=(by rw[<-hW0,<-hz1];exact zm _ _);have k01:Keep (fun _=>False) W1 W0:=(by rw[<-hW0];exact(Keep.refl _ W1).alloc _);have k0:=k1.trans k01;have HH:=Qh (Qa hp (Qa hn (Qa hE (Qa hok (Qa hs (Qa hc (Qa hdat (Qa hb k0))))))));have HP:=Qh (hp.kept k0);have HN:=Qh (hn.kept k0);have HE0:=Qh (hE.kept (hn.kept k0).keep.none);have HQ:=Qh (Qa (hp.past (Nat.le_of_eq hq)) (Qa (hp.past (show w.heap.size<=q+1 by omega)) (Qa (k01.same b1 id) b0)));have g1:W1.cell? ⟨q,1,none⟩=some (.int .i64 x1):=za b1 1;have g2:W1.cell? ⟨q,2,none⟩=some (.int .i64 x2):=za b1 2;have g3:W1.cell? ⟨q,3,none⟩=some (.int .i64 x3):=za b1 3;have g4:W1.cell? ⟨q,4,none⟩=some (.int .i64 x4):=za b1 4;have g5:W1.cell? ⟨q,5,none⟩=some (.int .i64 x5):=za b1 5;have g6:W1.cell? ⟨q,6,none⟩=some (.int .i64 x6):=za b1 6;have g7:W1.cell? ⟨q,7,none⟩=some (.float .f64 x7):=za b1 7;have g8:W1.cell? ⟨q,8,none⟩=some (.float .f64 x8):=za b1 8;have e0:W0.cell? ⟨q,0,none⟩=some (.int .i64 x0):=za HQ.2.2.1 0;have y0:W0.cell? ⟨q+1,0,none⟩=some (.int .i64 x1):=za b0 0;have y1:W0.cell? ⟨q+1,1,none⟩=some (.int .i64 x2):=za b0 1;have y2:W0.cell? ⟨q+1,2,none⟩=some (.int .i64 x3):=za b0 2;have y3:W0.cell? ⟨q+1,3,none⟩=some (.int .i64 x4):=za b0 3;have y4:W0.cell? ⟨q+1,4,none⟩=some (.int .i64 x5):=za b0 4;have y5:W0.cell? ⟨q+1,5,none⟩=some (.int .i64 x6):=za b0 5;have y6:W0.cell? ⟨q+1,6,none⟩=some (.float .f64 x7):=za b0 6;have y7:W0.cell? ⟨q+1,7,none⟩=some (.float .f64 x8):=za b0 7;clear hp hn hE hok hs hc hdat hb k0 k1 k01 b0 b1 hv1 hv2 hv3 hv4 hn1 hn2 hn3 hn4;go_in;go_wp2_with fail;have HNow:=Qh ((Keep.refl (fun _=>False) W0).drewN 1);clear hq hW1 hW0 hz1 g1 g2 g3 g4 g5 g6 g7 g8
 go_region_held3(fun W'=>W'.cell? ⟨q,0,none⟩=some (.int .i64 x0)/\W'.cell? ⟨q+1,0,none⟩=some (.int .i64 x1)/\W'.cell? ⟨q+1,1,none⟩=some (.int .i64 x2)/\W'.cell? ⟨q+1,2,none⟩=some (.int .i64 x3)/\W'.cell? ⟨q+1,3,none⟩=some (.int .i64 x4)/\W'.cell? ⟨q+1,4,none⟩=some (.int .i64 x5)/\W'.cell? ⟨q+1,5,none⟩=some (.int .i64 x6)/\W'.cell? ⟨q+1,6,none⟩=some (.float .f64 x7)/\W'.cell? ⟨q+1,7,none⟩=some (.float .f64 x8))
    (first
     |exact⟨zj HNow.out e0,zj HNow.out y0,zj HNow.out y1,zj HNow.out y2,zj HNow.out y3,zj HNow.out y4,zj HNow.out y5,zj HNow.out y6,zj HNow.out y7⟩
     |exact⟨zj (HNow.alloc _) e0,zj (HNow.alloc _) y0,zj (HNow.alloc _) y1,zj (HNow.alloc _) y2,zj (HNow.alloc _) y3,zj (HNow.alloc _) y4,zj (HNow.alloc _) y5,zj (HNow.alloc _) y6,zj (HNow.alloc _) y7⟩
     |exact⟨xm HT2.out HQ.1 (zj HNowA.out e0),xm HT2.out HQ.2.1 (zj HNowA.out y0),xm HT2.out HQ.2.1 (zj HNowA.out y1),xm HT2.out HQ.2.1 (zj HNowA.out y2),xm HT2.out HQ.2.1 (zj HNowA.out y3),xm HT2.out HQ.2.1 (zj HNowA.out y4),xm HT2.out HQ.2.1 (zj HNowA.out y5),xm HT2.out HQ.2.1 (zj HNowA.out y6),xm HT2.out HQ.2.1 (zj HNowA.out y7)⟩)
    (first
     |(go_at_call 62;refine(z0W _ N0 _ (HE0.kept HNow.none) (by assumption)).mono ?_;rintro e w' ⟨rfl,kx⟩;have HNow:=Qh (HNow.trans kx);clear kx)
     |(go_at_call 63;refine(z2m _ N0 _ (HE0.kept HNow.none) (by assumption)).mono ?_;rintro e w' ⟨rfl,kx⟩;have HNow:=Qh (HNow.trans kx);clear kx)
     |(go_at_call 64;refine(zes _ N0 _ (HE0.kept HNow.none) (by assumption)).mono ?_;rintro e w' ⟨rfl,kx⟩;have HNow:=Qh (HNow.trans kx);clear kx)
     |(go_at_call 61;refine(xp _ 0 10 [[112,108,97,121],zl x0,zl x1,zl x2,zl x3,zl x4,zl x5,zl x6,yo x7,yo x8] (HP.kept (HNow.alloc _)) (z16 _ [[112,108,97,121],zl x0,zl x1,zl x2,zl x3,zl x4,zl x5,zl x6,yo x7,yo x8]) (HP.past HNow.size) (Nat.le_refl _) (by simp) (by have:=HH.2.2.2.2.2.2.2.1;unfold zT at this;rw[HHead.out]at this;simp only[List.length_append]at this;simp only[List.nil_append];omega)).mono ?_;rintro e w2 ⟨rfl,own2,v2,hp2,ht2⟩;have HNowA:=Qh (HNow.alloc (.cells ([[112,108,97,121],zl x0,zl x1,zl x2,zl x3,zl x4,zl x5,zl x6,yo x7,yo x8].map qE).toArray 9));have HP2:=Qh hp2;have HT2:=Qh ht2;clear hp2 ht2))
 have hs2:St w0 w own q xb 40 #[.int .i64 x0,.int .i64 x1,.int .i64 x2,.int .i64 x3,.int .i64 x4,.int .i64 x5,.int .i64 x6,.float .f64 x7,.float .f64 x8,.slice o1 n1 c1,.slice o2 n2 c2,.slice o3 n3 c3,.int .i64 x9,.slice o4 n4 c4] w2 own2 v2 ([]++ye [[112,108,97,121],zl x0,zl x1,zl x2,zl x3,zl x4,zl x5,zl x6,yo x7,yo x8]):=
  ⟨HP2.out,(HN.kept HNowA.out).to HT2.out,HT2.keep.same (HNowA.same HQ.2.2.1 id) (by rw[HQ.1];simp),HT2.old q (lt_of_block (HNowA.same HQ.2.2.1 id)) HQ.1,(To.kept (HH.2.2.2.2.2.2.2.2.trans HNowA.out)).trans HT2.out⟩
 rw[List.nil_append]at hs2;have HS:=Qh hs2;clear hs2 HP2 HT2 HNowA HNow e0 y0 y1 y2 y3 y4 y5 y6 y7 HP HN HE0;have k9:=HS.cell (i:=9) (u:=.slice o1 n1 c1) rfl;have k10:=HS.cell (i:=10) (u:=.slice o2 n2 c2) rfl;have k11:=HS.cell (i:=11) (u:=.slice o3 n3 c3) rfl;have k12:=HS.cell (i:=12) (u:=.int .i64 x9) rfl;have k13:=HS.cell (i:=13) (u:=.slice o4 n4 c4) rfl;obtain⟨p1,hp1⟩:∃p,ye [[112,108,97,121],zl x0,zl x1,zl x2,zl x3,zl x4,zl x5,zl x6,yo x7,yo x8]=p:=⟨_,rfl⟩;rw[hp1]at HS HHead;have HFU:=Qh (show zT m.play=p1++ye [[109,111,115,116],zl x9]++zM m.fs++m.ts.flatMap xD++qt m.ps++m.es.flatMap xW from by rw[zc9,HHead.out]);have HBD:=Qh (show(p1++ye [[109,111,115,116],zl x9]++zM m.fs++m.ts.flatMap xD++qt m.ps++m.es.flatMap xW).length<=1099511627776 from by rw[<-HFU.out];exact HH.2.2.2.2.2.2.2.1);have HEV:=Qh HH.2.2.1;have hcb:=HH.2.2.2.2.2.1;rw[HC.1,HC.2.1,HC.2.2.1,HC.2.2.2.1]at hcb;have hb1:=hcb.1;have hb2:=hcb.2.1;have hb3:=hcb.2.2.2.1;have hb4:=hcb.2.2.2.2.1;clear hp1 ix0 ix1 ix2 ix3 ix4 ix5 ix6 ix7 ix8 HHead HQ hcb;go_wp2_with(first
  |(go_at_call 62;refine(z0W _ N0 _ (HEV.kept HS.pn.keep.none) (by assumption)).mono ?_;rintro e w' ⟨rfl,kx⟩;have HLT:=Qh (show own2 w'.heap.size=none from(HS.kept kx).pr.past (Nat.le_refl _));have HS:=Qh ((HS.kept kx).kept ((Keep.refl _ w').alloc (.cells ([[109,111,115,116],zl x9].map qE).toArray 9)));clear kx)
  |(go_at_call 61;refine(xp _ 0 2 [[109,111,115,116],zl x9] HS.pr (z16 _ [[109,111,115,116],zl x9]) HLT.out (Nat.le_refl _) (by simp) (by have:=HBD.out;simp only[List.length_append]at this⊢;omega)).mono ?_;rintro e w3 ⟨rfl,hpt⟩;obtain⟨own3,v3,hs3⟩:=HS.step hpt;have HS:=Qh hs3;clear hpt hs3;have k9:=HS.cell (i:=9) (u:=.slice o1 n1 c1) rfl;have k10:=HS.cell (i:=10) (u:=.slice o2 n2 c2) rfl;have k11:=HS.cell (i:=11) (u:=.slice o3 n3 c3) rfl;have k12:=HS.cell (i:=12) (u:=.int .i64 x9) rfl;have k13:=HS.cell (i:=13) (u:=.slice o4 n4 c4) rfl)
  |(go_at_call 65;refine(z7E N0 HC.1 HC.2.2.2.2.1 HS.out HEV.out HH.2.2.2.2.1 HH.2.2.2.1 HH.2.2.2.2.2.1.1 (by have:=HBD.out;simp only[List.length_append]at this⊢;omega)).mono ?_;rintro e w4 ⟨rfl,hpt⟩;obtain⟨own4,v4,hs4⟩:=HS.step hpt;have HS:=Qh hs4;clear hpt hs4;have k9:=HS.cell (i:=9) (u:=.slice o1 n1 c1) rfl;have k10:=HS.cell (i:=10) (u:=.slice o2 n2 c2) rfl;have k11:=HS.cell (i:=11) (u:=.slice o3 n3 c3) rfl;have k12:=HS.cell (i:=12) (u:=.int .i64 x9) rfl;have k13:=HS.cell (i:=13) (u:=.slice o4 n4 c4) rfl))
 obtain⟨A0,hA0⟩:∃A,p1++ye [[109,111,115,116],zl x9]++zM m.fs=A:=⟨_,rfl⟩;rw[hA0]at HS HFU HBD;clear hA0 k9 k10 k11 k12 k13;generalize w4=wA at*
 go_loopg[6,8,65] n2 (fun gq s6 s8 s65 wr=>∃k:Nat,gq+k=n2/\s65=.int .i64 (k:Int)/\Hid (∃own' v',St w0 w own q xb 40 #[.int .i64 x0,.int .i64 x1,.int .i64 x2,.int .i64 x3,.int .i64 x4,.int .i64 x5,.int .i64 x6,.float .f64 x7,.float .f64 x8,.slice o1 n1 c1,.slice o2 n2 c2,.slice o3 n3 c3,.int .i64 x9,.slice o4 n4 c4] wr own' v' (A0++(m.ts.take k).flatMap xD)))
 case atStart=>exact⟨0,by omega,rfl,own4,v4,by simpa using HS.out⟩
 case round=>
  obtain⟨k,hgk,rfl,own5,v5,hst⟩:=hrel;obtain⟨G,hG⟩:=Qx gk;rw[hG]at hgk;have HGG:=Qh hG;clear hG;by_cases hk:k<n2
  ·have hkI:(k:Int)<(n2:Int):=by omega
   have hk0:(0:Int)<=(k:Int):=(by omega);have hkl:k<m.ts.length:=(by rw[HC.2.1];exact hk);obtain⟨o',c',e',-,hcs,-⟩:=HH.2.2.2.2.1.ts;rw[HC.2.2.2.2.2.1,HC.2.1]at e';cases e';obtain⟨g,f,rfl,hc,hl⟩:=hcs k (by simpa using hkl);have ht:=HH.2.2.2.2.1.calls _ (List.getElem_mem hkl);obtain⟨o5,c5,hv5,-,hcs5,-⟩:=ht.row;obtain⟨n5,hn5⟩:=Qx ((m.ts[k]).l.length);have hb5:n5<=256:=(by rw[<-hn5];exact HH.2.2.2.2.2.1.2.2.1 _ (List.getElem_mem hkl));have cg:wr.cell? ⟨g,f+k,none⟩=some (.slice o5 n5 c5):=(by rw[(hst.pn.keep.cell (p:=⟨g,f+k,none⟩) hl id).trans hc,List.getElem?_map,List.getElem?_eq_getElem hkl,<-hn5,<-hv5];rfl);have hdl:=HH.2.2.2.2.2.2.1.1 _ (List.getElem_mem hkl);have hlo:∀c∈(m.ts[k]).l,IsI c.c.lsn:=fun c hc=>HH.2.2.2.1.calls _ (List.mem_map.2 ⟨_,List.getElem_mem hkl,rfl⟩) _ (List.mem_map.2 ⟨_,hc,rfl⟩);obtain⟨B,hB⟩:=Qx (A0++(m.ts.take k).flatMap xD);obtain⟨R,hR⟩:=Qx ((m.ts.drop (k+1)).flatMap xD++qt m.ps++m.es.flatMap xW);obtain⟨tl,htl⟩:=Qx ((m.ts[k]).l);have hFK:zT m.play=B++(ye [[116,97,115,107]]++tl.flatMap (fun c=>yV c.c))++R:=(by rw[HFU.out,z0n xD m.ts k hkl,<-hB,<-hR];unfold xD;rw[htl];simp only[List.append_assoc]);have hNX:A0++(m.ts.take (k+1)).flatMap xD=B++(ye [[116,97,115,107]]++tl.flatMap (fun c=>yV c.c)):=(by rw[z0U xD m.ts k hkl,<-hB,<-List.append_assoc];unfold xD;rw[htl]);rw[htl]at hn5 hcs5 hdl hlo;have hda:=ht.data;rw[htl]at hda;rw[hB]at hst;have HT:=Qh (Qa hcs5 (Qa hn5 (Qa hda (Qa hdl (Qa hlo (Qa hFK hNX))))));have hlen:=HBD.out;rw[<-HFU.out,hFK]at hlen;simp only[List.length_append]at hlen;have HS:=Qh hst;have HLEN:=Qh hlen;clear hc hcs ht hv5 hkl hn5 hB hR htl hcs5 hdl hlo hFK hNX hda hst hlen;go_wp2_with(first
    |(go_at_call 61;refine(xp _ 0 1 [[116,97,115,107]] (HS.kept ((Keep.refl _ wr).alloc (.cells ([[116,97,115,107]].map qE).toArray 9))).pr (z16 _ [[116,97,115,107]]) (HS.pr.past (Nat.le_refl _)) (Nat.le_refl _) (by simp) (by have:=HLEN.out;simp only[List.length_append];omega)).mono ?_;rintro e w3 ⟨rfl,hpt⟩;obtain⟨own6,v6,hs3⟩:=(HS.kept ((Keep.refl _ wr).alloc (.cells ([[116,97,115,107]].map qE).toArray 9))).step hpt;have HS:=Qh hs3;clear hpt hs3))
   go_loopg[8,74] n5 (fun gq s8 s74 wr=>∃j:Nat,gq+j=n5/\s74=.int .i64 (j:Int)/\Hid (∃own' v',St w0 w own q xb 40 #[.int .i64 x0,.int .i64 x1,.int .i64 x2,.int .i64 x3,.int .i64 x4,.int .i64 x5,.int .i64 x6,.float .f64 x7,.float .f64 x8,.slice o1 n1 c1,.slice (some ⟨g,f,none⟩) n2 c2,.slice o3 n3 c3,.int .i64 x9,.slice o4 n4 c4] wr own' v' (B++(ye [[116,97,115,107]]++(tl.take j).flatMap (fun c=>yV c.c)))))
   case atStart=>exact⟨0,by omega,rfl,own6,v6,by simpa using HS.out⟩
   case round=>
    obtain⟨j,hgj,rfl,own7,v7,hst⟩:=hrel;by_cases hj:j<n5
    ·have hjI:(j:Int)<(n5:Int):=by omega
     have hj0:(0:Int)<=(j:Int):=(by omega);have hjl:j<tl.length:=(by rw[HT.2.1];exact hj);obtain⟨g2,f2,rfl,hgl⟩:=HT.1.some (by rw[zB _ 3 (fun _=>rfl)];omega);have hcs2:=HT.1.kept hst.pn.keep;have d0:=hcs2.get 3 (fun _=>rfl) (List.getElem?_eq_getElem hjl) 0 (by omega);have d1:=hcs2.get 3 (fun _=>rfl) (List.getElem?_eq_getElem hjl) 1 (by omega);have d2:=hcs2.get 3 (fun _=>rfl) (List.getElem?_eq_getElem hjl) 2 (by omega);unfold MC.cells at d0 d1 d2;simp at d0 d1 d2;have hdd:=HT.2.2.1 _ (List.getElem_mem hjl);have hdn:=HT.2.2.2.1 _ (List.getElem_mem hjl);have hdo:=HT.2.2.2.2.1 _ (List.getElem_mem hjl);have hsp:=z0n (fun c:MC=>yV c.c) tl j hjl;have hnx:=z0U (fun c:MC=>yV c.c) tl j hjl;obtain⟨X,hX⟩:∃X,B++(ye [[116,97,115,107]]++(tl.take j).flatMap (fun c=>yV c.c))=X:=⟨_,rfl⟩;obtain⟨c,hcc⟩:=Qx (tl[j]);rw[hcc]at d0 d1 d2 hdd hdn hdo hsp hnx;have hXN:B++(ye [[116,97,115,107]]++(tl.take (j+1)).flatMap (fun c=>yV c.c))=X++yV c.c:=(by rw[hnx,<-hX];simp only[List.append_assoc]);have hXL:(X++yV c.c).length<=1099511627776/\X.length<=(zT m.play).length:=by
      have h1:=HLEN.out;rw[HT.2.2.2.2.2.1,<-hX];rw[hsp]at h1⊢
      simp only[List.length_append]at h1⊢
      omega
     rw[hX]at hst;obtain⟨oD,cD,hvD⟩:=hdd.val;obtain⟨nD,hnD⟩:=Qx c.c.data.length;have hpc:=fun(W:World) (hS:St w0 w own q xb 40 #[.int .i64 x0,.int .i64 x1,.int .i64 x2,.int .i64 x3,.int .i64 x4,.int .i64 x5,.int .i64 x6,.float .f64 x7,.float .f64 x8,.slice o1 n1 c1,.slice (some ⟨g,f,none⟩) n2 c2,.slice o3 n3 c3,.int .i64 x9,.slice o4 n4 c4] W own7 v7 X)=>z9D N0 c hS.pr (HEV.kept hS.pn.keep.none) (fun g hg=>Nat.le_trans HEV.le (hS.pn.low g hg)) (hdd.kept hS.pn.keep) hdo hdn hXL.1;rw[hvD,hnD]at hpc;rw[hvD,hnD]at d2;obtain⟨ck,hck⟩:=Qx c.c.kind;obtain⟨cl,hcl⟩:=Qx c.c.lsn;rw[hck,hcl]at hpc;rw[hck]at d0;rw[hcl]at d1;have HPC:=Qh hpc;have HX:=Qh (Qa hXN hXL);have HS:=Qh (hst.kept ((Keep.refl _ wr).alloc (.cells #[.int .i64 ck,.int .i64 cl,.slice oD nD cD] 76)));have HLG:=Qh (z1N HS.pr);clear hcs2 hdd hdn hdo hsp hnx hX hcc hXN hXL hvD hnD hpc hck hcl hst hjl hgl;by_cases hlong:65536<X.length
     ·rw[decide_eq_true hlong]at HLG;have HLL:=Qh hlong;clear hlong;go_wp2_with(go_at_call 31;refine HLG.mono ?_;rintro e w' ⟨rfl,rfl⟩);refine bodyPost_ret (results_none rfl _ _ _) rfl ?_;exact⟨rfl,X,⟨own7,v7,HS.pr,HS.tt⟩,Or.inr ⟨HLL.out,Nat.lt_of_lt_of_le HLL.out HX.2.2⟩⟩
     ·rw[decide_eq_false hlong]at HLG
      clear hlong;go_wp2_with(first
       |(go_at_call 31;refine HLG.mono ?_;rintro e w' ⟨rfl,rfl⟩)
       |(go_at_call 66;refine(HPC.out _ HS.out).mono ?_;rintro e w' ⟨rfl,hpt⟩;obtain⟨own8,v8,hs8⟩:=HS.step hpt;have HS:=Qh hs8;clear hpt hs8))
      (go_roundg(gk-1);all_goals first|omega|skip);exact⟨j+1,by omega,by simp,own8,v8,by rw[HX.1];exact HS.out⟩
    ·obtain rfl:j=n5:=by omega
     (have hjI:¬(j:Int)<(j:Int):=(by omega);rw[List.take_of_length_le (by rw[HT.2.1];exact Nat.le_refl _)]at hst;have HS:=Qh hst;clear hst;go_wp2_with fail;have hG:=HGG.out;go_roundg(G-1);all_goals first|omega|skip);exact⟨k+1,by omega,by simp,own7,v7,by rw[HT.2.2.2.2.2.2];exact HS.out⟩
  ·obtain rfl:k=n2:=by omega
   have hkI:¬(k:Int)<(k:Int):=(by omega);rw[List.take_of_length_le (by rw[HC.2.1];exact Nat.le_refl _)]at hst;obtain⟨A1,hA1⟩:=Qx (A0++m.ts.flatMap xD);have hFU1:=HFU.out;have hB1:=HBD.out;rw[hA1]at hst hFU1 hB1;have HF1:=Qh (Qa hFU1 hB1);have HS:=Qh hst;have k11:=HS.cell (i:=11) (u:=.slice o3 n3 c3) rfl;have k13:=HS.cell (i:=13) (u:=.slice o4 n4 c4) rfl;clear hA1 hst hFU1 hB1 HFU HBD;by_cases h3:n3=0
   ·subst h3
    have HF2:=Qh (show zT m.play=A1++m.es.flatMap xW/\(A1++m.es.flatMap xW).length<=1099511627776 from by
     have h:=HF1.out;have hp:qt m.ps=[]:=(by unfold qt;rw[if_pos (List.length_eq_zero_iff.1 HC.2.2.1)]);rw[hp,List.append_nil]at h;exact h)
    clear HF1;go_wp2_with fail;clear k11;generalize wr=wB at*
    go_loopg[13,109] n4 (fun gq s13 s109 wx=>∃j:Nat,gq+j=n4/\s109=.int .i64 (j:Int)/\Hid (∃own' v',St w0 w own q xb 40 #[.int .i64 x0,.int .i64 x1,.int .i64 x2,.int .i64 x3,.int .i64 x4,.int .i64 x5,.int .i64 x6,.float .f64 x7,.float .f64 x8,.slice o1 n1 c1,.slice o2 k c2,.slice o3 0 c3,.int .i64 x9,.slice o4 n4 c4] wx own' v' (A1++(m.es.take j).flatMap xW)))
    case atStart=>exact⟨0,by omega,rfl,own5,v5,by simpa using HS.out⟩
    case round=>
     obtain⟨j,hgj,rfl,own8,v8,hst⟩:=hrel;have k13:=hst.cell (i:=13) (u:=.slice o4 n4 c4) rfl;by_cases hj:j<n4
     ·have hjI:(j:Int)<(n4:Int):=by omega
      have hj0:(0:Int)<=(j:Int):=(by omega);have hjl:j<m.es.length:=(by rw[HC.2.2.2.1];exact hj);obtain⟨o',c',e',-,hcs,-⟩:=HH.2.2.2.2.1.es;rw[HC.2.2.2.2.2.2.2,HC.2.2.2.1]at e';cases e';obtain⟨g,f,rfl,hgl⟩:=hcs.some (by rw[zB _ 3 (fun _=>rfl)];omega);have hcs2:=hcs.kept hst.pn.keep;have d0:=hcs2.get 3 (fun _=>rfl) (List.getElem?_eq_getElem hjl) 0 (by omega);have d1:=hcs2.get 3 (fun _=>rfl) (List.getElem?_eq_getElem hjl) 1 (by omega);have d2:=hcs2.get 3 (fun _=>rfl) (List.getElem?_eq_getElem hjl) 2 (by omega);unfold ME.cells at d0 d1 d2;simp at d0 d1 d2;have he:=HH.2.2.2.2.1.ends _ (List.getElem_mem hjl);have hcb:=HH.2.2.2.2.2.1.2.2.2.2.2 _ (List.getElem_mem hjl);have hjk:=HH.2.2.2.2.2.2.1.2 _ (List.getElem_mem hjl);have hoe:=HH.2.2.2.1.ends _ (List.mem_map.2 ⟨_,List.getElem_mem hjl,rfl⟩);have hsp:=z0n xW m.es j hjl;have hnx:=z0U xW m.es j hjl;obtain⟨X,hX⟩:=Qx (A1++(m.es.take j).flatMap xW);obtain⟨E,hE⟩:=Qx (m.es[j]);rw[hE]at d0 d1 d2 he hcb hjk hoe hsp hnx;have hXN:A1++(m.es.take (j+1)).flatMap xW=X++xI E.reopen:=(by rw[hnx,<-hX,List.append_assoc];rfl);have hXL:(X++xI E.reopen).length<=1099511627776/\X.length<=(zT m.play).length:=by
       have h1:=HF2.2;rw[HF2.1,<-hX];rw[hsp]at h1⊢
       unfold xW at h1⊢
       simp only[List.length_append]at h1⊢
       omega
      rw[hX]at hst;obtain⟨oK,cK,hvK⟩:=he.keeps.val;obtain⟨oF,cF,hvF⟩:=he.faults.val;obtain⟨nK,hnK⟩:=Qx E.ks.length;obtain⟨nF,hnF⟩:=Qx E.fs.length;have hpc:=fun(W:World) (hS:St w0 w own q xb 40 #[.int .i64 x0,.int .i64 x1,.int .i64 x2,.int .i64 x3,.int .i64 x4,.int .i64 x5,.int .i64 x6,.float .f64 x7,.float .f64 x8,.slice o1 n1 c1,.slice o2 k c2,.slice o3 0 c3,.int .i64 x9,.slice (some ⟨g,f,none⟩) n4 c4] W own8 v8 X)=>z6d N0 E hS.pr (HEV.kept hS.pn.keep.none) (fun g hg=>Nat.le_trans HEV.le (hS.pn.low g hg)) (he.kept hS.pn.keep) (fun h0=>hS.pn.free he.faults (by unfold fsv;rw[zB _ 3 (fun _=>rfl)];omega)) hoe ⟨hcb.2,hcb.1,hjk⟩ hXL.1;rw[hvK,hvF,hnK,hnF]at hpc;rw[hvK,hnK]at d1;rw[hvF,hnF]at d2;obtain⟨dr,hdr⟩:=Qx E.dir;rw[hdr]at hpc d0;have HPC:=Qh hpc;have HX:=Qh (Qa hXN hXL);have HS:=Qh (hst.kept ((Keep.refl _ wr).alloc (.cells #[.int .i64 dr,.slice oK nK cK,.slice oF nF cF] 82)));have HLG:=Qh (z1N HS.pr);clear hcs hcs2 he hcb hjk hoe hsp hnx hX hE hXN hXL hvK hvF hnK hnF hpc hdr hst hjl hgl;by_cases hlong:65536<X.length
      ·rw[decide_eq_true hlong]at HLG;have HLL:=Qh hlong;clear hlong;go_wp2_with(go_at_call 31;refine HLG.mono ?_;rintro e w' ⟨rfl,rfl⟩);refine bodyPost_ret (results_none rfl _ _ _) rfl ?_;exact⟨rfl,X,⟨own8,v8,HS.pr,HS.tt⟩,Or.inr ⟨HLL.out,Nat.lt_of_lt_of_le HLL.out HX.2.2⟩⟩
      ·rw[decide_eq_false hlong]at HLG
       clear hlong;go_wp2_with(first
        |(go_at_call 31;refine HLG.mono ?_;rintro e w' ⟨rfl,rfl⟩)
        |(go_at_call 67;refine(HPC.out _ HS.out).mono ?_;rintro e w' ⟨rfl,hpt⟩;obtain⟨own9,v9,hs9⟩:=HS.step hpt;have HS:=Qh hs9;clear hpt hs9))
       (go_roundg(gk-1);all_goals first|omega|skip);exact⟨j+1,by omega,by simp,own9,v9,by rw[HX.1];exact HS.out⟩
     ·obtain rfl:j=n4:=(by omega);have hjI:¬(j:Int)<(j:Int):=(by omega);rw[List.take_of_length_le (by rw[HC.2.2.2.1];exact Nat.le_refl _)]at hst;have HS:=Qh hst;clear hst;go_wp2_with fail;refine bodyPost_ret (results_none rfl _ _ _) rfl ?_;exact⟨rfl,_,⟨own8,v8,HS.pr,HS.tt⟩,Or.inl HF2.1.symm⟩
   ·have h3I:(0:Int)<(n3:Int):=by omega
    obtain⟨iS,hi0,hi1,hi2,hi3⟩:=z8G;have HI:=Qh (Qa hi0 (Qa hi1 (Qa hi2 hi3)));clear hi0 hi1 hi2 hi3;obtain⟨wB,hwB⟩:=Qx wr;rw[hwB]at HS k11 k13⊢
    obtain⟨q2,hq2⟩:=Qx wB.heap.size;have HQ2:=Qh hq2;have HR0:=Qh (z8o wB q2 9 ([[112,105,99,107,115]].map qE) (by omega) (by unfold maxLen;simp));have HNow:=Qh ((Keep.refl (fun _=>False) wB).alloc (.cells #[.string ⟨#[112,105,99,107,115]⟩] 9));have k11:=zj HNow.out k11;clear hwB hq2;go_wp2_with fail;go_loopg[9,11,93] n3 (fun gq s9 s11 s93 wx=>∃i:Nat,gq+i=n3/\s93=.int .i64 (i:Int)/\Hid (wx.ownsRow q2 9 1 s9 (i+1) (([112,105,99,107,115]::(m.ps.take i).map zl).map qE)/\Keep (fun _=>False) wB wx))
    case atStart=>exact⟨0,by omega,rfl,HR0.out,HNow.out⟩
    case round=>
     obtain⟨i,hgj,rfl,hrow,hkp⟩:=hrel;have HK:=Qh (Qa hrow hkp);by_cases hj:i<n3
     ·have hjI:(i:Int)<(n3:Int):=by omega
      have hj0:(0:Int)<=(i:Int):=(by omega);have hjl:i<m.ps.length:=(by rw[HC.2.2.1];exact hj);obtain⟨o',c',e',-,hcs,-⟩:=HH.2.2.2.2.1.ps;rw[HC.2.2.2.2.2.2.1,HC.2.2.1]at e';cases e';obtain⟨g,f,rfl,hc,hl⟩:=hcs i (by simpa using hjl);have cg:wr.cell? ⟨g,f+i,none⟩=some (.int .i64 m.ps[i]):=(by rw[((HS.pn.keep.trans hkp).cell (p:=⟨g,f+i,none⟩) hl id).trans hc,List.getElem?_map,List.getElem?_eq_getElem hjl];rfl);have hok:=HH.2.2.2.1.picks _ (List.getElem_mem hjl);have htk:m.ps.take (i+1)=m.ps.take i++[m.ps[i]]:=(by rw[List.take_add_one,List.getElem?_eq_getElem hjl];rfl);have hsn:[112,105,99,107,115]::(m.ps.take (i+1)).map zl=([112,105,99,107,115]::(m.ps.take i).map zl)++[zl m.ps[i]]:=(by rw[htk];simp only[List.map_append,List.map_cons,List.map_nil,List.cons_append]);obtain⟨z,hz⟩:=Qx (m.ps[i]);rw[hz]at cg hok hsn;obtain⟨sN,hsN⟩:=Qx (zl z);have HD2:=Qh (fun W hE=>z0W z N0 W hE hok);rw[hsN]at HD2 hsn;have HSN:=Qh hsn;have hev1:=Qh (HEV.kept (HS.pn.keep.trans hkp).none);have HN1:=Qh (Keep.refl (fun _=>False) wr);clear hrow hkp hcs hc hl hok htk hsn hz hsN hjl;go_wp2_with(first
       |(go_at_call 62;refine(HD2.out _ (hev1.out.kept HN1.none)).mono ?_;rintro e' w' ⟨rfl,kx⟩;have HN1:=Qh (HN1.trans kx);clear kx)
       |(at_builtin;refine wpList_append_own_at _ rfl (.tmp 97) (.tmp 100) 22 rfl q2 9 iS _ 1 16 Tryz.underlying22 HI.1 HI.2.1 HI.2.2.1 HI.2.2.2 rfl (by decide) _ (i+1) _ rfl (zf HK.1 (HN1.alloc _) fun _ _=>id) ⟨_,0,none⟩ 1 1 [.string (zc sN)] rfl rfl (cell_one_new _ _ _) (by simp[Value.oneCell']) (by unfold maxLen;omega) (by omega) (by have:=HN1.size;have:=HK.2.size;have:=HQ2.out;simp;omega) ?_;intro v4 w4 hown hgr _ _;have HQ:=Qh (Qa hown (z1S (zf HK.1 HN1.out fun _ _=>id) hgr));clear hown hgr))
      go_roundg(gk-1);all_goals first|omega|skip
      case rel=>
       refine⟨i+1,by omega,by simp,?_,(HK.2.trans HN1.out).own HQ.2 fun i hi=>Or.inr (by have:=HQ2.out;omega)⟩;have h:=HQ.1;rw[HSN.out,List.map_append];exact h
     ·obtain rfl:i=n3:=by omega
      have hjI:¬(i:Int)<(i:Int):=(by omega);rw[List.take_of_length_le (by rw[HC.2.2.1];exact Nat.le_refl _)]at hrow;obtain⟨ws,hws⟩:∃ws,[112,105,99,107,115]::m.ps.map zl=ws:=⟨_,rfl⟩;have hwl:ws.length=i+1:=(by rw[<-hws];simp[HC.2.2.1]);have hpS:qt m.ps=ye ws:=(by unfold qt;rw[if_neg (fun e=>h3 (by rw[<-HC.2.2.1,e];rfl)),hws]);rw[hws]at hrow;rw[<-hwl]at hrow;have hbase:=hrow;obtain⟨o,cap,rfl,-,hcap,hwat⟩:=qh.of_row hrow;obtain⟨g,f,rfl,-,hgl⟩:=hwat 0 (by omega);have hgb:q2<=g:=by
       rcases hbase.2 with⟨h1,-⟩|⟨g',c',cur,h1,h2,-⟩
       ·cases h1
       ·cases h1;exact h2
      have hS2:=HS.kept hkp;have hgo:own5 g=none:=HS.pr.past (by have:=HQ2.out;omega);have HF2:=Qh (show zT m.play=(A1++ye ws)++m.es.flatMap xW/\((A1++ye ws)++m.es.flatMap xW).length<=1099511627776 from by
       have h:=HF1.out;rw[hpS]at h;exact h)
      have hB:=HF2.2;have HPU:=Qh (xp g f cap ws hS2.pr hwat hgo hcap (by omega) (by rw[List.length_append]at hB;omega));rw[hwl]at HPU⊢
      have HS:=Qh hS2;obtain⟨A2,hA2⟩:=Qx (A1++ye ws);rw[hA2]at HPU HF2;clear hrow HK hws hwl hpS hbase hcap hwat hgl hgb hgo hS2 hB hkp HF1 k11 k13 hA2;go_wp2_with(go_at_call 61;refine HPU.mono ?_;rintro e' w2 ⟨rfl,hpt⟩;obtain⟨own7,v7,hs7⟩:=HS.step hpt;have HS:=Qh hs7;have k13:=HS.cell (i:=13) (u:=.slice o4 n4 c4) rfl;clear hpt hs7);go_loopg[13,109] n4 (fun gq s13 s109 wx=>∃j:Nat,gq+j=n4/\s109=.int .i64 (j:Int)/\Hid (∃own' v',St w0 w own q xb 40 #[.int .i64 x0,.int .i64 x1,.int .i64 x2,.int .i64 x3,.int .i64 x4,.int .i64 x5,.int .i64 x6,.float .f64 x7,.float .f64 x8,.slice o1 n1 c1,.slice o2 k c2,.slice o3 i c3,.int .i64 x9,.slice o4 n4 c4] wx own' v' (A2++(m.es.take j).flatMap xW)))
      case atStart=>exact⟨0,by omega,rfl,own7,v7,by simpa using HS.out⟩
      case round=>
       obtain⟨j,hgj,rfl,own8,v8,hst⟩:=hrel;have k13:=hst.cell (i:=13) (u:=.slice o4 n4 c4) rfl;by_cases hj:j<n4
       ·have hjI:(j:Int)<(n4:Int):=by omega
        have hj0:(0:Int)<=(j:Int):=(by omega);have hjl:j<m.es.length:=(by rw[HC.2.2.2.1];exact hj);obtain⟨o',c',e',-,hcs,-⟩:=HH.2.2.2.2.1.es;rw[HC.2.2.2.2.2.2.2,HC.2.2.2.1]at e';cases e';obtain⟨g,f,rfl,hgl⟩:=hcs.some (by rw[zB _ 3 (fun _=>rfl)];omega);have hcs2:=hcs.kept hst.pn.keep;have d0:=hcs2.get 3 (fun _=>rfl) (List.getElem?_eq_getElem hjl) 0 (by omega);have d1:=hcs2.get 3 (fun _=>rfl) (List.getElem?_eq_getElem hjl) 1 (by omega);have d2:=hcs2.get 3 (fun _=>rfl) (List.getElem?_eq_getElem hjl) 2 (by omega);unfold ME.cells at d0 d1 d2;simp at d0 d1 d2;have he:=HH.2.2.2.2.1.ends _ (List.getElem_mem hjl);have hcb:=HH.2.2.2.2.2.1.2.2.2.2.2 _ (List.getElem_mem hjl);have hjk:=HH.2.2.2.2.2.2.1.2 _ (List.getElem_mem hjl);have hoe:=HH.2.2.2.1.ends _ (List.mem_map.2 ⟨_,List.getElem_mem hjl,rfl⟩);have hsp:=z0n xW m.es j hjl;have hnx:=z0U xW m.es j hjl;obtain⟨X,hX⟩:=Qx (A2++(m.es.take j).flatMap xW);obtain⟨E,hE⟩:=Qx (m.es[j]);rw[hE]at d0 d1 d2 he hcb hjk hoe hsp hnx;have hXN:A2++(m.es.take (j+1)).flatMap xW=X++xI E.reopen:=(by rw[hnx,<-hX,List.append_assoc];rfl);have hXL:(X++xI E.reopen).length<=1099511627776/\X.length<=(zT m.play).length:=by
         have h1:=HF2.2;rw[HF2.1,<-hX];rw[hsp]at h1⊢
         unfold xW at h1⊢
         simp only[List.length_append]at h1⊢
         omega
        rw[hX]at hst;obtain⟨oK,cK,hvK⟩:=he.keeps.val;obtain⟨oF,cF,hvF⟩:=he.faults.val;obtain⟨nK,hnK⟩:=Qx E.ks.length;obtain⟨nF,hnF⟩:=Qx E.fs.length;have hpc:=fun(W:World) (hS:St w0 w own q xb 40 #[.int .i64 x0,.int .i64 x1,.int .i64 x2,.int .i64 x3,.int .i64 x4,.int .i64 x5,.int .i64 x6,.float .f64 x7,.float .f64 x8,.slice o1 n1 c1,.slice o2 k c2,.slice o3 i c3,.int .i64 x9,.slice (some ⟨g,f,none⟩) n4 c4] W own8 v8 X)=>z6d N0 E hS.pr (HEV.kept hS.pn.keep.none) (fun g hg=>Nat.le_trans HEV.le (hS.pn.low g hg)) (he.kept hS.pn.keep) (fun h0=>hS.pn.free he.faults (by unfold fsv;rw[zB _ 3 (fun _=>rfl)];omega)) hoe ⟨hcb.2,hcb.1,hjk⟩ hXL.1;rw[hvK,hvF,hnK,hnF]at hpc;rw[hvK,hnK]at d1;rw[hvF,hnF]at d2;obtain⟨dr,hdr⟩:=Qx E.dir;rw[hdr]at hpc d0;have HPC:=Qh hpc;have HX:=Qh (Qa hXN hXL);have HS:=Qh (hst.kept ((Keep.refl _ wr).alloc (.cells #[.int .i64 dr,.slice oK nK cK,.slice oF nF cF] 82)));have HLG:=Qh (z1N HS.pr);clear hcs hcs2 he hcb hjk hoe hsp hnx hX hE hXN hXL hvK hvF hnK hnF hpc hdr hst hjl hgl;by_cases hlong:65536<X.length
        ·rw[decide_eq_true hlong]at HLG;have HLL:=Qh hlong;clear hlong;go_wp2_with(go_at_call 31;refine HLG.mono ?_;rintro e w' ⟨rfl,rfl⟩);refine bodyPost_ret (results_none rfl _ _ _) rfl ?_;exact⟨rfl,X,⟨own8,v8,HS.pr,HS.tt⟩,Or.inr ⟨HLL.out,Nat.lt_of_lt_of_le HLL.out HX.2.2⟩⟩
        ·rw[decide_eq_false hlong]at HLG
         clear hlong;go_wp2_with(first
          |(go_at_call 31;refine HLG.mono ?_;rintro e w' ⟨rfl,rfl⟩)
          |(go_at_call 67;refine(HPC.out _ HS.out).mono ?_;rintro e w' ⟨rfl,hpt⟩;obtain⟨own9,v9,hs9⟩:=HS.step hpt;have HS:=Qh hs9;clear hpt hs9))
         (go_roundg(gk-1);all_goals first|omega|skip);exact⟨j+1,by omega,by simp,own9,v9,by rw[HX.1];exact HS.out⟩
       ·obtain rfl:j=n4:=(by omega);have hjI:¬(j:Int)<(j:Int):=(by omega);rw[List.take_of_length_le (by rw[HC.2.2.2.1];exact Nat.le_refl _)]at hst;have HS:=Qh hst;clear hst;go_wp2_with fail;refine bodyPost_ret (results_none rfl _ _ _) rfl ?_;exact⟨rfl,_,⟨own8,v8,HS.pr,HS.tt⟩,Or.inl HF2.1.symm⟩
theorem z0R:(Tryz.prog.info? 40).map (·.size)=some 14:=by kernel_rfl
theorem qZ{ops:Array Oper}{rest:List Oper}{o:Oper}{a:Act}{w:World}{Q:Exit->Act->World->Prop}(hgd:o.guard=none)(x:Operand)(ho:o.op=.load 40 x)(g:Nat)(hx:a.eval x=.pointer (some ⟨g,0,none⟩))(cs:Array Value)(hs:cs.size=14)(hg:w.heap[g]?=some (.cells cs 40 (0,0)))
  (h:wpList Tryz.prog ops Q rest (a.put o.dst (.agg cs)) w):wpList Tryz.prog ops Q (o::rest) a w:=
 wpList_load_row hgd 40 x ho g hx 40 cs (0,0) _ hg Tryz.underlying40 rfl (by rw[hs];exact z0R) h
theorem z0C{ops:Array Oper}{rest:List Oper}{o:Oper}{a:Act}{w:World}{Q:Exit->Act->World->Prop}(hw:Region.wanted o (yielded ops a.tmps)=true)(x:Operand)(ho:o.op=.load 40 x)(g:Nat)(hx:a.eval x=.pointer (some ⟨g,0,none⟩))(cs:Array Value)(hs:cs.size=14)(hg:w.heap[g]?=some (.cells cs 40 (0,0)))
  (h:wpList Tryz.prog ops Q rest (a.put o.dst (.agg cs)) w):wpList Tryz.prog ops Q (o::rest) a w:=by
 unfold wpList;rw[if_pos hw];exact Or.inl (wp_load_row 40 x ho g hx 40 cs (0,0) _ hg Tryz.underlying40 rfl (by rw[hs];exact z0R) h)
theorem qV{ops:Array Oper}{rest:List Oper}{o:Oper}{a:Act}{w:World}{Q:Exit->Act->World->Prop}(hgd:o.guard=none)(x y:Operand)(ho:o.op=.store 40 x y)(g:Nat)(cells:Array Value)(hx:a.eval x=.pointer (some ⟨g,0,none⟩))(hy:a.eval y=.agg cells)(hs:cells.size=14)(old:Array Value)(ho2:old.size=14)
  (hg:w.heap[g]?=some (.cells old 40 (0,0)))(h1:cells.all (·.oneCell')=true)(h:wpList Tryz.prog ops Q rest (a.put o.dst undef) (w.setRow g cells)):wpList Tryz.prog ops Q (o::rest) a w:=
 z22 hgd 40 x y ho g cells hx hy 40 old hg (by rw[hs];exact z0R) (by rw[ho2,hs]) h1 h
theorem M.val_size(m:M):m.val.size=14:=rfl
theorem Seen.val_one{w:World}{m:M}(h:Seen w m):m.val.all (·.oneCell')=true:=by obtain⟨o1,c1,hv1⟩:=h.fs.val;obtain⟨o2,c2,hv2⟩:=h.ts.val;obtain⟨o3,c3,hv3⟩:=h.ps.val;obtain⟨o4,c4,hv4⟩:=h.es.val;unfold M.val;rw[hv1,hv2,hv3,hv4];simp[Value.oneCell']
def xF(p:Play):Str×Int:=if qr p=true then([],9)else if yY p=false then([],1)else if 65536<(zT p).length then([],3)else(zT p,0)
structure PrOk (m:M):Prop where
 ok:PlayOk m.play
 len:m.fs.length<=1099511627776/\m.ts.length<=1099511627776/\m.ps.length<=1099511627776/\m.es.length<=1099511627776
 dat:(∀t∈m.ts,∀c∈t.l,c.c.data.length<=1073741824)/\∀e∈m.es,∀k∈e.ks,k.k.junk.length<=1073741824
 full:qr m.play=false->yY m.play=true->(zT m.play).length<=1099511627776
theorem z1L{m:M}(h:qr m.play=false):m.fs.length<=64/\m.ts.length<=16/\(∀t∈m.ts,t.l.length<=256)/\m.ps.length<=65536/\m.es.length<=16/\∀e∈m.es,e.fs.length<=64/\e.ks.length<=256:=by
 unfold qr at h;rw[Bool.or_eq_false_iff,Bool.or_eq_false_iff,decide_eq_false_iff_not,List.any_eq_false,List.any_eq_false]at h;obtain⟨⟨h1,h2⟩,h3⟩:=h;have e1:m.play.tasks.length=m.ts.length:=(by simp[M.play]);have e2:m.play.ends.length=m.es.length:=(by simp[M.play]);have e3:m.play.faults.length=m.fs.length:=rfl;have e4:m.play.picks.length=m.ps.length:=rfl;rw[e1,e2,e3,e4]at h1;refine⟨by omega,by omega,fun t ht=>?_,by omega,by omega,fun e he=>?_⟩
 ·have:=h2 _ (List.mem_map.2 ⟨t,ht,rfl⟩);simp at this;omega
 ·have:=h3 _ (List.mem_map.2 ⟨e,he,rfl⟩);simp[ME.reopen]at this;omega
theorem z9x(m:M)(w:World)(hE:Ev w.heap.size w)(h:Seen w m)(hP:PrOk m):
  Calls Tryz.prog 14 #[.agg m.val] w fun e w'=>e=.returned (.tuple #[.string (zc (xF m.play).1),.int .i64 (xF m.play).2])/\Keep (fun _=>False) w w':=by
 obtain⟨q,hq⟩:=Qx w.heap.size;have k0:Keep (fun _=>False) w (w.alloc (.cells m.val 40)):=(Keep.refl _ w).alloc _;have hb0:(w.alloc (.cells m.val 40)).heap[q]?=some (.cells m.val 40 (0,0)):=(by rw[<-hq];exact zm _ _);have HMA:=Qh (zbC m _ (h.kept k0) hP.len);have HPF:=Qh (show xF m.play=(if qr m.play=true then([],9)else if yY m.play=false then([],1)else if 65536<(zT m.play).length then([],3)else(zT m.play,0))from rfl);have HH:=Qh (Qa hE (Qa h (Qa hP hq)));obtain⟨W0,hW0⟩:=Qx (w.alloc (.cells m.val 40));rw[hW0]at k0 hb0 HMA;have HB:=Qh (Qa k0 hb0);have HNow:=Qh (Keep.refl (fun _=>False) W0);have HKN:=Qh (fun(hm:qr m.play=false) (w':World) (k:Keep (fun _=>False) w w')=>z9T m w' (h.kept k) (by have:=z1L hm;exact⟨this.1,this.2.1,this.2.2.1,this.2.2.2.2.1,fun e he=>(this.2.2.2.2.2 e he).1⟩));have hs:=M.val_size m;clear hE h hP k0 hb0;generalize hcs:m.val=cs at*
 have HCS:=Qh hcs;clear hcs;by_cases hm:qr m.play=true
 ·have HX:=Qh (show xF m.play=([],9)from by rw[HPF.out,if_pos hm])
  rw[hm]at HMA;clear hm HKN;go_in;go_wp2_with(first
   |(refine yO (.tmp 1) 40 (by rfl) ?_;go_must(refine qZ rfl (.tmp 1) rfl q rfl cs hs (HNow.same HB.2 id) ?_))
   |(go_at_call 28;refine HMA.mono ?_;rintro e w' ⟨rfl,kx⟩;have HNow:=Qh kx;clear kx))
  go_ret2;exact⟨by rw[HX.out];rfl,HB.1.trans HNow.out⟩
 have hm2:qr m.play=false:=(by simpa using hm);have HKN:=Qh (HKN.out hm2);have HPF:=Qh (show xF m.play=(if yY m.play=false then([],1)else if 65536<(zT m.play).length then([],3)else(zT m.play,0))from by rw[HPF.out,if_neg hm]);have HMN:=Qh hm2;rw[hm2]at HMA;clear hm hm2;by_cases hk:yY m.play=true
 ·have HPF:=Qh (show xF m.play=(if 65536<(zT m.play).length then([],3)else(zT m.play,0))from by rw[HPF.out,if_neg (by rw[hk];decide)])
  have HFL:=Qh (HH.2.2.1.full HMN.out hk);rw[hk]at HKN;clear hk;go_in;go_upto_region 6 with(first
   |(refine yO (.tmp 1) 40 (by rfl) ?_;go_must(refine qZ rfl (.tmp 1) rfl q rfl cs hs (HNow.same HB.2 id) ?_))
   |(go_at_call 28;refine HMA.mono ?_;rintro e w' ⟨rfl,kx⟩;have HNow:=Qh kx;clear kx)
   |(go_at_call 29;refine(HKN.out _ (HB.1.trans HNow.out)).mono ?_;rintro e w' ⟨rfl,kx⟩;have HNow:=Qh (HNow.trans kx);clear kx))
  obtain⟨xb,hxb⟩:=Qx w'.heap.size;obtain⟨W2,hW2⟩:=Qx (w'.alloc (.cells #[.slice none 0 0] 89));have hbx:W2.heap[xb]?=some (.cells #[.slice none 0 0] 89 (0,0)):=(by rw[<-hW2,<-hxb];exact zm _ _);have hsz:W2.heap.size=xb+1:=(by rw[<-hW2,<-hxb];simp);have k3:Keep (fun _=>False) w' W2:=(by rw[<-hW2];exact(Keep.refl _ w').alloc _);have k2:Keep (fun _=>False) w W2:=(HB.1.trans HNow.out).trans k3;have hlow:w.heap.size<=xb:=(by rw[<-hxb];exact(HB.1.trans HNow.out).size);have hown:∀g,(fun g=>if g=xb then some (0,0,0)else none) g≠none->g=xb:=fun g hg=>by
   by_cases h:g=xb
   ·exact h
   ·simp[h]at hg
  have hpr:Pr W2 (fun g=>if g=xb then some (0,0,0)else none) xb (.slice none 0 0) []:=⟨fun g hg=>by have:=hown g hg;omega,hbx,by simp,RowT.nil _ _ _ _ _⟩;have hpn:Pn w W2 (fun g=>if g=xb then some (0,0,0)else none):=⟨k2,fun g hg=>by have:=hown g hg;omega⟩;have HAL:=Qh (ze8 w.heap.size m hpr hpn HH.1 HH.2.2.1.ok HH.2.1 (z1L HMN.out) HH.2.2.1.dat HFL.out);rw[HCS.out]at HAL;rw[hW2,hxb];have HK2:=Qh (Qa k2 (Qa hlow hown));have HNow:=Qh (HNow.trans k3);clear hbx hsz k3 k2 hlow hown hpr hpn hxb hW2;go_upto_region 7 with(first
   |(refine yO (.tmp 1) 40 (by rfl) ?_;go_must(refine qZ rfl (.tmp 1) rfl q rfl cs hs (HNow.same HB.2 id) ?_))
   |(go_at_call 30;refine HAL.mono ?_;rintro e w3 ⟨rfl,B',⟨own3,v3,hp3,ht3⟩,hB⟩;have HQ:=Qh (Qa hp3 (Qa ht3 hB));clear hp3 ht3 hB))
  have HKF:=Qh (show Keep (fun _=>False) w w3 from HK2.1.own HQ.2.1.keep fun i hi=>Or.inr (by have:=HK2.2.2 i hi;have:=HK2.2.1;omega));have HLG:=Qh (z1N HQ.1);by_cases hl:65536<B'.length
  ·have HX:=Qh (show xF m.play=([],3)from by
    rw[HPF.out,if_pos];rcases HQ.2.2 with h|h
    ·rw[<-h];exact hl
    ·exact h.2)
   rw[decide_eq_true hl]at HLG;clear hl;go_wp2_with(go_at_call 31;refine HLG.mono ?_;rintro e w' ⟨rfl,rfl⟩);go_ret2;exact⟨by rw[HX.out];rfl,HKF.out⟩
  ·have hB:B'=zT m.play:=by
    rcases HQ.2.2 with h|h
    ·exact h
    ·exact absurd h.1 hl
   have HX:=Qh (show xF m.play=(B',0)from by rw[HPF.out,<-hB,if_neg hl]);rw[decide_eq_false hl]at HLG;have c0:=za HQ.1.blk 0;simp at c0;have hcv:=z6M HQ.1.row.row;clear hl hB;go_wp2_with(go_at_call 31;refine HLG.mono ?_;rintro e w' ⟨rfl,rfl⟩);go_ret2;exact⟨by rw[HX.out];rfl,HKF.out⟩
 ·have hk2:yY m.play=false:=by simpa using hk
  have HX:=Qh (show xF m.play=([],1)from by rw[HPF.out,if_pos hk2]);rw[hk2]at HKN;clear hk hk2;go_in;go_wp2_with(first
   |(refine yO (.tmp 1) 40 (by rfl) ?_;go_must(refine qZ rfl (.tmp 1) rfl q rfl cs hs (HNow.same HB.2 id) ?_))
   |(go_at_call 28;refine HMA.mono ?_;rintro e w' ⟨rfl,kx⟩;have HNow:=Qh kx;clear kx)
   |(go_at_call 29;refine(HKN.out _ (HB.1.trans HNow.out)).mono ?_;rintro e w' ⟨rfl,kx⟩;have HNow:=Qh (HNow.trans kx);clear kx))
  go_ret2;exact⟨by rw[HX.out];rfl,HB.1.trans HNow.out⟩
end Sc
end Go.Proofs.YtkkecpamnnojoaaGreatDoor
namespace Go.Proofs.YtkkecpamnnojoaaGreatDoor
open Go.ChangeShapes Go.WideShapes Go.ChangeAt Go.RowKit
namespace Sc
theorem ze1:yC 32=true:=by decide
theorem z5l(n:Nat)(a b:Str):has n (a++b)=(has n a||has n b):=by unfold has;rw[List.any_append]
theorem z4T(n:Nat)(a b:Str)(h:has n a=false):ya n (a++b)=a++ya n b:=by
 induction a with
 |nil=>rfl
 |cons c a ih=>
  rw[qD]at h;have h1:¬c.toNat=n:=(by intro e;simp[e]at h);rw[List.cons_append,yA,if_neg h1,ih (by simpa[h1]using h)];rfl
theorem z3K(n:Nat)(a b:Str)(h:has n a=false):yt n (a++b)=yt n b:=by
 induction a with
 |nil=>rfl
 |cons c a ih=>
  rw[qD]at h;have h1:¬c.toNat=n:=(by intro e;simp[e]at h);rw[List.cons_append,yG,if_neg h1,ih (by simpa[h1]using h)]
theorem zbF(a b:Str)(h:has 10 a=false):zA (a++10::b)=a::zA b:=by rw[z2f (by simp),z4T 10 a _ h,z3K 10 a _ h,yA,yG,if_pos (by decide),if_pos (by decide),List.append_nil]
def gc(c:UInt8):Bool:=decide (33<=c.toNat)&&decide (c.toNat<=126)&&decide (c.toNat≠35)
def gw(w:Str):Bool:=decide (w≠[])&&w.all gc
theorem z6y{w:Str}(h:w≠[])(h2:∀c∈w,33<=c.toNat/\c.toNat<=126/\c.toNat≠35):gw w=true:=by unfold gw;rw[decide_eq_true h,Bool.true_and,List.all_eq_true];intro c hc;obtain⟨h1,h2,h3⟩:=h2 c hc;simp[gc,h1,h2,h3]
theorem zc4{w:Str}(h:gw w=true):w≠[]:=by unfold gw at h;simp at h;exact h.1
theorem zc5{w:Str}(h:gw w=true):∀c∈w,33<=c.toNat/\c.toNat<=126/\c.toNat≠35:=by intro c hc;unfold gw at h;simp at h;have:=h.2 c hc;unfold gc at this;simp at this;omega
theorem z7W{c:UInt8}(h:gc c=true):yC c=false/\okB c=true/\c.toNat≠35/\c.toNat≠10:=by unfold gc at h;simp at h;obtain⟨⟨h1,h2⟩,h3⟩:=h;have hb:yC c=false:=(by unfold yC;have e1:decide (c.toNat=32)=false:=(by rw[decide_eq_false_iff_not];omega);have e2:decide (c.toNat=9)=false:=(by rw[decide_eq_false_iff_not];omega);rw[e1,e2];rfl);refine⟨hb,?_,h3,by omega⟩;unfold okB;rw[hb,decide_eq_true h1,decide_eq_true h2];rfl
theorem z5y(w:Str)(hw:w.all gc=true):∀(cur s:Str),wsp cur (w++s)=wsp (cur++w) s:=by
 induction w with
 |nil=>intro cur s;simp
 |cons c w ih=>
  intro cur s;rw[List.all_cons,Bool.and_eq_true]at hw;rw[List.cons_append,z5A (z7W hw.1).1,ih hw.2];simp
theorem z5z:∀(ws:List Str) (cur:Str),cur≠[]->(∀w∈ws,gw w=true)->wsp cur (ws.flatMap (fun x=>32::x))=cur::ws
 |[],cur,h,_=>by rw[List.flatMap_nil,wsp,if_neg h]
 |w::ws,cur,h,hg=>by have h1:=hg w (by simp);have h2:w.all gc=true:=(by unfold gw at h1;rw[Bool.and_eq_true]at h1;exact h1.2);rw[List.flatMap_cons,List.cons_append,z45 ze1 h,z5y w h2,List.nil_append,z5z ws w (zc4 h1) fun x hx=>hg x (List.mem_cons_of_mem _ hx)]
theorem z8W(w:Str)(ws:List Str)(h:∀x∈w::ws,gw x=true):zu (bod (w::ws))=w::ws:=by have h1:=h w (by simp);have h2:w.all gc=true:=(by unfold gw at h1;rw[Bool.and_eq_true]at h1;exact h1.2);unfold zu bod;rw[z5y w h2,List.nil_append,z5z ws w (zc4 h1) fun x hx=>h x (List.mem_cons_of_mem _ hx)]
theorem z4R(ws:List Str)(h:∀x∈ws,gw x=true):∀c∈bod ws,c=32\/gc c=true:=by
 have key:∀w,gw w=true->∀c∈w,gc c=true:=fun w hw c hc=>(by unfold gw at hw;simp at hw;exact hw.2 c hc);cases ws with
 |nil=>intro c hc;simp[bod]at hc
 |cons w r=>
  intro c hc;unfold bod at hc;rcases List.mem_append.1 hc with hc|hc
  ·exact Or.inr (key w (h w (by simp)) c hc)
  ·obtain⟨x,hx,hc⟩:=List.mem_flatMap.1 hc
   rcases List.mem_cons.1 hc with rfl|hc
   ·exact Or.inl rfl
   ·exact Or.inr (key x (h x (List.mem_cons_of_mem _ hx)) c hc)
theorem z8O(ws:List Str)(h:∀x∈ws,gw x=true)(n:Nat)(hn:n=35\/n=10):has n (bod ws)=false:=by
 unfold has;rw[List.any_eq_false];intro c hc;rcases z4R ws h c hc with rfl|hg
 ·rcases hn with rfl|rfl<;>decide
 ·have:=z7W hg;rcases hn with rfl|rfl<;>simp<;>omega
theorem zf9(ws:List Str)(h:∀x∈ws,gw x=true):(bod ws).all okB=true:=by
 rw[List.all_eq_true];intro c hc;rcases z4R ws h c hc with rfl|hg
 ·decide
 ·exact(z7W hg).2.1
noncomputable def z0u(σ:PS)(w:Str)(ws:List Str):Except Int PS:=
 if zk w=0 then .error 65
 else if nxt σ.st (zk w)=6\/(zk w=5/\σ.p.tasks=[])then .error 63
 else if full σ.p (zk w) ws.length=true then .error 9
 else if zF (zk w) w ws.length=false then .error 64
 else match zH σ.p (zk w) w ws with
  | .error e=>.error e
  | .ok p=>.ok ⟨p,nxt σ.st (zk w)⟩
theorem z6p(σ:PS)(w:Str)(ws:List Str)(h:∀x∈w::ws,gw x=true):yd σ (bod (w::ws))=z0u σ w ws:=by have h1:yn (bod (w::ws))=bod (w::ws):=(by rw[z8S];exact xa 35 (z8O _ h 35 (Or.inl rfl)));unfold yd z0u;rw[h1,zf9 _ h,if_neg (by decide),z8W w ws h];all_goals rfl
theorem z9Q(ws:List Str)(h:∀x∈ws,gw x=true)(s:Str):zA (ye ws++s)=bod ws::zA s:=by unfold ye;rw[List.append_assoc,List.singleton_append,zbF _ _ (z8O ws h 10 (Or.inr rfl))]
noncomputable def qs(σ:PS):List (List Str)->Except Int PS
 |[]=>.ok σ
 |[]::l=>.error 1
 |(w::ws)::l=>match z0u σ w ws with
  | .error e=>.error e
  | .ok σ'=>qs σ' l
theorem z02(σ:PS)(a b:List (List Str))(σ':PS)(h:qs σ a=.ok σ'):qs σ (a++b)=qs σ' b:=by
 induction a generalizing σ with
 |nil=>cases h;rfl
 |cons x a ih=>
  cases x with
  |nil=>cases h
  |cons w ws=>
   rw[List.cons_append,qs];rw[qs]at h;cases hs:z0u σ w ws with
   |error e=>rw[hs]at h;cases h
   |ok σ2=>rw[hs]at h;exact ih σ2 h
theorem z9E(L:List (List Str))(hg:∀ws∈L,∀x∈ws,gw x=true):∀(σ σ':PS) (n:Nat),qs σ L=.ok σ'->zC σ n (zA (L.flatMap ye))=.ok σ':=by
 induction L with
 |nil=>intro σ σ' n h;cases h;rfl
 |cons x L ih=>
  intro σ σ' n h;cases x with
  |nil=>cases h
  |cons w ws=>
   rw[qs]at h;rw[List.flatMap_cons,z9Q _ (hg _ (by simp)),zC,z6p σ w ws (hg _ (by simp))];cases hs:z0u σ w ws with
   |error e=>rw[hs]at h;cases h
   |ok σ2=>
    rw[hs]at h;exact ih (fun ws hws=>hg ws (List.mem_cons_of_mem _ hws)) σ2 σ' (n+1) h
theorem z0h{σ:PS}{w:Str}{ws:List Str}{p:Play}(k:Int)(hk:zk w=k)(h0:k≠0)(hn:nxt σ.st k≠6)(hc:k=5->σ.p.tasks≠[])(hf:full σ.p k ws.length=false)(hcn:zF k w ws.length=true)(ht:zH σ.p k w ws=.ok p):z0u σ w ws=.ok ⟨p,nxt σ.st k⟩:=by unfold z0u;rw[hk,if_neg h0,if_neg (fun h=>h.elim hn fun h=>hc h.1 h.2),hf,if_neg (by decide),hcn,if_neg (by decide),ht]
theorem z5t(d:Nat)(h:d<10):(UInt8.ofNat (48+d)).toNat=48+d:=by rw[UInt8.toNat_ofNat'];omega
theorem z49(M:Nat)(A:Str)(d:Nat)(hd:d<10):∀(a v:Nat),Lib.parseUintM M a A=.ok v->v*10+d<=M->M<18446744073709551616->Lib.parseUintM M a (A++[UInt8.ofNat (48+d)])=.ok (v*10+d):=by
 induction A with
 |nil=>
  intro a v h hM hM2;rw[Lib.parseUintM]at h;cases h;rw[List.nil_append,Lib.parseUintM,z5t d hd,if_pos (by omega),if_neg (by omega),if_neg (by omega),Lib.parseUintM]
  congr 1
  omega
 |cons c A ih=>
  intro a v h hM hM2;rw[List.cons_append,Lib.parseUintM];rw[Lib.parseUintM]at h;split at h
  ·rename_i hc
   rw[if_pos hc];split at h
   ·cases h
   ·rename_i h1
    rw[if_neg h1];split at h
    ·cases h
    ·rename_i h2;rw[if_neg h2];exact ih _ v h hM hM2
  ·cases h
theorem z5G(M:Nat)(hM:M<18446744073709551616):∀u:Nat,u<=M->Lib.parseUintM M 0 (Lib.decDigits u)=.ok u:=by
 intro u
 induction u using Nat.strongRecOn with
 |ind u ih=>
  intro hu;rw[Lib.decDigits];split
  ·rename_i h;have:=z49 M [] u h 0 0 rfl (by omega) hM;simpa using this
  ·rename_i h
   have:=z49 M (Lib.decDigits (u/10)) (u%10) (by omega) 0 (u/10) (ih (u/10) (by omega) (by omega)) (by omega) hM;rw[this]
   congr 1
   omega
theorem z0b:∀u:Nat,∀c∈Lib.decDigits u,48<=c.toNat/\c.toNat<=57:=by
 intro u
 induction u using Nat.strongRecOn with
 |ind u ih=>
  intro c hc;rw[Lib.decDigits]at hc;split at hc
  ·rename_i h
   simp at hc;subst hc;have:=z5t u h;rw[show UInt8.ofNat (48+u)=UInt8.ofNat 48+UInt8.ofNat u from by simp]at this;simp at this⊢
   omega
  ·rename_i h
   rcases List.mem_append.1 hc with hc|hc
   ·exact ih (u/10) (by omega) c hc
   ·have:c=UInt8.ofNat (48+u%10):=(by simpa using hc);rw[this,z5t _ (by omega)];omega
theorem z2l(u:Nat):Lib.decDigits u≠[]:=by rw[Lib.decDigits];split<;>simp
theorem xr{n:Int}(h:IsI n):zh (zl n)=some n:=by
 have key:Lib.parseIntB 64 (Lib.itoa n)=.ok n:=by
  obtain⟨h1,h2⟩:=h;unfold Lib.itoa;by_cases hn:n<0
  ·rw[if_pos hn];obtain⟨u,hu⟩:=Qx n.natAbs;rw[hu];have hp:Lib.parseUintB 64 (Lib.decDigits u)=.ok u:=(by unfold Lib.parseUintB;rw[if_neg (z2l u)];exact z5G (2^64-1) (by decide) u (by omega));unfold Lib.parseIntB;have e45:(45:UInt8).toNat=45:=rfl;have c2:¬(2^(64-1)<u):=fun h=>(by simp at h;omega);simp only[e45,or_true,if_true,hp,not_true_eq_false,false_and,if_false,true_and,c2];have:-(u:Int)=n:=(by omega);rw[this]
  ·rw[if_neg hn]
   obtain⟨u,hu⟩:=Qx n.toNat;rw[hu];obtain⟨c,r,hcr⟩:∃c r,Lib.decDigits u=c::r:=by
    cases hd:Lib.decDigits u with
    |nil=>exact absurd hd (z2l u)
    |cons c r=>exact⟨c,r,rfl⟩
   have hc:=z0b u c (by rw[hcr];simp);have hp:Lib.parseUintB 64 (c::r)=.ok u:=(by unfold Lib.parseUintB;rw[if_neg (by simp),<-hcr];exact z5G (2^64-1) (by decide) u (by omega));rw[hcr];unfold Lib.parseIntB;simp only[];rw[if_neg (by omega),hp];simp only[];rw[if_neg (by simp;omega),if_neg (by omega),if_neg (by omega)]
   congr 1
   omega
 unfold zh zl;rw[key];simp
theorem yP(n:Int):gw (zl n)=true:=by
 unfold zl Lib.itoa;split
 ·refine z6y (by simp) fun c hc=>?_
  rcases List.mem_cons.1 hc with rfl|hc
  ·decide
  ·have:=z0b _ c hc;omega
 ·exact z6y (z2l _) fun c hc=>by have:=z0b _ c hc;omega
theorem z0c(n:Int):has 58 (zl n)=false:=by
 unfold has;rw[List.any_eq_false];intro c hc;have:c.toNat=45\/(48<=c.toNat/\c.toNat<=57):=by
  unfold zl Lib.itoa at hc;split at hc
  ·rcases List.mem_cons.1 hc with rfl|hc
   ·exact Or.inl rfl
   ·exact Or.inr (z0b _ c hc)
  ·exact Or.inr (z0b _ c hc)
 simp;omega
theorem qk{s:Str}{n:Int}(h:zh s=some n):IsI n:=by
 unfold zh at h;split at h
 ·rename_i v hv
  split at h
  ·cases h;have:=Lib.parseIntB_bounds hv;unfold IsI;simp at this;omega
  ·cases h
 ·cases h
theorem zc2:∀i:Fin 16,yT (z1l i.val)=i.val/\48<=(z1l i.val).toNat/\(z1l i.val).toNat<=102:=by decide+kernel
theorem z1Q(i:Nat)(h:i<16):yT (z1l i)=i/\48<=(z1l i).toNat/\(z1l i).toNat<=102:=zc2 ⟨i,h⟩
theorem z3b:∀b:Str,zL (b.flatMap xC)=some b
 |[]=>rfl
 |c::b=>by have hc:c.toNat<256:=c.toNat_lt;obtain⟨h1,-,-⟩:=z1Q (c.toNat/16) (by omega);obtain⟨h2,-,-⟩:=z1Q (c.toNat%16) (by omega);rw[List.flatMap_cons];show zL (z1l (c.toNat/16)::z1l (c.toNat%16)::b.flatMap xC)=_;rw[zL,h1,h2,if_neg (by omega),z3b b];simp only[Option.map_some,Int.toNat_natCast];rw[show c.toNat/16*16+c.toNat%16=c.toNat by omega];simp
theorem z2G(b:Str):(b.flatMap xC).length=2*b.length:=by
 induction b with
 |nil=>rfl
 |cons c l ih=>rw[List.flatMap_cons,List.length_append,ih];simp[xC];omega
theorem z6x(b:Str)(d:Bool)(h:b≠[]\/d=true):y9 (yB b) d=some b:=by
 unfold yB y9;by_cases hb:b=[]
 ·rw[if_pos hb];have hd:d=true:=h.resolve_left fun h=>h hb;rw[if_pos ⟨rfl,hd⟩,hb]
 ·rw[if_neg hb]
  have hl:=z2G b;have hp:0<b.length:=List.length_pos_iff.2 hb;rw[if_neg,if_neg,z3b]
  ·rintro(e|e)
   ·rw[e]at hl;simp at hl;omega
   ·omega
  ·rintro⟨e,-⟩;rw[e]at hl;simp at hl;omega
theorem z4u(b:Str):gw (yB b)=true:=by
 unfold yB;by_cases hb:b=[]
 ·rw[if_pos hb];decide
 ·rw[if_neg hb]
  refine z6y (fun e=>?_) fun c hc=>?_
  ·have:=z2G b;rw[e]at this;have hp:0<b.length:=List.length_pos_iff.2 hb;simp at this;omega
  ·obtain⟨x,hx,hc⟩:=List.mem_flatMap.1 hc
   have hxl:x.toNat<256:=x.toNat_lt;unfold xC at hc;rcases List.mem_cons.1 hc with rfl|hc
   ·have:=z1Q (x.toNat/16) (by omega);omega
   ·have hc:c=z1l (x.toNat%16):=(by simpa using hc);have:=z1Q (x.toNat%16) (by omega);rw[hc];omega
theorem z9H{b:Str}(h:b≠[]):yB b=b.flatMap xC:=by unfold yB;rw[if_neg h]
theorem z9U(k:Kp)(hn:IsI k.n)(hj:k.junk.length<=65536):yS (yH k)=.ok k:=by
 obtain⟨n,junk⟩:=k;have e:∀s:Str,yS s=(match zh (ya 58 s)with
  |none=>.error 66
  |some n=>if has 58 s then match y9 (yt 58 s) false with
    |none=>.error 64
    |some b=>.ok ⟨n,b⟩
   else .ok ⟨n,[]⟩):=fun s=>rfl
 rw[e];unfold yH;simp only[]at hn hj⊢
 by_cases h:junk=[]
 ·rw[if_pos h,List.append_nil,xa 58 (z0c n),xr hn,z0c n,h];rfl
 ·rw[if_neg h,List.take_of_length_le hj,z4T 58 _ _ (z0c n),z3K 58 _ _ (z0c n),z5l,z0c n,yA,yG,qD,if_pos (by decide),if_pos (by decide),List.append_nil,xr hn];simp only[];rw[if_pos (show(false||(decide (UInt8.toNat 58=58)||has 58 (yB junk)))=true by rfl),z6x junk false (Or.inl h)]
theorem zbR(k:Kp):gw (yH k)=true:=by
 unfold yH;refine z6y ?_ fun c hc=>?_
 ·have:=zc4 (yP k.n);simp[this]
 ·rcases List.mem_append.1 hc with hc|hc
  ·exact zc5 (yP k.n) c hc
  ·split at hc
   ·simp at hc
   ·rcases List.mem_cons.1 hc with rfl|hc
    ·decide
    ·exact zc5 (z4u _) c hc
theorem z2z{k:Int}(h:1<=k/\k<=7):gw (zo k)=true/\zk (zo k)=5/\zb (zo k)=k:=by have:k=1\/k=2\/k=3\/k=4\/k=5\/k=6\/k=7:=(by omega);rcases this with rfl|rfl|rfl|rfl|rfl|rfl|rfl<;>decide
theorem z1U{k:Int}(h:1<=k/\k<=4):gw (zn k)=true/\zq (zn k)=k:=by have:k=1\/k=2\/k=3\/k=4:=(by omega);rcases this with rfl|rfl|rfl|rfl<;>decide
theorem xR{k:Int}:zn k≠[]↔(1<=k/\k<=4):=by
 unfold zn;constructor
 ·intro h
  by_cases h1:k=1
  ·omega
  by_cases h2:k=2
  ·omega
  by_cases h3:k=3
  ·omega
  by_cases h4:k=4
  ·omega
  rw[if_neg h1,if_neg h2,if_neg h3,if_neg h4]at h;exact absurd rfl h
 ·intro h;have:k=1\/k=2\/k=3\/k=4:=(by omega);rcases this with rfl|rfl|rfl|rfl<;>decide
end Sc
end Go.Proofs.YtkkecpamnnojoaaGreatDoor
