/- A part of the proof of ScriptParses: nothing is assumed. By an AI agent. -/
import Derived.Test.YtkkecpamnnojoaaGreatDoorBz24
set_option linter.unusedVariables false
set_option linter.unusedSimpArgs false
set_option maxRecDepth 100000
set_option maxHeartbeats 32000000
namespace Go.Proofs.YtkkecpamnnojoaaGreatDoor
open Go.ChangeShapes Go.WideShapes Go.ChangeAt Go.RowKit
open Bt Dc By
namespace Sc
theorem RAt.call_row{w:World}{own:Nat->Option T}{pb:Nat}{m:M}(h:RAt w own pb m)(hne:m.ts≠[]):RowT w own (3,m.ts.length-1,0) 76 3 (zK m) (zx m).length ((zx m).flatMap MC.cells)/\own (yz m).block=some (2,0,0):=by obtain⟨t,hl⟩:∃t,m.ts.getLast? =some t:=⟨_,List.getLast?_eq_some_getLast hne⟩;obtain⟨-,hg⟩:=yR hl;obtain⟨g2,cap,hv,-,hg2,-⟩:=h.shape_ts hne;unfold zK zx yz;rw[hl,hv];exact⟨(h.calls _ t hg).row,hg2⟩
structure CPl (w:World) (own:Nat->Option T) (pb:Nat) (m:M) (L l gT capT q:Nat) (oa:Option Addr) (pa:Nat):Prop where
 c10:w.cell? ⟨pb,10,none⟩=some (.slice (some ⟨gT,0,none⟩) L capT)
 c14:w.cell? ⟨pb,14,none⟩=some (.int .i64 3)
 ca:w.cell? ⟨gT,l,none⟩=some (.slice oa q pa)
 fa:w.frozen? ⟨gT,l,none⟩=false
 pl:gT<w.heap.size
 hp:yz m=⟨gT,l,none⟩
 hv:zK m=.slice oa q pa
 hq:(zx m).length=q
 hl:L=l+1
 hL:L<=16
 hq2:q<=256
theorem RkAt.cpl{w:World}{own:Nat->Option T}{pb:Nat}{m:M}{g f:Nat}{x:Str}{ws:List Str}(h:RkAt w own pb m g f x ws)(hst:m.st=3):∃L l gT capT q oa pa,CPl w own pb m L l gT capT q oa pa:=by have hne:=h.s3 hst;obtain⟨gT,capT,hv,-,-,-⟩:=h.at_.shape_ts hne;obtain⟨ca,fa,oa,pa,hav⟩:=h.at_.call_cell hne;have hL0:0<m.ts.length:=List.length_pos_iff.2 hne;have hP:yz m=⟨gT,m.ts.length-1,none⟩:=(by unfold yz;rw[hv];rfl);have c10:=za h.at_.blk 10;have c14:=za h.at_.blk 14;unfold M.rcells at c10 c14;simp at c10 c14;rw[hst]at c14;rw[hv]at c10;rw[hP,hav]at ca;rw[hP]at fa;exact⟨m.ts.length,m.ts.length-1,gT,capT,(zx m).length,oa,pa,c10,c14,ca,fa,By.zG ca,hP,hav,rfl,by omega,h.few.mem.2.1,h.few.mem.2.2.2.2⟩
theorem rpush{w wX w4:World}{own:Nat->Option T}{pb:Nat}{m:M}{L l gT capT q:Nat}{oa:Option Addr}{pa:Nat}(h:RAt w own pb m)(hne:m.ts≠[])(hc:CPl w own pb m L l gT capT q oa pa)(hst:m.st=3)(c:Call)(d:Value)(g4 c4:Nat)(kX:Keep (fun _=>False) w wX)
  (hd:wX.ownsRow w.heap.size 5 1 d c.data.length (u8v c.data))
  (hown:w4.ownsRow 0 76 3 (.slice (some ⟨g4,0,none⟩) (q+1) c4) (q+1) ((zx m).flatMap MC.cells++MC.cells ⟨c,d⟩))(hblk:(Value.slice (some ⟨g4,0,none⟩) (q+1) c4).ownBlock=(Value.slice oa q pa).ownBlock\/∃g',(Value.slice (some ⟨g4,0,none⟩) (q+1) c4).ownBlock=some g'/\wX.heap.size<=g')
  (k4:Keep (fun b=>(zK m).ownBlock=some b) wX w4):
  qI own pb (.ok ⟨callTo m.play c,3⟩) w (.returned (.int .i64 0)) (w4.setCell ⟨gT,l,none⟩ (.slice (some ⟨g4,0,none⟩) (q+1) c4)):=by
 have hrow:=h.call_row hne;have hdg:∀b,d.ownBlock=some b->w.heap.size<=b:=fun b hb=>xL hd hb;have hdl:∀b,d.ownBlock=some b->b<wX.heap.size:=fun b hb=>xE hd hb;have hcv:∀b,(zK m).ownBlock=some b->b<w.heap.size:=fun b hb=>h.low b (by rw[hrow.1.tag b hb];simp);have hd4:w4.ownsRow w.heap.size 5 1 d c.data.length (u8v c.data):=zf hd k4 fun b hb e=>(by have:=hdg b hb;have:=hcv b e;omega);have hpush:=h.call_push hne c (d:=d) (v':=.slice (some ⟨g4,0,none⟩) (q+1) c4) (by rw[hc.hq];exact hown) hd4 (fun b hb e=>by
   have h1:=hdg b e;have h2:=hdl b e;rcases hblk with h|⟨g',h,h3⟩
   ·rw[hb,<-hc.hv]at h;have:=hcv b h.symm;omega
   ·rw[hb]at h;cases h;omega) ((kX.mono fun _ _ h=>h.elim).trans k4) (by
   rw[hc.hv];rcases hblk with h|⟨g',h,h3⟩
   ·exact Or.inl h
   ·exact Or.inr ⟨g',h,Nat.le_trans kX.size h3⟩)
 rw[hc.hp]at hpush;obtain⟨own',hp1,hp2⟩:=hpush;obtain⟨e1,e2⟩:=M.callTo_play m c d (.slice (some ⟨g4,0,none⟩) (q+1) c4) hne;exact Or.inl ⟨_,_,_,rfl,rfl,hp1,e1,e2.trans hst,hp2⟩
theorem z7n{m:M}{x:Str}{ws:List Str}{kk:Int}{n q:Nat}(hst:m.st=3)(hne:m.ts≠[])(hk:zb x=kk)(hn:ws.length=n)(hq:(zx m).length=q):zi ⟨m.play,m.st⟩ 5 x ws=if 256<=q then .error 9 else if(if kk=3\/kk=7 then decide (n=0)else decide (n=1))=false then .error 64 else match qQ m.play x ws with
  | .error e=>.error e
  | .ok p=>.ok ⟨p,3⟩:=by
 unfold zi;rw[hst,if_neg (fun h=>by
  rcases h with h|⟨-,h⟩
  ·exact absurd (show nxt 3 5=6 from h) (by decide)
  ·exact hne (List.map_eq_nil_iff.1 h))]
 rw[show full m.play 5 ws.length=decide (256<=(zx m).length)from by rw[z2p];rfl,hq,<-hk,<-hn];by_cases h9:256<=q
 ·rw[if_pos h9,if_pos (decide_eq_true h9)]
 ·rw[if_neg h9,if_neg (by rw[decide_eq_false h9];decide)];rfl
theorem z7B{w:World}{own:Nat->Option T}{pb:Nat}{m:M}{g f:Nat}(cl:Nat){x:Str}{ws:List Str}(h:RkAt w own pb m g f x ws)(hst:m.st=3)(hcl:ws.length+1<=cl)(kk:Int)(hk:kk=1\/kk=2)(hkx:zb x=kk):
    Calls Tryz.prog 55 #[.pointer (some ⟨pb,0,none⟩),.int .i64 kk,.slice (some ⟨g,f,none⟩) (ws.length+1) cl] w (qI own pb (zi ⟨m.play,m.st⟩ 5 x ws) w):=by
  obtain⟨L,l,gT,capT,q,oa,pa,hC⟩:=h.cpl hst;have hne:=h.s3 hst;obtain⟨n,hn⟩:=Qx ws.length;have hR:=z7n hst hne hkx hn hC.hq;have hnb:n<=1048576:=(by rw[<-hn];exact h.n);have hCF:qQ m.play x ws=(if zb x=1\/zb x=2 then match y9 (ws.getD 0 []) true with
    |none=>.error 64
    |some b=>.ok (callTo m.play ⟨zb x,0,b⟩)
  else if zb x=4\/zb x=5\/zb x=6 then match zh (ws.getD 0 [])with
    |none=>.error 66
    |some n=>.ok (callTo m.play ⟨zb x,n,[]⟩)
  else .ok (callTo m.play ⟨zb x,0,[]⟩)):=rfl
  rw[hkx]at hCF;have c10:=hC.c10;have c14:=hC.c14;have ca:=hC.ca;have hlw:IntKind.i64.wrap ((L:Int)-1)=(l:Int):=(by have:=hC.hl;have:=hC.hL;rw[IntKind.wrap_i64];omega);have hl0:(0:Int)<=(l:Int):=(by omega);have hlL:(l:Int)<(L:Int):=(by have:=hC.hl;omega);have hq2:=hC.hq2;obtain⟨r,hr⟩:=Qx w.heap.size;have HH:=Qh (Qa h (Qa hC (Qa hne (Qa hst (Qa hr hkx)))));rw[hn];rw[hn]at hcl;by_cases h9:256<=q
  · obtain rfl:q=256:=by omega
    have HE:=Qh (show zi ⟨m.play,m.st⟩ 5 x ws=.error 9 from by rw[hR,if_pos h9]);clear hR h9 hCF h hC hne hst hr hkx hk hn;go_in;go_upto_region 3 with fail;go_quiet(fail);go_wp2_with fail;go_ret;exact Or.inr ⟨9,HE.out,by decide,rfl,((Keep.refl (fun _=>False) w).drewN _).mono fun _ _ h=>h.elim⟩
  have b9:((q:Int)==256)=false:=Qb (by omega);rw[if_neg h9]at hR;rw[show(if kk=3\/kk=7 then decide (n=0)else decide (n=1))=decide (n=1)from if_neg (by omega)]at hR;rw[if_pos hk]at hCF;by_cases h1:n≠1
  · have b1:((n:Int)+1 != 2)=true:=by rw[bne_iff_ne];omega
    have HE:=Qh (show zi ⟨m.play,m.st⟩ 5 x ws=.error 64 from by rw[hR,if_pos (by rw[decide_eq_false h1])]);clear hR h9 hCF h hC hne hst hr hkx hn h1;rcases hk with rfl|rfl
    all_goals
      go_in;go_upto_region 3 with fail;go_quiet(fail);obtain⟨wD,hwD⟩:=Qx (w.drewN nq);have kD:Keep (fun _=>False) w wD:=(by rw[<-hwD];exact(Keep.refl _ w).drewN nq);have hrD:wD.heap.size=r:=(by rw[<-hwD];exact HH.2.2.2.2.1);rw[hwD];replace ca:=(kD.cell (p:=⟨gT,l,none⟩) HH.2.1.pl id).trans ca;clear hwD c10 c14;go_wp2_with fail;go_ret;exact Or.inr ⟨64,HE.out,by decide,rfl,(kD.alloc _).mono fun _ _ h=>h.elim⟩
  obtain rfl:n=1:=(by omega);obtain⟨y,rfl⟩:∃y,ws=[y]:=List.length_eq_one_iff.1 hn;rw[if_neg (by decide)]at hR;have hy1:w.cell? ⟨g,f+1,none⟩=some (.string (zc y)):=h.cell 1 (by simp) (Keep.refl _ _);have HHX:=Qh (fun W=>z31 y W (h.sz 1));have hgl:g<w.heap.size:=By.zG hy1;have HR:=Qh (Qa hR hCF);obtain⟨sy,hsy⟩:=Qx (zc y);rw[hsy]at hy1 HHX;clear hR h9 hCF h hC hne hst hr hkx hn h1 hsy;rcases hk with rfl|rfl
  · go_in
    go_upto_region 3 with fail;go_quiet(fail);obtain⟨wD,hwD⟩:=Qx (w.drewN nq);have kD:Keep (fun _=>False) w wD:=(by rw[<-hwD];exact(Keep.refl _ w).drewN nq);have hrD:wD.heap.size=r:=(by rw[<-hwD];exact HH.2.2.2.2.1);rw[hwD];replace ca:=(kD.cell (p:=⟨gT,l,none⟩) HH.2.1.pl id).trans ca;clear hwD c10 c14;go_upto_region 7 with fail;obtain⟨W1,hW1⟩:∃W1,wD.alloc (.cells #[.int .i64 1,.int .i64 0,.slice none 0 0] 76)=W1:=⟨_,rfl⟩;have b0:W1.heap[r]?=some (.cells #[.int .i64 1,.int .i64 0,.slice none 0 0] 76 (0,0)):=(by rw[<-hW1,<-hrD];exact zm wD _);have k1:Keep (fun _=>False) w W1:=(by rw[<-hW1];exact kD.alloc _);rw[hW1];clear hW1;have HB1:=Qh (Qa b0 k1);have hy2:=(k1.cell (p:=⟨g,f+1,none⟩) hgl id).trans hy1;clear b0 k1;go_wp2_with fail;refine(HHX.out _).mono ?_;rintro e w2 ⟨(⟨out,v,hho,rfl,hrowd⟩|⟨hho,rfl⟩),k3⟩
    · obtain⟨oo,cc,hv⟩:∃oo cc,v=.slice oo out.length cc:=by
        rcases hrowd.2 with⟨h1,h2⟩|⟨g,cap,cur,h1, -⟩
        · exact⟨none,0,by rw[h1,h2]⟩
        · exact⟨_,cap,h1⟩
      have b2:=k3.same HB1.1 id;have d2:=za b2 2;have f2:=zd b2 2;simp at d2;have hdg:∀b,v.ownBlock=some b->W1.heap.size<=b:=fun b hb=>xL hrowd hb;have hr1:r<W1.heap.size:=lt_of_block HB1.1;subst hv;obtain⟨wX,hwX⟩:∃wX,w2.setCell ⟨r,2,none⟩ (.slice oo out.length cc)=wX:=⟨_,rfl⟩;have kset:Keep (fun b=>b=r) w2 wX:=(by rw[<-hwX];exact(Keep.refl (fun b=>b=r) w2).setCell (p:=⟨r,2,none⟩) (Or.inl rfl) _);have HX:=Qh (show wX.heap[r]?=some (.cells #[.int .i64 1,.int .i64 0,.slice oo out.length cc] 76 (0,0))/\Keep (fun _=>False) w wX/\wX.ownsRow w.heap.size 5 1 (.slice oo out.length cc) out.length (u8v out)from
        ⟨by rw[<-hwX];exact zg b2 2 _,(HB1.2.trans k3).own kset fun i hi=>Or.inr (by have:=HH.2.2.2.2.1;omega),qx (zf hrowd kset fun b hb e=>by have:=hdg b hb;omega) fun b hb=>Nat.le_trans HB1.2.size (hdg b hb)⟩)
      have HRX:=Qh (show zi ⟨m.play,m.st⟩ 5 x [y]=.ok ⟨callTo m.play ⟨1,0,out⟩,3⟩from by rw[HR.1,HR.2,List.getD_cons_zero,hho]);clear b2 hdg hr1 kset hrowd hho k3;have c0:=za HX.1 0;have c1:=za HX.1 1;have c2:=za HX.1 2;simp at c0 c1 c2;have caX:=(HX.2.1.cell (p:=⟨gT,l,none⟩) HH.2.1.pl id).trans HH.2.1.ca;have faX:=(HX.2.1.frozen (p:=⟨gT,l,none⟩) HH.2.1.pl id).trans HH.2.1.fa;have hplX:gT<wX.heap.size:=Nat.lt_of_lt_of_le HH.2.1.pl HX.2.1.size;obtain⟨i0,hi0,hz0,hz1,hz2⟩:=z12;have hrow:(wX.drew.alloc (.cells #[.int .i64 1,.int .i64 0,(.slice oo out.length cc)] 76)).ownsRow 0 76 3 (.slice oa q pa) q ((zx m).flatMap MC.cells):=(by have h:=((HH.1.at_.kept HX.2.1).call_row HH.2.2.1).1.row;rw[HH.2.1.hv,HH.2.1.hq]at h;exact zf h ((Keep.refl (fun _=>False) wX).drew.alloc _) fun _ _=>id);have HROW:=Qh hrow;have HGN:=Qh (show ∀b,(zK m).ownBlock=some b->b≠gT from fun b hb e=>by
        obtain⟨h1,h2⟩:=HH.1.at_.call_row HH.2.2.1;have h4:=h1.tag b hb;rw[HH.2.1.hp,<-e,h4]at h2;exact absurd h2 (by simp))
      clear hrow;go_wp2_with fail;go_region_law(first
        |(refine zy rfl (.tmp 98) (.tmp 100) 56 rfl 0 76 i0 _ 3 40 Tryz.underlying56 hi0 hz0 hz1 hz2 rfl (by decide) (.slice oa q pa) q ((zx m).flatMap MC.cells) rfl HROW.out ⟨wX.heap.size,0,none⟩ 1 1 [.int .i64 1,.int .i64 0,(.slice oo out.length cc)] rfl rfl (zD _ _ _) (by intro u hu;simp at hu;rcases hu with rfl|rfl|rfl<;>rfl) (by unfold maxLen;omega) (by omega) (Nat.zero_le _) ?_;intro v4 w4 hown hgr hblk;obtain⟨g4,c4,rfl⟩:=ownsRow_succ hown;rw[<-HH.2.1.hv]at hgr;have k4:Keep (fun b=>(zK m).ownBlock=some b) wX w4:=((Keep.refl (fun b=>(zK m).ownBlock=some b) wX).drew.alloc _).trans (zp hgr);have ca4:=(k4.cell (p:=⟨gT,l,none⟩) hplX (fun h=>HGN.out _ h rfl)).trans caX;have fa4:=(k4.frozen (p:=⟨gT,l,none⟩) hplX (fun h=>HGN.out _ h rfl)).trans faX;have H4:=Qh (Qa hown (Qa hblk k4));clear hown hgr hblk k4))
      (all_goals go_wp2_with fail);all_goals go_ret
      all_goals
        rw[HRX.out];exact rpush HH.1.at_ HH.2.2.1 HH.2.1 HH.2.2.2.1 ⟨1,0,out⟩ (.slice oo out.length cc) g4 c4 HX.2.1 HX.2.2 H4.1 (H4.2.1.imp_right fun e=>⟨_,e,by simp[World.drew]⟩) H4.2.2
    · have HRX:=Qh (show zi ⟨m.play,m.st⟩ 5 x [y]=.error 64 from by rw[HR.1,HR.2,List.getD_cons_zero,hho])
      have HK3:=Qh (HB1.2.trans k3);have b2:=k3.same HB1.1 id;have d2:=za b2 2;have f2:=zd b2 2;simp at d2;clear hho k3 b2;go_wp2_with fail;go_ret;refine Or.inr ⟨64,HRX.out,by decide,rfl,?_⟩;exact HK3.mono fun _ _ h=>h.elim
  · go_in
    go_upto_region 3 with fail;go_quiet(fail);obtain⟨wD,hwD⟩:=Qx (w.drewN nq);have kD:Keep (fun _=>False) w wD:=(by rw[<-hwD];exact(Keep.refl _ w).drewN nq);have hrD:wD.heap.size=r:=(by rw[<-hwD];exact HH.2.2.2.2.1);rw[hwD];replace ca:=(kD.cell (p:=⟨gT,l,none⟩) HH.2.1.pl id).trans ca;clear hwD c10 c14;go_upto_region 7 with fail;obtain⟨W1,hW1⟩:∃W1,wD.alloc (.cells #[.int .i64 2,.int .i64 0,.slice none 0 0] 76)=W1:=⟨_,rfl⟩;have b0:W1.heap[r]?=some (.cells #[.int .i64 2,.int .i64 0,.slice none 0 0] 76 (0,0)):=(by rw[<-hW1,<-hrD];exact zm wD _);have k1:Keep (fun _=>False) w W1:=(by rw[<-hW1];exact kD.alloc _);rw[hW1];clear hW1;have HB1:=Qh (Qa b0 k1);have hy2:=(k1.cell (p:=⟨g,f+1,none⟩) hgl id).trans hy1;clear b0 k1;go_wp2_with fail;refine(HHX.out _).mono ?_;rintro e w2 ⟨(⟨out,v,hho,rfl,hrowd⟩|⟨hho,rfl⟩),k3⟩
    · obtain⟨oo,cc,hv⟩:∃oo cc,v=.slice oo out.length cc:=by
        rcases hrowd.2 with⟨h1,h2⟩|⟨g,cap,cur,h1, -⟩
        · exact⟨none,0,by rw[h1,h2]⟩
        · exact⟨_,cap,h1⟩
      have b2:=k3.same HB1.1 id;have d2:=za b2 2;have f2:=zd b2 2;simp at d2;have hdg:∀b,v.ownBlock=some b->W1.heap.size<=b:=fun b hb=>xL hrowd hb;have hr1:r<W1.heap.size:=lt_of_block HB1.1;subst hv;obtain⟨wX,hwX⟩:∃wX,w2.setCell ⟨r,2,none⟩ (.slice oo out.length cc)=wX:=⟨_,rfl⟩;have kset:Keep (fun b=>b=r) w2 wX:=(by rw[<-hwX];exact(Keep.refl (fun b=>b=r) w2).setCell (p:=⟨r,2,none⟩) (Or.inl rfl) _);have HX:=Qh (show wX.heap[r]?=some (.cells #[.int .i64 2,.int .i64 0,.slice oo out.length cc] 76 (0,0))/\Keep (fun _=>False) w wX/\wX.ownsRow w.heap.size 5 1 (.slice oo out.length cc) out.length (u8v out)from
        ⟨by rw[<-hwX];exact zg b2 2 _,(HB1.2.trans k3).own kset fun i hi=>Or.inr (by have:=HH.2.2.2.2.1;omega),qx (zf hrowd kset fun b hb e=>by have:=hdg b hb;omega) fun b hb=>Nat.le_trans HB1.2.size (hdg b hb)⟩)
      have HRX:=Qh (show zi ⟨m.play,m.st⟩ 5 x [y]=.ok ⟨callTo m.play ⟨2,0,out⟩,3⟩from by rw[HR.1,HR.2,List.getD_cons_zero,hho]);clear b2 hdg hr1 kset hrowd hho k3;have c0:=za HX.1 0;have c1:=za HX.1 1;have c2:=za HX.1 2;simp at c0 c1 c2;have caX:=(HX.2.1.cell (p:=⟨gT,l,none⟩) HH.2.1.pl id).trans HH.2.1.ca;have faX:=(HX.2.1.frozen (p:=⟨gT,l,none⟩) HH.2.1.pl id).trans HH.2.1.fa;have hplX:gT<wX.heap.size:=Nat.lt_of_lt_of_le HH.2.1.pl HX.2.1.size;obtain⟨i0,hi0,hz0,hz1,hz2⟩:=z12;have hrow:(wX.drew.alloc (.cells #[.int .i64 2,.int .i64 0,(.slice oo out.length cc)] 76)).ownsRow 0 76 3 (.slice oa q pa) q ((zx m).flatMap MC.cells):=(by have h:=((HH.1.at_.kept HX.2.1).call_row HH.2.2.1).1.row;rw[HH.2.1.hv,HH.2.1.hq]at h;exact zf h ((Keep.refl (fun _=>False) wX).drew.alloc _) fun _ _=>id);have HROW:=Qh hrow;have HGN:=Qh (show ∀b,(zK m).ownBlock=some b->b≠gT from fun b hb e=>by
        obtain⟨h1,h2⟩:=HH.1.at_.call_row HH.2.2.1;have h4:=h1.tag b hb;rw[HH.2.1.hp,<-e,h4]at h2;exact absurd h2 (by simp))
      clear hrow;go_wp2_with fail;go_region_law(first
        |(refine zy rfl (.tmp 98) (.tmp 100) 56 rfl 0 76 i0 _ 3 40 Tryz.underlying56 hi0 hz0 hz1 hz2 rfl (by decide) (.slice oa q pa) q ((zx m).flatMap MC.cells) rfl HROW.out ⟨wX.heap.size,0,none⟩ 1 1 [.int .i64 2,.int .i64 0,(.slice oo out.length cc)] rfl rfl (zD _ _ _) (by intro u hu;simp at hu;rcases hu with rfl|rfl|rfl<;>rfl) (by unfold maxLen;omega) (by omega) (Nat.zero_le _) ?_;intro v4 w4 hown hgr hblk;obtain⟨g4,c4,rfl⟩:=ownsRow_succ hown;rw[<-HH.2.1.hv]at hgr;have k4:Keep (fun b=>(zK m).ownBlock=some b) wX w4:=((Keep.refl (fun b=>(zK m).ownBlock=some b) wX).drew.alloc _).trans (zp hgr);have ca4:=(k4.cell (p:=⟨gT,l,none⟩) hplX (fun h=>HGN.out _ h rfl)).trans caX;have fa4:=(k4.frozen (p:=⟨gT,l,none⟩) hplX (fun h=>HGN.out _ h rfl)).trans faX;have H4:=Qh (Qa hown (Qa hblk k4));clear hown hgr hblk k4))
      (all_goals go_wp2_with fail);all_goals go_ret
      all_goals
        rw[HRX.out];exact rpush HH.1.at_ HH.2.2.1 HH.2.1 HH.2.2.2.1 ⟨2,0,out⟩ (.slice oo out.length cc) g4 c4 HX.2.1 HX.2.2 H4.1 (H4.2.1.imp_right fun e=>⟨_,e,by simp[World.drew]⟩) H4.2.2
    · have HRX:=Qh (show zi ⟨m.play,m.st⟩ 5 x [y]=.error 64 from by rw[HR.1,HR.2,List.getD_cons_zero,hho])
      have HK3:=Qh (HB1.2.trans k3);have b2:=k3.same HB1.1 id;have d2:=za b2 2;have f2:=zd b2 2;simp at d2;clear hho k3 b2;go_wp2_with fail;go_ret;refine Or.inr ⟨64,HRX.out,by decide,rfl,?_⟩;exact HK3.mono fun _ _ h=>h.elim
theorem z9u{w:World}{own:Nat->Option T}{pb:Nat}{m:M}{g f:Nat}(cl:Nat){x:Str}{ws:List Str}(h:RkAt w own pb m g f x ws)(hst:m.st=3)(hcl:ws.length+1<=cl)(kk:Int)(hk:kk=4\/kk=5\/kk=6)(hkx:zb x=kk):
    Calls Tryz.prog 55 #[.pointer (some ⟨pb,0,none⟩),.int .i64 kk,.slice (some ⟨g,f,none⟩) (ws.length+1) cl] w (qI own pb (zi ⟨m.play,m.st⟩ 5 x ws) w):=by
  obtain⟨L,l,gT,capT,q,oa,pa,hC⟩:=h.cpl hst;have hne:=h.s3 hst;obtain⟨n,hn⟩:=Qx ws.length;have hR:=z7n hst hne hkx hn hC.hq;have hnb:n<=1048576:=(by rw[<-hn];exact h.n);have hCF:qQ m.play x ws=(if zb x=1\/zb x=2 then match y9 (ws.getD 0 []) true with
    |none=>.error 64
    |some b=>.ok (callTo m.play ⟨zb x,0,b⟩)
  else if zb x=4\/zb x=5\/zb x=6 then match zh (ws.getD 0 [])with
    |none=>.error 66
    |some n=>.ok (callTo m.play ⟨zb x,n,[]⟩)
  else .ok (callTo m.play ⟨zb x,0,[]⟩)):=rfl
  rw[hkx]at hCF;have c10:=hC.c10;have c14:=hC.c14;have ca:=hC.ca;have hlw:IntKind.i64.wrap ((L:Int)-1)=(l:Int):=(by have:=hC.hl;have:=hC.hL;rw[IntKind.wrap_i64];omega);have hl0:(0:Int)<=(l:Int):=(by omega);have hlL:(l:Int)<(L:Int):=(by have:=hC.hl;omega);have hq2:=hC.hq2;obtain⟨r,hr⟩:=Qx w.heap.size;have HH:=Qh (Qa h (Qa hC (Qa hne (Qa hst (Qa hr hkx)))));rw[hn];rw[hn]at hcl;by_cases h9:256<=q
  · obtain rfl:q=256:=by omega
    have HE:=Qh (show zi ⟨m.play,m.st⟩ 5 x ws=.error 9 from by rw[hR,if_pos h9]);clear hR h9 hCF h hC hne hst hr hkx hk hn;go_in;go_upto_region 3 with fail;go_quiet(fail);go_wp2_with fail;go_ret;exact Or.inr ⟨9,HE.out,by decide,rfl,((Keep.refl (fun _=>False) w).drewN _).mono fun _ _ h=>h.elim⟩
  have b9:((q:Int)==256)=false:=Qb (by omega);rw[if_neg h9]at hR;rw[show(if kk=3\/kk=7 then decide (n=0)else decide (n=1))=decide (n=1)from if_neg (by omega)]at hR;rw[if_neg (by omega),if_pos hk]at hCF;by_cases h1:n≠1
  · have b1:((n:Int)+1 != 2)=true:=by rw[bne_iff_ne];omega
    have HE:=Qh (show zi ⟨m.play,m.st⟩ 5 x ws=.error 64 from by rw[hR,if_pos (by rw[decide_eq_false h1])]);clear hR h9 hCF h hC hne hst hr hkx hn h1;rcases hk with rfl|rfl|rfl
    all_goals
      go_in;go_upto_region 3 with fail;go_quiet(fail);obtain⟨wD,hwD⟩:=Qx (w.drewN nq);have kD:Keep (fun _=>False) w wD:=(by rw[<-hwD];exact(Keep.refl _ w).drewN nq);have hrD:wD.heap.size=r:=(by rw[<-hwD];exact HH.2.2.2.2.1);rw[hwD];replace ca:=(kD.cell (p:=⟨gT,l,none⟩) HH.2.1.pl id).trans ca;clear hwD c10 c14;go_wp2_with fail;go_ret;exact Or.inr ⟨64,HE.out,by decide,rfl,(kD.alloc _).mono fun _ _ h=>h.elim⟩
  obtain rfl:n=1:=(by omega);obtain⟨y,rfl⟩:∃y,ws=[y]:=List.length_eq_one_iff.1 hn;rw[if_neg (by decide)]at hR;have hy1:w.cell? ⟨g,f+1,none⟩=some (.string (zc y)):=h.cell 1 (by simp) (Keep.refl _ _);have HNX:=Qh (fun W=>yN y W (h.sz 1));have hgl:g<w.heap.size:=By.zG hy1;have HR:=Qh (Qa hR hCF);obtain⟨sy,hsy⟩:=Qx (zc y);rw[hsy]at hy1 HNX;clear hR h9 hCF h hC hne hst hr hkx hn h1 hsy;rcases hk with rfl|rfl|rfl
  · go_in
    go_upto_region 3 with fail;go_quiet(fail);obtain⟨wD,hwD⟩:=Qx (w.drewN nq);have kD:Keep (fun _=>False) w wD:=(by rw[<-hwD];exact(Keep.refl _ w).drewN nq);have hrD:wD.heap.size=r:=(by rw[<-hwD];exact HH.2.2.2.2.1);rw[hwD];replace ca:=(kD.cell (p:=⟨gT,l,none⟩) HH.2.1.pl id).trans ca;clear hwD c10 c14;go_upto_region 7 with fail;obtain⟨W1,hW1⟩:∃W1,wD.alloc (.cells #[.int .i64 4,.int .i64 0,.slice none 0 0] 76)=W1:=⟨_,rfl⟩;have b0:W1.heap[r]?=some (.cells #[.int .i64 4,.int .i64 0,.slice none 0 0] 76 (0,0)):=(by rw[<-hW1,<-hrD];exact zm wD _);have k1:Keep (fun _=>False) w W1:=(by rw[<-hW1];exact kD.alloc _);rw[hW1];clear hW1;have HB1:=Qh (Qa b0 k1);have hy2:=(k1.cell (p:=⟨g,f+1,none⟩) hgl id).trans hy1;clear b0 k1;go_upto_region 18 with(go_at_call 87;refine(HNX.out _).mono ?_;rintro e w2 ⟨n1,ok,rfl,hq1,k3⟩;have H2:=Qh (Qa hq1 k3);clear hq1 k3);have b2:=H2.2.same HB1.1 id;have d1:=za b2 1;have f1:=zd b2 1;simp at d1;cases ok with
    |true=>
      obtain⟨wX,hwX⟩:∃wX,w2.setCell ⟨r,1,none⟩ (.int .i64 n1)=wX:=⟨_,rfl⟩;have kset:Keep (fun b=>b=r) w2 wX:=(by rw[<-hwX];exact(Keep.refl (fun b=>b=r) w2).setCell (p:=⟨r,1,none⟩) (Or.inl rfl) _);have HX:=Qh (show wX.heap[r]?=some (.cells #[.int .i64 4,.int .i64 n1,.slice none 0 0] 76 (0,0))/\Keep (fun _=>False) w wX/\wX.ownsRow w.heap.size 5 1 (.slice none 0 0) 0 (u8v [])from
        ⟨by rw[<-hwX];exact zg b2 1 _,(HB1.2.trans H2.2).own kset fun i hi=>Or.inr (by have:=HH.2.2.2.2.1;omega),yi _ _ _ _⟩)
      have HRX:=Qh (show zi ⟨m.play,m.st⟩ 5 x [y]=.ok ⟨callTo m.play ⟨4,n1,[]⟩,3⟩from by rw[HR.1,HR.2,List.getD_cons_zero,xq H2.1]);clear b2 kset;have c0:=za HX.1 0;have c1:=za HX.1 1;have c2:=za HX.1 2;simp at c0 c1 c2;have caX:=(HX.2.1.cell (p:=⟨gT,l,none⟩) HH.2.1.pl id).trans HH.2.1.ca;have faX:=(HX.2.1.frozen (p:=⟨gT,l,none⟩) HH.2.1.pl id).trans HH.2.1.fa;have hplX:gT<wX.heap.size:=Nat.lt_of_lt_of_le HH.2.1.pl HX.2.1.size;obtain⟨i0,hi0,hz0,hz1,hz2⟩:=z12;have hrow:(wX.drew.alloc (.cells #[.int .i64 4,.int .i64 n1,(.slice none 0 0)] 76)).ownsRow 0 76 3 (.slice oa q pa) q ((zx m).flatMap MC.cells):=(by have h:=((HH.1.at_.kept HX.2.1).call_row HH.2.2.1).1.row;rw[HH.2.1.hv,HH.2.1.hq]at h;exact zf h ((Keep.refl (fun _=>False) wX).drew.alloc _) fun _ _=>id);have HROW:=Qh hrow;have HGN:=Qh (show ∀b,(zK m).ownBlock=some b->b≠gT from fun b hb e=>by
        obtain⟨h1,h2⟩:=HH.1.at_.call_row HH.2.2.1;have h4:=h1.tag b hb;rw[HH.2.1.hp,<-e,h4]at h2;exact absurd h2 (by simp))
      clear hrow;go_wp2_with fail;go_region_law(first
        |(refine zy rfl (.tmp 98) (.tmp 100) 56 rfl 0 76 i0 _ 3 40 Tryz.underlying56 hi0 hz0 hz1 hz2 rfl (by decide) (.slice oa q pa) q ((zx m).flatMap MC.cells) rfl HROW.out ⟨wX.heap.size,0,none⟩ 1 1 [.int .i64 4,.int .i64 n1,(.slice none 0 0)] rfl rfl (zD _ _ _) (by intro u hu;simp at hu;rcases hu with rfl|rfl|rfl<;>rfl) (by unfold maxLen;omega) (by omega) (Nat.zero_le _) ?_;intro v4 w4 hown hgr hblk;obtain⟨g4,c4,rfl⟩:=ownsRow_succ hown;rw[<-HH.2.1.hv]at hgr;have k4:Keep (fun b=>(zK m).ownBlock=some b) wX w4:=((Keep.refl (fun b=>(zK m).ownBlock=some b) wX).drew.alloc _).trans (zp hgr);have ca4:=(k4.cell (p:=⟨gT,l,none⟩) hplX (fun h=>HGN.out _ h rfl)).trans caX;have fa4:=(k4.frozen (p:=⟨gT,l,none⟩) hplX (fun h=>HGN.out _ h rfl)).trans faX;have H4:=Qh (Qa hown (Qa hblk k4));clear hown hgr hblk k4))
      (all_goals go_wp2_with fail);all_goals go_ret
      all_goals
        rw[HRX.out];exact rpush HH.1.at_ HH.2.2.1 HH.2.1 HH.2.2.2.1 ⟨4,n1,[]⟩ (.slice none 0 0) g4 c4 HX.2.1 HX.2.2 H4.1 (H4.2.1.imp_right fun e=>⟨_,e,by simp[World.drew]⟩) H4.2.2
    |false=>
      have HRX:=Qh (show zi ⟨m.play,m.st⟩ 5 x [y]=.error 66 from by rw[HR.1,HR.2,List.getD_cons_zero,z0j H2.1]);go_wp2_with fail;go_ret;exact Or.inr ⟨66,HRX.out,by decide,rfl,(HB1.2.trans H2.2).mono fun _ _ h=>h.elim⟩
  · go_in
    go_upto_region 3 with fail;go_quiet(fail);obtain⟨wD,hwD⟩:=Qx (w.drewN nq);have kD:Keep (fun _=>False) w wD:=(by rw[<-hwD];exact(Keep.refl _ w).drewN nq);have hrD:wD.heap.size=r:=(by rw[<-hwD];exact HH.2.2.2.2.1);rw[hwD];replace ca:=(kD.cell (p:=⟨gT,l,none⟩) HH.2.1.pl id).trans ca;clear hwD c10 c14;go_upto_region 7 with fail;obtain⟨W1,hW1⟩:∃W1,wD.alloc (.cells #[.int .i64 5,.int .i64 0,.slice none 0 0] 76)=W1:=⟨_,rfl⟩;have b0:W1.heap[r]?=some (.cells #[.int .i64 5,.int .i64 0,.slice none 0 0] 76 (0,0)):=(by rw[<-hW1,<-hrD];exact zm wD _);have k1:Keep (fun _=>False) w W1:=(by rw[<-hW1];exact kD.alloc _);rw[hW1];clear hW1;have HB1:=Qh (Qa b0 k1);have hy2:=(k1.cell (p:=⟨g,f+1,none⟩) hgl id).trans hy1;clear b0 k1;go_upto_region 18 with(go_at_call 87;refine(HNX.out _).mono ?_;rintro e w2 ⟨n1,ok,rfl,hq1,k3⟩;have H2:=Qh (Qa hq1 k3);clear hq1 k3);have b2:=H2.2.same HB1.1 id;have d1:=za b2 1;have f1:=zd b2 1;simp at d1;cases ok with
    |true=>
      obtain⟨wX,hwX⟩:∃wX,w2.setCell ⟨r,1,none⟩ (.int .i64 n1)=wX:=⟨_,rfl⟩;have kset:Keep (fun b=>b=r) w2 wX:=(by rw[<-hwX];exact(Keep.refl (fun b=>b=r) w2).setCell (p:=⟨r,1,none⟩) (Or.inl rfl) _);have HX:=Qh (show wX.heap[r]?=some (.cells #[.int .i64 5,.int .i64 n1,.slice none 0 0] 76 (0,0))/\Keep (fun _=>False) w wX/\wX.ownsRow w.heap.size 5 1 (.slice none 0 0) 0 (u8v [])from
        ⟨by rw[<-hwX];exact zg b2 1 _,(HB1.2.trans H2.2).own kset fun i hi=>Or.inr (by have:=HH.2.2.2.2.1;omega),yi _ _ _ _⟩)
      have HRX:=Qh (show zi ⟨m.play,m.st⟩ 5 x [y]=.ok ⟨callTo m.play ⟨5,n1,[]⟩,3⟩from by rw[HR.1,HR.2,List.getD_cons_zero,xq H2.1]);clear b2 kset;have c0:=za HX.1 0;have c1:=za HX.1 1;have c2:=za HX.1 2;simp at c0 c1 c2;have caX:=(HX.2.1.cell (p:=⟨gT,l,none⟩) HH.2.1.pl id).trans HH.2.1.ca;have faX:=(HX.2.1.frozen (p:=⟨gT,l,none⟩) HH.2.1.pl id).trans HH.2.1.fa;have hplX:gT<wX.heap.size:=Nat.lt_of_lt_of_le HH.2.1.pl HX.2.1.size;obtain⟨i0,hi0,hz0,hz1,hz2⟩:=z12;have hrow:(wX.drew.alloc (.cells #[.int .i64 5,.int .i64 n1,(.slice none 0 0)] 76)).ownsRow 0 76 3 (.slice oa q pa) q ((zx m).flatMap MC.cells):=(by have h:=((HH.1.at_.kept HX.2.1).call_row HH.2.2.1).1.row;rw[HH.2.1.hv,HH.2.1.hq]at h;exact zf h ((Keep.refl (fun _=>False) wX).drew.alloc _) fun _ _=>id);have HROW:=Qh hrow;have HGN:=Qh (show ∀b,(zK m).ownBlock=some b->b≠gT from fun b hb e=>by
        obtain⟨h1,h2⟩:=HH.1.at_.call_row HH.2.2.1;have h4:=h1.tag b hb;rw[HH.2.1.hp,<-e,h4]at h2;exact absurd h2 (by simp))
      clear hrow;go_wp2_with fail;go_region_law(first
        |(refine zy rfl (.tmp 98) (.tmp 100) 56 rfl 0 76 i0 _ 3 40 Tryz.underlying56 hi0 hz0 hz1 hz2 rfl (by decide) (.slice oa q pa) q ((zx m).flatMap MC.cells) rfl HROW.out ⟨wX.heap.size,0,none⟩ 1 1 [.int .i64 5,.int .i64 n1,(.slice none 0 0)] rfl rfl (zD _ _ _) (by intro u hu;simp at hu;rcases hu with rfl|rfl|rfl<;>rfl) (by unfold maxLen;omega) (by omega) (Nat.zero_le _) ?_;intro v4 w4 hown hgr hblk;obtain⟨g4,c4,rfl⟩:=ownsRow_succ hown;rw[<-HH.2.1.hv]at hgr;have k4:Keep (fun b=>(zK m).ownBlock=some b) wX w4:=((Keep.refl (fun b=>(zK m).ownBlock=some b) wX).drew.alloc _).trans (zp hgr);have ca4:=(k4.cell (p:=⟨gT,l,none⟩) hplX (fun h=>HGN.out _ h rfl)).trans caX;have fa4:=(k4.frozen (p:=⟨gT,l,none⟩) hplX (fun h=>HGN.out _ h rfl)).trans faX;have H4:=Qh (Qa hown (Qa hblk k4));clear hown hgr hblk k4))
      (all_goals go_wp2_with fail);all_goals go_ret
      all_goals
        rw[HRX.out];exact rpush HH.1.at_ HH.2.2.1 HH.2.1 HH.2.2.2.1 ⟨5,n1,[]⟩ (.slice none 0 0) g4 c4 HX.2.1 HX.2.2 H4.1 (H4.2.1.imp_right fun e=>⟨_,e,by simp[World.drew]⟩) H4.2.2
    |false=>
      have HRX:=Qh (show zi ⟨m.play,m.st⟩ 5 x [y]=.error 66 from by rw[HR.1,HR.2,List.getD_cons_zero,z0j H2.1]);go_wp2_with fail;go_ret;exact Or.inr ⟨66,HRX.out,by decide,rfl,(HB1.2.trans H2.2).mono fun _ _ h=>h.elim⟩
  · go_in
    go_upto_region 3 with fail;go_quiet(fail);obtain⟨wD,hwD⟩:=Qx (w.drewN nq);have kD:Keep (fun _=>False) w wD:=(by rw[<-hwD];exact(Keep.refl _ w).drewN nq);have hrD:wD.heap.size=r:=(by rw[<-hwD];exact HH.2.2.2.2.1);rw[hwD];replace ca:=(kD.cell (p:=⟨gT,l,none⟩) HH.2.1.pl id).trans ca;clear hwD c10 c14;go_upto_region 7 with fail;obtain⟨W1,hW1⟩:∃W1,wD.alloc (.cells #[.int .i64 6,.int .i64 0,.slice none 0 0] 76)=W1:=⟨_,rfl⟩;have b0:W1.heap[r]?=some (.cells #[.int .i64 6,.int .i64 0,.slice none 0 0] 76 (0,0)):=(by rw[<-hW1,<-hrD];exact zm wD _);have k1:Keep (fun _=>False) w W1:=(by rw[<-hW1];exact kD.alloc _);rw[hW1];clear hW1;have HB1:=Qh (Qa b0 k1);have hy2:=(k1.cell (p:=⟨g,f+1,none⟩) hgl id).trans hy1;clear b0 k1;go_upto_region 18 with(go_at_call 87;refine(HNX.out _).mono ?_;rintro e w2 ⟨n1,ok,rfl,hq1,k3⟩;have H2:=Qh (Qa hq1 k3);clear hq1 k3);have b2:=H2.2.same HB1.1 id;have d1:=za b2 1;have f1:=zd b2 1;simp at d1;cases ok with
    |true=>
      obtain⟨wX,hwX⟩:∃wX,w2.setCell ⟨r,1,none⟩ (.int .i64 n1)=wX:=⟨_,rfl⟩;have kset:Keep (fun b=>b=r) w2 wX:=(by rw[<-hwX];exact(Keep.refl (fun b=>b=r) w2).setCell (p:=⟨r,1,none⟩) (Or.inl rfl) _);have HX:=Qh (show wX.heap[r]?=some (.cells #[.int .i64 6,.int .i64 n1,.slice none 0 0] 76 (0,0))/\Keep (fun _=>False) w wX/\wX.ownsRow w.heap.size 5 1 (.slice none 0 0) 0 (u8v [])from
        ⟨by rw[<-hwX];exact zg b2 1 _,(HB1.2.trans H2.2).own kset fun i hi=>Or.inr (by have:=HH.2.2.2.2.1;omega),yi _ _ _ _⟩)
      have HRX:=Qh (show zi ⟨m.play,m.st⟩ 5 x [y]=.ok ⟨callTo m.play ⟨6,n1,[]⟩,3⟩from by rw[HR.1,HR.2,List.getD_cons_zero,xq H2.1]);clear b2 kset;have c0:=za HX.1 0;have c1:=za HX.1 1;have c2:=za HX.1 2;simp at c0 c1 c2;have caX:=(HX.2.1.cell (p:=⟨gT,l,none⟩) HH.2.1.pl id).trans HH.2.1.ca;have faX:=(HX.2.1.frozen (p:=⟨gT,l,none⟩) HH.2.1.pl id).trans HH.2.1.fa;have hplX:gT<wX.heap.size:=Nat.lt_of_lt_of_le HH.2.1.pl HX.2.1.size;obtain⟨i0,hi0,hz0,hz1,hz2⟩:=z12;have hrow:(wX.drew.alloc (.cells #[.int .i64 6,.int .i64 n1,(.slice none 0 0)] 76)).ownsRow 0 76 3 (.slice oa q pa) q ((zx m).flatMap MC.cells):=(by have h:=((HH.1.at_.kept HX.2.1).call_row HH.2.2.1).1.row;rw[HH.2.1.hv,HH.2.1.hq]at h;exact zf h ((Keep.refl (fun _=>False) wX).drew.alloc _) fun _ _=>id);have HROW:=Qh hrow;have HGN:=Qh (show ∀b,(zK m).ownBlock=some b->b≠gT from fun b hb e=>by
        obtain⟨h1,h2⟩:=HH.1.at_.call_row HH.2.2.1;have h4:=h1.tag b hb;rw[HH.2.1.hp,<-e,h4]at h2;exact absurd h2 (by simp))
      clear hrow;go_wp2_with fail;go_region_law(first
        |(refine zy rfl (.tmp 98) (.tmp 100) 56 rfl 0 76 i0 _ 3 40 Tryz.underlying56 hi0 hz0 hz1 hz2 rfl (by decide) (.slice oa q pa) q ((zx m).flatMap MC.cells) rfl HROW.out ⟨wX.heap.size,0,none⟩ 1 1 [.int .i64 6,.int .i64 n1,(.slice none 0 0)] rfl rfl (zD _ _ _) (by intro u hu;simp at hu;rcases hu with rfl|rfl|rfl<;>rfl) (by unfold maxLen;omega) (by omega) (Nat.zero_le _) ?_;intro v4 w4 hown hgr hblk;obtain⟨g4,c4,rfl⟩:=ownsRow_succ hown;rw[<-HH.2.1.hv]at hgr;have k4:Keep (fun b=>(zK m).ownBlock=some b) wX w4:=((Keep.refl (fun b=>(zK m).ownBlock=some b) wX).drew.alloc _).trans (zp hgr);have ca4:=(k4.cell (p:=⟨gT,l,none⟩) hplX (fun h=>HGN.out _ h rfl)).trans caX;have fa4:=(k4.frozen (p:=⟨gT,l,none⟩) hplX (fun h=>HGN.out _ h rfl)).trans faX;have H4:=Qh (Qa hown (Qa hblk k4));clear hown hgr hblk k4))
      (all_goals go_wp2_with fail);all_goals go_ret
      all_goals
        rw[HRX.out];exact rpush HH.1.at_ HH.2.2.1 HH.2.1 HH.2.2.2.1 ⟨6,n1,[]⟩ (.slice none 0 0) g4 c4 HX.2.1 HX.2.2 H4.1 (H4.2.1.imp_right fun e=>⟨_,e,by simp[World.drew]⟩) H4.2.2
    |false=>
      have HRX:=Qh (show zi ⟨m.play,m.st⟩ 5 x [y]=.error 66 from by rw[HR.1,HR.2,List.getD_cons_zero,z0j H2.1]);go_wp2_with fail;go_ret;exact Or.inr ⟨66,HRX.out,by decide,rfl,(HB1.2.trans H2.2).mono fun _ _ h=>h.elim⟩
theorem z7C{w:World}{own:Nat->Option T}{pb:Nat}{m:M}{g f:Nat}(cl:Nat){x:Str}{ws:List Str}(h:RkAt w own pb m g f x ws)(hst:m.st=3)(hcl:ws.length+1<=cl)(kk:Int)(hk:kk=3\/kk=7)(hkx:zb x=kk):
    Calls Tryz.prog 55 #[.pointer (some ⟨pb,0,none⟩),.int .i64 kk,.slice (some ⟨g,f,none⟩) (ws.length+1) cl] w (qI own pb (zi ⟨m.play,m.st⟩ 5 x ws) w):=by
  obtain⟨L,l,gT,capT,q,oa,pa,hC⟩:=h.cpl hst;have hne:=h.s3 hst;obtain⟨n,hn⟩:=Qx ws.length;have hR:=z7n hst hne hkx hn hC.hq;have hnb:n<=1048576:=(by rw[<-hn];exact h.n);have hCF:qQ m.play x ws=(if zb x=1\/zb x=2 then match y9 (ws.getD 0 []) true with
    |none=>.error 64
    |some b=>.ok (callTo m.play ⟨zb x,0,b⟩)
  else if zb x=4\/zb x=5\/zb x=6 then match zh (ws.getD 0 [])with
    |none=>.error 66
    |some n=>.ok (callTo m.play ⟨zb x,n,[]⟩)
  else .ok (callTo m.play ⟨zb x,0,[]⟩)):=rfl
  rw[hkx]at hCF;have c10:=hC.c10;have c14:=hC.c14;have ca:=hC.ca;have hlw:IntKind.i64.wrap ((L:Int)-1)=(l:Int):=(by have:=hC.hl;have:=hC.hL;rw[IntKind.wrap_i64];omega);have hl0:(0:Int)<=(l:Int):=(by omega);have hlL:(l:Int)<(L:Int):=(by have:=hC.hl;omega);have hq2:=hC.hq2;obtain⟨r,hr⟩:=Qx w.heap.size;have HH:=Qh (Qa h (Qa hC (Qa hne (Qa hst (Qa hr hkx)))));rw[hn];rw[hn]at hcl;by_cases h9:256<=q
  · obtain rfl:q=256:=by omega
    have HE:=Qh (show zi ⟨m.play,m.st⟩ 5 x ws=.error 9 from by rw[hR,if_pos h9]);clear hR h9 hCF h hC hne hst hr hkx hk hn;go_in;go_upto_region 3 with fail;go_quiet(fail);go_wp2_with fail;go_ret;exact Or.inr ⟨9,HE.out,by decide,rfl,((Keep.refl (fun _=>False) w).drewN _).mono fun _ _ h=>h.elim⟩
  have b9:((q:Int)==256)=false:=Qb (by omega);rw[if_neg h9]at hR;rw[if_pos hk]at hR;rw[if_neg (by omega),if_neg (by omega)]at hCF;by_cases h1:n≠0
  · have b1:((n:Int)+1 != 1)=true:=by rw[bne_iff_ne];omega
    have b1':((n:Int)==0)=false:=Qb (by omega);have b1'':((n:Int) != 0)=true:=(by rw[bne_iff_ne];omega);have HE:=Qh (show zi ⟨m.play,m.st⟩ 5 x ws=.error 64 from by rw[hR,if_pos (by rw[decide_eq_false h1])]);clear hR h9 hCF h hC hne hst hr hkx hn h1;rcases hk with rfl|rfl
    all_goals
      go_in;go_upto_region 3 with fail;go_quiet(fail);obtain⟨wD,hwD⟩:=Qx (w.drewN nq);have kD:Keep (fun _=>False) w wD:=(by rw[<-hwD];exact(Keep.refl _ w).drewN nq);have hrD:wD.heap.size=r:=(by rw[<-hwD];exact HH.2.2.2.2.1);rw[hwD];replace ca:=(kD.cell (p:=⟨gT,l,none⟩) HH.2.1.pl id).trans ca;clear hwD c10 c14;go_wp2_with fail;go_ret;exact Or.inr ⟨64,HE.out,by decide,rfl,(kD.alloc _).mono fun _ _ h=>h.elim⟩
  obtain rfl:n=0:=(by omega);obtain rfl:ws=[]:=List.length_eq_zero_iff.1 hn;rw[if_neg (by decide)]at hR;have HR:=Qh (Qa hR hCF);clear hR h9 hCF h hC hne hst hr hkx hn h1;rcases hk with rfl|rfl
  · go_in
    go_upto_region 3 with fail;go_quiet(fail);obtain⟨wD,hwD⟩:=Qx (w.drewN nq);have kD:Keep (fun _=>False) w wD:=(by rw[<-hwD];exact(Keep.refl _ w).drewN nq);have hrD:wD.heap.size=r:=(by rw[<-hwD];exact HH.2.2.2.2.1);rw[hwD];replace ca:=(kD.cell (p:=⟨gT,l,none⟩) HH.2.1.pl id).trans ca;clear hwD c10 c14;go_upto_region 7 with fail;obtain⟨wX,hwX⟩:∃wX,wD.alloc (.cells #[.int .i64 3,.int .i64 0,.slice none 0 0] 76)=wX:=⟨_,rfl⟩;have b0:wX.heap[r]?=some (.cells #[.int .i64 3,.int .i64 0,.slice none 0 0] 76 (0,0)):=(by rw[<-hwX,<-hrD];exact zm wD _);have k1:Keep (fun _=>False) w wX:=(by rw[<-hwX];exact kD.alloc _);rw[hwX];clear hwX;have HB1:=Qh (Qa b0 k1);have HX:=Qh (show wX.heap[r]?=some (.cells #[.int .i64 3,.int .i64 0,.slice none 0 0] 76 (0,0))/\Keep (fun _=>False) w wX/\wX.ownsRow w.heap.size 5 1 (.slice none 0 0) 0 (u8v [])from⟨b0,k1,yi _ _ _ _⟩);have HRX:=Qh (show zi ⟨m.play,m.st⟩ 5 x []=.ok ⟨callTo m.play ⟨3,0,[]⟩,3⟩from by rw[HR.1,HR.2]);clear b0 k1;have c0:=za HX.1 0;have c1:=za HX.1 1;have c2:=za HX.1 2;simp at c0 c1 c2;have caX:=(HX.2.1.cell (p:=⟨gT,l,none⟩) HH.2.1.pl id).trans HH.2.1.ca;have faX:=(HX.2.1.frozen (p:=⟨gT,l,none⟩) HH.2.1.pl id).trans HH.2.1.fa;have hplX:gT<wX.heap.size:=Nat.lt_of_lt_of_le HH.2.1.pl HX.2.1.size;obtain⟨i0,hi0,hz0,hz1,hz2⟩:=z12;have hrow:(wX.drew.alloc (.cells #[.int .i64 3,.int .i64 0,(.slice none 0 0)] 76)).ownsRow 0 76 3 (.slice oa q pa) q ((zx m).flatMap MC.cells):=(by have h:=((HH.1.at_.kept HX.2.1).call_row HH.2.2.1).1.row;rw[HH.2.1.hv,HH.2.1.hq]at h;exact zf h ((Keep.refl (fun _=>False) wX).drew.alloc _) fun _ _=>id);have HROW:=Qh hrow;have HGN:=Qh (show ∀b,(zK m).ownBlock=some b->b≠gT from fun b hb e=>by
      obtain⟨h1,h2⟩:=HH.1.at_.call_row HH.2.2.1;have h4:=h1.tag b hb;rw[HH.2.1.hp,<-e,h4]at h2;exact absurd h2 (by simp))
    clear hrow;go_wp2_with fail;go_region_law(first
      |(refine zy rfl (.tmp 98) (.tmp 100) 56 rfl 0 76 i0 _ 3 40 Tryz.underlying56 hi0 hz0 hz1 hz2 rfl (by decide) (.slice oa q pa) q ((zx m).flatMap MC.cells) rfl HROW.out ⟨wX.heap.size,0,none⟩ 1 1 [.int .i64 3,.int .i64 0,(.slice none 0 0)] rfl rfl (zD _ _ _) (by intro u hu;simp at hu;rcases hu with rfl|rfl|rfl<;>rfl) (by unfold maxLen;omega) (by omega) (Nat.zero_le _) ?_;intro v4 w4 hown hgr hblk;obtain⟨g4,c4,rfl⟩:=ownsRow_succ hown;rw[<-HH.2.1.hv]at hgr;have k4:Keep (fun b=>(zK m).ownBlock=some b) wX w4:=((Keep.refl (fun b=>(zK m).ownBlock=some b) wX).drew.alloc _).trans (zp hgr);have ca4:=(k4.cell (p:=⟨gT,l,none⟩) hplX (fun h=>HGN.out _ h rfl)).trans caX;have fa4:=(k4.frozen (p:=⟨gT,l,none⟩) hplX (fun h=>HGN.out _ h rfl)).trans faX;have H4:=Qh (Qa hown (Qa hblk k4));clear hown hgr hblk k4))
    (all_goals go_wp2_with fail);all_goals go_ret
    all_goals
      rw[HRX.out];exact rpush HH.1.at_ HH.2.2.1 HH.2.1 HH.2.2.2.1 ⟨3,0,[]⟩ (.slice none 0 0) g4 c4 HX.2.1 HX.2.2 H4.1 (H4.2.1.imp_right fun e=>⟨_,e,by simp[World.drew]⟩) H4.2.2
  · go_in
    go_upto_region 3 with fail;go_quiet(fail);obtain⟨wD,hwD⟩:=Qx (w.drewN nq);have kD:Keep (fun _=>False) w wD:=(by rw[<-hwD];exact(Keep.refl _ w).drewN nq);have hrD:wD.heap.size=r:=(by rw[<-hwD];exact HH.2.2.2.2.1);rw[hwD];replace ca:=(kD.cell (p:=⟨gT,l,none⟩) HH.2.1.pl id).trans ca;clear hwD c10 c14;go_upto_region 7 with fail;obtain⟨wX,hwX⟩:∃wX,wD.alloc (.cells #[.int .i64 7,.int .i64 0,.slice none 0 0] 76)=wX:=⟨_,rfl⟩;have b0:wX.heap[r]?=some (.cells #[.int .i64 7,.int .i64 0,.slice none 0 0] 76 (0,0)):=(by rw[<-hwX,<-hrD];exact zm wD _);have k1:Keep (fun _=>False) w wX:=(by rw[<-hwX];exact kD.alloc _);rw[hwX];clear hwX;have HB1:=Qh (Qa b0 k1);have HX:=Qh (show wX.heap[r]?=some (.cells #[.int .i64 7,.int .i64 0,.slice none 0 0] 76 (0,0))/\Keep (fun _=>False) w wX/\wX.ownsRow w.heap.size 5 1 (.slice none 0 0) 0 (u8v [])from⟨b0,k1,yi _ _ _ _⟩);have HRX:=Qh (show zi ⟨m.play,m.st⟩ 5 x []=.ok ⟨callTo m.play ⟨7,0,[]⟩,3⟩from by rw[HR.1,HR.2]);clear b0 k1;have c0:=za HX.1 0;have c1:=za HX.1 1;have c2:=za HX.1 2;simp at c0 c1 c2;have caX:=(HX.2.1.cell (p:=⟨gT,l,none⟩) HH.2.1.pl id).trans HH.2.1.ca;have faX:=(HX.2.1.frozen (p:=⟨gT,l,none⟩) HH.2.1.pl id).trans HH.2.1.fa;have hplX:gT<wX.heap.size:=Nat.lt_of_lt_of_le HH.2.1.pl HX.2.1.size;obtain⟨i0,hi0,hz0,hz1,hz2⟩:=z12;have hrow:(wX.drew.alloc (.cells #[.int .i64 7,.int .i64 0,(.slice none 0 0)] 76)).ownsRow 0 76 3 (.slice oa q pa) q ((zx m).flatMap MC.cells):=(by have h:=((HH.1.at_.kept HX.2.1).call_row HH.2.2.1).1.row;rw[HH.2.1.hv,HH.2.1.hq]at h;exact zf h ((Keep.refl (fun _=>False) wX).drew.alloc _) fun _ _=>id);have HROW:=Qh hrow;have HGN:=Qh (show ∀b,(zK m).ownBlock=some b->b≠gT from fun b hb e=>by
      obtain⟨h1,h2⟩:=HH.1.at_.call_row HH.2.2.1;have h4:=h1.tag b hb;rw[HH.2.1.hp,<-e,h4]at h2;exact absurd h2 (by simp))
    clear hrow;go_wp2_with fail;go_region_law(first
      |(refine zy rfl (.tmp 98) (.tmp 100) 56 rfl 0 76 i0 _ 3 40 Tryz.underlying56 hi0 hz0 hz1 hz2 rfl (by decide) (.slice oa q pa) q ((zx m).flatMap MC.cells) rfl HROW.out ⟨wX.heap.size,0,none⟩ 1 1 [.int .i64 7,.int .i64 0,(.slice none 0 0)] rfl rfl (zD _ _ _) (by intro u hu;simp at hu;rcases hu with rfl|rfl|rfl<;>rfl) (by unfold maxLen;omega) (by omega) (Nat.zero_le _) ?_;intro v4 w4 hown hgr hblk;obtain⟨g4,c4,rfl⟩:=ownsRow_succ hown;rw[<-HH.2.1.hv]at hgr;have k4:Keep (fun b=>(zK m).ownBlock=some b) wX w4:=((Keep.refl (fun b=>(zK m).ownBlock=some b) wX).drew.alloc _).trans (zp hgr);have ca4:=(k4.cell (p:=⟨gT,l,none⟩) hplX (fun h=>HGN.out _ h rfl)).trans caX;have fa4:=(k4.frozen (p:=⟨gT,l,none⟩) hplX (fun h=>HGN.out _ h rfl)).trans faX;have H4:=Qh (Qa hown (Qa hblk k4));clear hown hgr hblk k4))
    (all_goals go_wp2_with fail);all_goals go_ret
    all_goals
      rw[HRX.out];exact rpush HH.1.at_ HH.2.2.1 HH.2.1 HH.2.2.2.1 ⟨7,0,[]⟩ (.slice none 0 0) g4 c4 HX.2.1 HX.2.2 H4.1 (H4.2.1.imp_right fun e=>⟨_,e,by simp[World.drew]⟩) H4.2.2
theorem z9v{w:World}{own:Nat->Option T}{pb:Nat}{m:M}{g f:Nat}(cl:Nat){x:Str}{ws:List Str}(h:RkAt w own pb m g f x ws)(hcl:ws.length+1<=cl)(hk0:zb x≠0):
  Calls Tryz.prog 55 #[.pointer (some ⟨pb,0,none⟩),.int .i64 (zb x),.slice (some ⟨g,f,none⟩) (ws.length+1) cl] w (qI own pb (zi ⟨m.play,m.st⟩ 5 x ws) w):=by
 have hkr:zb x=1\/zb x=2\/zb x=3\/zb x=4\/zb x=5\/zb x=6\/zb x=7:=by
  unfold zb at hk0⊢
  (repeat' split);all_goals first|omega|(exfalso;simp_all)
 by_cases hst:m.st=3
 ·rcases(show(zb x=1\/zb x=2)\/(zb x=4\/zb x=5\/zb x=6)\/(zb x=3\/zb x=7) by omega)with hk|hk|hk
  ·exact z7B cl h hst hcl _ hk rfl
  ·exact z9u cl h hst hcl _ hk rfl
  ·exact z7C cl h hst hcl _ hk rfl
 have HE:=Qh (show zi ⟨m.play,m.st⟩ 5 x ws=.error 63 from by
  unfold zi;have hs:=h.st;rw[if_pos];left;show nxt m.st 5=6;obtain e|e|e|e|e:m.st=0\/m.st=1\/m.st=2\/m.st=4\/m.st=5:=(by omega);all_goals rw[e];rfl)
 have c14:=za h.at_.blk 14;unfold M.rcells at c14;simp at c14;obtain⟨s,hs⟩:=Qx m.st;rw[hs]at hst c14;have e5:((s:Int) != 3)=true:=(by rw[bne_iff_ne];omega);generalize zb x=kk at*
 clear h hst hs hkr hk0;go_in;go_wp2_with fail;go_ret;exact Or.inr ⟨63,HE.out,by decide,rfl,Keep.refl _ _⟩
theorem RkAt.cellTo{w:World}{own own':Nat->Option T}{pb:Nat}{m:M}{g f:Nat}{x:Str}{ws:List Str}(h:RkAt w own pb m g f x ws)(i:Nat)(hi:i<ws.length+1){W:World}(k:To own own' w W):W.cell? ⟨g,f+i,none⟩=some (.string (zc ((x::ws).getD i []))):=by obtain⟨g',f',e,hc,hl⟩:=h.wa i hi;cases e;exact(k.keep.cell (p:=⟨g,f+i,none⟩) hl (by rw[h.free];simp)).trans hc
theorem z7q{w:World}{own:Nat->Option T}{pb:Nat}{m:M}{g f:Nat}(cl:Nat){x:Str}{ws:List Str}(h:RkAt w own pb m g f x ws)(hcl:ws.length+1<=cl):
  Calls Tryz.prog 53 #[.pointer (some ⟨pb,0,none⟩),.slice (some ⟨g,f,none⟩) (ws.length+1) cl] w (qI own pb (zi ⟨m.play,m.st⟩ 6 x ws) w):=by
 have hs5:=h.st;have c14:=za h.at_.blk 14;have c11:=za h.at_.blk 11;unfold M.rcells at c14 c11;simp at c14 c11;obtain⟨oP,cP,hpv⟩:=h.at_.ps.len;rw[hpv]at c11;obtain⟨n,hn⟩:=Qx ws.length;have hnb:n<=1048576:=(by rw[<-hn];exact h.n);obtain⟨q,hq⟩:=Qx m.ps.length;have hqb:q<=65536:=(by rw[<-hq];exact h.few.mem.2.2.1);rw[hq]at c11;obtain⟨s,hs⟩:=Qx m.st;rw[hs]at c14 hs5;have HH:=Qh (Qa h (Qa hn (Qa hq hs)));have hR:zi ⟨m.play,m.st⟩ 6 x ws=if s<2\/4<s then .error 63 else if 65536<q+n then .error 9 else if n=0 then .error 64 else match zI ws with|none=>.error 66|some l=>.ok ⟨{m.play with picks:=m.play.picks++l},4⟩:=by
  unfold zi
  rw[show full m.play 6 ws.length=decide (65536<m.ps.length+ws.length)from rfl,show zF 6 x ws.length=decide (1<=ws.length)from rfl,hq,hn,hs,
   show zH m.play 6 x ws=(match zI ws with|none=>.error 66|some l=>.ok {m.play with picks:=m.play.picks++l})from rfl]
  by_cases h1:s<2\/4<s
  ·rw[if_pos h1,if_pos];left;obtain e|e|e:s=0\/s=1\/s=5:=(by omega);all_goals rw[e];rfl
  ·have e4:nxt s 6=4:=by
    obtain e|e|e:s=2\/s=3\/s=4:=(by omega);all_goals rw[e];rfl
   rw[if_neg h1,e4,if_neg (fun h=>by rcases h with h|⟨h,-⟩<;>exact absurd h (by decide))];by_cases h2:65536<q+n
   ·rw[if_pos h2,if_pos (decide_eq_true h2)]
   ·rw[if_neg h2,if_neg (by rw[decide_eq_false h2];decide)]
    by_cases h3:n=0
    ·rw[if_pos h3,if_pos (decide_eq_false (by omega))]
    ·rw[if_neg h3,if_neg (by rw[decide_eq_true (by omega)];decide)];cases zI ws<;>rfl
 have HNS:=Qh yN;rw[hn];rw[hn]at hcl;clear h hn hq hs hpv;by_cases h1:s<2
 ·have i1:(s:Int)<2:=(by omega);have HE:=Qh (show zi ⟨m.play,m.st⟩ 6 x ws=.error 63 from by rw[hR,if_pos (Or.inl h1)]);clear hR h1;go_in;go_wp2_with fail;go_ret;exact Or.inr ⟨63,HE.out,by decide,rfl,Keep.refl _ _⟩
 have i1:¬(s:Int)<2:=(by omega);by_cases h4:4<s
 ·have i4:(4:Int)<(s:Int):=(by omega);have HE:=Qh (show zi ⟨m.play,m.st⟩ 6 x ws=.error 63 from by rw[hR,if_pos (Or.inr h4)]);clear hR h1 h4;go_in;go_wp2_with fail;go_ret;exact Or.inr ⟨63,HE.out,by decide,rfl,Keep.refl _ _⟩
 have i4:¬(4:Int)<(s:Int):=(by omega);rw[if_neg (by omega)]at hR;obtain⟨rm,hrm⟩:∃rm,q+rm=65536:=⟨65536-q,by omega⟩;have hw1:IntKind.i64.wrap (65536-(q:Int))=(rm:Int):=(by rw[IntKind.wrap_i64];omega);by_cases h9:65536<q+n
 ·have i9:(rm:Int)<(n:Int):=(by omega);have HE:=Qh (show zi ⟨m.play,m.st⟩ 6 x ws=.error 9 from by rw[hR,if_pos h9]);clear hR h1 h4 h9 hrm;go_in;go_wp2_with fail;go_ret;exact Or.inr ⟨9,HE.out,by decide,rfl,Keep.refl _ _⟩
 have i9:¬(rm:Int)<(n:Int):=(by omega);rw[if_neg h9]at hR;by_cases h0:n=0
 ·subst h0;have HE:=Qh (show zi ⟨m.play,m.st⟩ 6 x ws=.error 64 from by rw[hR,if_pos rfl]);clear hR h1 h4 h9 hrm;go_in;go_wp2_with fail;go_ret;exact Or.inr ⟨64,HE.out,by decide,rfl,Keep.refl _ _⟩
 rw[if_neg h0]at hR;have i0':¬(n:Int)+1<2:=(by omega);have HR:=Qh hR;obtain⟨iI,hI0,hI1,hI2,hI3⟩:=zej;have HI:=Qh (Qa hI0 (Qa hI1 (Qa hI2 hI3)));have HQ:=Qh (show q+n<=65536 by omega);clear hR h1 h4 h9 hrm h0 hI0 hI1 hI2 hI3;go_in;go_wp2_with fail;clear c14 c11;go_loopg[5,6,7] n (fun gq s5 s6 s7 wr=>∃k:Nat,gq+k=n/\s5=.int .i64 ((k:Int)+1)/\Hid (∃ns v own',zI (ws.take k)=some ns/\RAt wr own' pb {m with pv:=v,ps:=m.ps++ns}/\To own own' w wr))
 case atStart=>exact⟨0,by omega,rfl,[],m.pv,own,by simp[zI],by simpa using HH.1.at_,To.refl _ _⟩
 case round=>
  obtain⟨k,hgk,rfl,HK⟩:=hrel;obtain⟨ns,v,own',hns,hat,hto⟩:=HK;by_cases hk:k<n
  ·have hkI:(k:Int)+1<(n:Int)+1:=by omega
   have hk0:(0:Int)<=(k:Int)+1:=(by omega);have hkw:k<ws.length:=(by rw[HH.2.1];exact hk);have hcw:wr.cell? ⟨g,f+(k+1),none⟩=some (.string (zc (ws.getD k []))):=HH.1.cellTo (k+1) (by omega) hto;have HNUM:=Qh (HNS.out (ws.getD k []) wr (HH.1.sz (k+1)));have HS:=Qh (show zI (ws.take (k+1))=(zh (ws.getD k [])).map fun n=>ns++[n]from by
    rw[qJ hkw,z06,hns,List.getD_eq_getElem?_getD,List.getElem?_eq_getElem hkw];rfl)
   obtain⟨y,hy⟩:=Qx (ws.getD k []);rw[hy]at hcw HNUM HS;obtain⟨sy,hsy⟩:=Qx (zc y);rw[hsy]at hcw HNUM;have hnl:ns.length=k:=(by rw[qP hns,List.length_take];omega);have HB:=Qh (Qa hns (Qa hat (Qa hto hnl)));obtain⟨j,hj⟩:=Qx (k+1);have hjI:(k:Int)+1=(j:Int):=(by omega);rw[hj]at hcw;rw[hjI]at hkI hk0⊢
   have HJ:=Qh hj;clear hy hsy hns hat hto hkw hj hjI hnl;go_upto_region 11 with(go_at_call 87;refine HNUM.mono ?_;rintro e w2 ⟨n1,ok,rfl,hq1,k2⟩;have H2:=Qh (Qa hq1 k2);clear hq1 k2);cases ok with
   |false=>
    have HE:=Qh (show zi ⟨m.play,m.st⟩ 6 x ws=.error 66 from by
     rw[HR.out,xz ws (k+1) (by rw[HS.out,z0j H2.1];rfl)])
    go_wp2_with fail;go_ret;exact Or.inr ⟨66,HE.out,by decide,rfl,HB.2.2.1.keep.trans (H2.2.mono fun _ _ h=>h.elim)⟩
   |true=>
    have HY:=Qh (xq H2.1);have hat2:=HB.2.1.kept H2.2;have c11:=za hat2.blk 11;have f11:=zd hat2.blk 11;unfold M.rcells at c11;simp at c11;obtain⟨oV,cV,hvv⟩:=hat2.ps.len;obtain⟨r,hr⟩:=Qx ((m.ps++ns).length);have hrb:r<=65536:=(by rw[<-hr,List.length_append,HB.2.2.2,HH.2.2.1];have:=HQ.out;omega);have hv0:v=.slice oV r cV:=(by rw[<-hr];exact hvv);rw[hv0]at c11;have hrow:w2.ownsRow 0 3 1 (.slice oV r cV) r ((m.ps++ns).map (Value.int .i64)):=(by have h:=hat2.ps.row;rw[<-hv0,<-hr];exact h);have HX:=Qh (Qa hrow (Qa hv0 (Qa hr hat2)));have hpbl:pb<w2.heap.size:=lt_of_block hat2.blk;have hvne:(Value.slice oV r cV).ownBlock≠some pb:=fun e=>(by have h1:=hat2.ps.tag pb (by rw[<-hv0]at e;exact e);rw[hat2.tag]at h1;cases h1);have HV:=Qh (Qa hpbl hvne);clear hrow hat2 hvv hr hv0 hpbl hvne;go_wp2_with(at_builtin;refine wpList_append_own_at _ rfl (.tmp 55) (.tmp 57) 37 rfl 0 3 iI _ 1 8 Tryz.underlying37 HI.1 HI.2.1 HI.2.2.1 HI.2.2.2 rfl (by decide) (.slice oV r cV) r ((m.ps++ns).map (Value.int .i64)) rfl (zf HX.1 ((Keep.refl (fun _=>False) w2).alloc _) fun _ _=>id) ⟨w2.heap.size,0,none⟩ 1 1 [.int .i64 n1] rfl rfl (cell_one_new _ _ _) (by simp[Value.oneCell']) (by unfold maxLen;omega) (by omega) (Nat.zero_le _) ?_;intro v4 w4 hown hgr _ hblk;obtain⟨g4,c4,rfl⟩:=ownsRow_succ hown;have k4:Keep (fun b=>(Value.slice oV r cV).ownBlock=some b) w2 w4:=((Keep.refl (fun b=>(Value.slice oV r cV).ownBlock=some b) w2).alloc _).trans (zp hgr);have c11':=(k4.cell (p:=⟨pb,11,none⟩) HV.1 (fun h=>HV.2 h)).trans c11;have f11':=(k4.frozen (p:=⟨pb,11,none⟩) HV.1 (fun h=>HV.2 h)).trans f11;have H4:=Qh (Qa hown (Qa hblk k4));clear hown hgr hblk k4);have hj:=HJ.out;go_roundg(gk-1);all_goals first|omega|skip
    case rel=>
     refine⟨k+1,by omega,by congr 1;omega,?_⟩;have hpush:=HX.2.2.2.pick_push n1 (v':=.slice (some ⟨g4,0,none⟩) (r+1) c4) (by
       rw[show({m with pv:=v,ps:=m.ps++ns}:M).ps.length=r from HX.2.2.1];exact H4.1) (by
       rw[show({m with pv:=v,ps:=m.ps++ns}:M).pv=.slice oV r cV from HX.2.1];exact H4.2.2) (by
       rw[show({m with pv:=v,ps:=m.ps++ns}:M).pv=.slice oV r cV from HX.2.1];exact H4.2.1.imp_right fun e=>⟨_,e,by simp⟩)
     obtain⟨own2,hp1,hp2⟩:=hpush;refine⟨ns++[n1],.slice (some ⟨g4,0,none⟩) (r+1) c4,own2,by rw[HS.out,HY.out];rfl,?_,(HB.2.2.1.trans (To.kept H2.2)).trans hp2⟩;rw[<-List.append_assoc];exact hp1
  ·obtain rfl:k=n:=by omega
   have hkI:¬(k:Int)+1<(k:Int)+1:=(by omega);rw[List.take_of_length_le (by rw[HH.2.1];exact Nat.le_refl _)]at hns;have c14:=za hat.blk 14;have f14:=zd hat.blk 14;unfold M.rcells at c14;simp at c14;have HB:=Qh (Qa hns (Qa hat hto));clear hns hat hto;go_wp2_with fail;go_ret;have hsc:=HB.2.1.scalars (m':={m with pv:=v,ps:=m.ps++ns,st:=4}) ((Keep.refl (fun b=>b=pb) wr).setCell (p:=⟨pb,14,none⟩) (Or.inl rfl) (.int .i64 4)) (by
    rw[zg HB.2.1.blk 14 (.int .i64 4)];rfl) rfl rfl rfl rfl rfl rfl rfl rfl
   exact Or.inl ⟨_,_,_,by rw[HR.out,HB.1],rfl,hsc.1,rfl,rfl,HB.2.2.trans hsc.2⟩
end Sc
end Go.Proofs.YtkkecpamnnojoaaGreatDoor
