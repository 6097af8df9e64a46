/- A part of the proof of ScriptParses: nothing is assumed. By an AI agent. -/
import Derived.Test.YtkkecpamnnojoaaGreatDoorBz20
set_option linter.unusedVariables false
set_option linter.unusedSimpArgs false
set_option maxRecDepth 100000
set_option maxHeartbeats 32000000
namespace Go.Proofs.YtkkecpamnnojoaaGreatDoor
open Go.ChangeShapes Go.WideShapes Go.ChangeAt Go.RowKit Go.Shelf
open Bt Dc By
namespace Sc
theorem z9B(base most:Int)(w:World):Calls Tryz.prog 38 #[.int .i64 base,.int .i64 most] w fun e w'=>e=.returned (.agg #[.int .i64 4096,.int .i64 base,.int .i64 4,.int .i64 1000,.int .i64 most,.int .i64 1000,.float .f64 0,.float .f64 4602678819172646912])/\Keep (fun _=>False) w w':=by go_in;go_wp2;exact bodyPost_ret (v:=.agg #[.int .i64 4096,.int .i64 base,.int .i64 4,.int .i64 1000,.int .i64 most,.int .i64 1000,.float .f64 0,.float .f64 4602678819172646912]) (by simp[results,Tryz.results38,go_sem]) rfl ⟨rfl,(Keep.refl _ _).alloc _⟩
theorem zeT:∃i,Tryz.prog.info? 56=some i/\i.zero=some (.slice none 0 0)/\i.size=1/\i.bytes=24:=by have h:(Tryz.prog.info? 56).map (fun i=>(i.zero,i.size,i.bytes))=some (some (.slice none 0 0),1,24):=(by kernel_rfl);exact info_parts h
theorem z6N(w:World)(u0:Value)(t:TypeId)(g:Nat)(h:w.heap.size=g):∀j u,[u0][j]?=some u->(w.alloc (.cells #[u0] t)).cell? ((⟨g,0,none⟩:Addr).add j)=some u:=by subst h;exact cell_one_new w u0 t
theorem z4j{w:World}{base sz n:Nat}{e:TypeId}{v:Value}{xs:List Value}(h:w.ownsRow base e sz v n xs){g:Nat}(hg:v.ownBlock=some g):base<=g:=by
 rcases h.2 with⟨h1,-⟩|⟨g2,c2,cur,h1,h2,-⟩
 ·rw[h1]at hg;cases hg
 ·rw[h1]at hg;cases hg;exact h2
theorem zb2{w:World}{base sz:Nat}{e:TypeId}{v:Value}{xs:List Value}(h:w.ownsRow base e sz v (0+1) xs):∃o c,v=.slice o 1 c:=by
 rcases h.2 with⟨h1,h2⟩|⟨g,cap,cur,h1,-⟩
 ·omega
 ·exact⟨_,cap,h1⟩
theorem z5S{w:World}{g n:Nat}{cs:Array Value}{t:TypeId}{fr:Nat×Nat}(h:w.heap[g]?=some (.cells cs t fr)):qp w (.slice (some ⟨g,0,none⟩) n n) n cs.toList:=
 ⟨_,n,rfl,Nat.le_refl _,fun i hi=>⟨g,0,rfl,by rw[Nat.zero_add];simp[World.cell?,h],lt_of_block h⟩,fun e=>nomatch e⟩
theorem zaP{w:World}{q:Nat}(h:w.heap.size=q)(o1 o2:Obj):((w.alloc o1).alloc o2).heap.size=q+1+1:=by simp[h]
theorem zaQ{w:World}{q:Nat}(h:w.heap.size=q)(o1:Obj):(w.alloc o1).heap.size=q+1:=by simp[h]
theorem z7g{w:World}{q:Nat}(h:w.heap.size=q)(o1 o2 o3:Obj):q<=(((w.alloc o1).alloc o2).alloc o3).heap.size:=by simp[h];omega
theorem z2U(w:World):qp w (.slice none 0 0) 0 []:=⟨none,0,rfl,Nat.le_refl _,fun i hi=>by simp at hi,fun _=>rfl⟩
theorem zde(w:World):Calls Tryz.prog 16 #[.int .i64 1] w fun e w'=>(∃m:M,e=.returned (.agg m.val)/\m.play=z3T/\Seen w' m)/\Keep (fun _=>False) w w':=by
 obtain⟨iS,hi0,hi1,hi2,hi3⟩:=zeT;have HI:=Qh (Qa hi0 (Qa hi1 (Qa hi2 hi3)));clear hi0 hi1 hi2 hi3;have HP:=Qh (z9B 1 8);go_in;go_wp2_with(go_at_call 38;refine(HP.out _).mono ?_;rintro e w1 ⟨rfl,k1⟩;have HK:=Qh k1;clear k1);obtain⟨q,hq⟩:=Qx w1.heap.size;obtain⟨W2,hW2⟩:∃W2,w1.alloc (.cells #[.int .i64 1048576,.int .i64 4096,.int .i64 1,.int .i64 4,.int .i64 1000,.int .i64 8,.int .i64 1000,.float .f64 0,.float .f64 4602678819172646912,.slice none 0 0,.slice none 0 0,.slice none 0 0,.int .i64 1000,.slice none 0 0] 40)=W2:=⟨_,rfl⟩;have hb2:W2.heap[q]?=some (.cells #[.int .i64 1048576,.int .i64 4096,.int .i64 1,.int .i64 4,.int .i64 1000,.int .i64 8,.int .i64 1000,.float .f64 0,.float .f64 4602678819172646912,.slice none 0 0,.slice none 0 0,.slice none 0 0,.int .i64 1000,.slice none 0 0] 40 (0,0)):=(by rw[<-hW2,<-hq];exact zm _ _);have hs2:W2.heap.size=q+1:=(by rw[<-hW2,<-hq];simp);have k12:Keep (fun _=>False) w1 W2:=(by rw[<-hW2];exact(Keep.refl _ w1).alloc _);obtain⟨r,hr⟩:=Qx w.heap.size;have hbr:W2.heap[r]?=some (.cells m0.val 40 (0,0)):=(by rw[<-hr];exact k12.same (HK.same (zm w _) id) id);have hrq:r<q:=(by rw[<-hq,<-hr];have:=HK.size;simp at this;omega);have kw2:Keep (fun _=>False) w W2:=(((Keep.refl _ w).alloc _).trans HK.out).trans k12;have hwq:w.heap.size<=q:=(by omega);have H2:=Qh (Qa hb2 (Qa hs2 (Qa hbr (Qa hrq (Qa kw2 (Qa hwq hr))))));rw[hW2,hq,hr];have hcv:=Go.Joins.run_convert_bytes_const_at (P:=Tryz.prog) W2 53 5 #[.int .u8 97] 1 1 (q+1) hs2.symm Tryz.underlying53 Tryz.underlying5;clear hW2 hq hr hb2 hbr hrq k12 kw2 HP hwq;go_loopg[4] 1 (fun gq s4 wr=>∃k:Nat,gq+k=1/\s4=.int .i64 (k:Int)/\Hid ((k=0->wr=W2)/\(k=1->∃(v:Value) (m:M),wr.heap[q]?=some (.cells #[.int .i64 1048576,.int .i64 4096,.int .i64 1,.int .i64 4,.int .i64 1000,.int .i64 8,.int .i64 1000,.float .f64 0,.float .f64 4602678819172646912,.slice none 0 0,v,.slice none 0 0,.int .i64 1000,.slice none 0 0] 40 (0,0))/\wr.heap[r]?=some (.cells m0.val 40 (0,0))/\m.val=#[.int .i64 1048576,.int .i64 4096,.int .i64 1,.int .i64 4,.int .i64 1000,.int .i64 8,.int .i64 1000,.float .f64 0,.float .f64 4602678819172646912,.slice none 0 0,v,.slice none 0 0,.int .i64 1000,.slice none 0 0]/\m.play=z3T/\(∀W,Keep (fun g=>g=r) wr W->Seen W m)/\Keep (fun _=>False) w wr)))
 case atStart=>exact⟨0,by omega,rfl,fun _=>rfl,fun h=>by omega⟩
 case round=>
  obtain⟨k,hgk,rfl,h0,h1⟩:=hrel;by_cases hk:k=0
  ·subst hk
   (obtain rfl:wr=W2:=h0 rfl;have c10:=za H2.1 10;have f10:=zd H2.1 10;simp at c10;clear h0 h1;go_wp2_with(at_builtin;refine wpList_append_own_at _ rfl (.tmp 13) (.tmp 18) 36 rfl (q+1) 56 iS _ 1 24 Tryz.underlying36 HI.1 HI.2.1 HI.2.2.1 HI.2.2.2 rfl (by decide) (.slice none 0 0) 0 [] rfl (yi _ _ _ _) ⟨q+1+1+1,0,none⟩ 1 1 [.slice (some ⟨q+1+1,0,none⟩) 1 1] rfl rfl (z6N _ _ _ _ (zaP H2.2.1 _ _)) (by simp[Value.oneCell']) (by unfold maxLen;omega) (by omega) (z7g H2.2.1 _ _ _) ?_;intro v4 w4 hown hgr _ _;obtain⟨oT,cT,rfl⟩:=zb2 hown;have hb1:=z3J hgr (zr (zr (zP wr _ H2.2.1) _) _);have hb2:=z3J hgr (zr (zP _ _ (zaQ H2.2.1 _)) _);have kG:Keep (fun _=>False) wr w4:=((((Keep.refl _ wr).alloc _).alloc _).alloc _).trans (z2g hgr);have c10:=zj kG c10;have f10:=(kG.frozen (p:=⟨q,10,none⟩) (lt_of_block H2.1) id).trans f10;have HQ:=Qh (Qa hown (Qa hb1 (Qa hb2 kG)));clear hown hgr hb1 hb2 kG);obtain⟨W5,hW5⟩:∃W5,w4.setCell ⟨q,10,none⟩ (.slice oT 1 cT)=W5:=⟨_,rfl⟩;rw[hW5];have k45:Keep (fun g=>g=q) w4 W5:=(by rw[<-hW5];exact(Keep.refl (fun g=>g=q) w4).setCell (p:=⟨q,10,none⟩) (Or.inl rfl) _);have hq5:=zg (HQ.2.2.2.same H2.1 id) 10 (.slice oT 1 cT);rw[hW5]at hq5;have hr5:=k45.same (HQ.2.2.2.same H2.2.2.1 id) (fun e=>by have:=H2.2.2.2.1;omega);have h1:=k45.same HQ.2.1 (fun e=>by omega);have h2:=k45.same HQ.2.2.1 (fun e=>by omega);have hrow:=zf HQ.1 k45 fun g hg e=>(by have:=z4j HQ.1 hg;omega);have kw5:=(H2.2.2.2.2.1.trans HQ.2.2.2).own k45 fun i hi=>Or.inr (by have:=H2.2.2.2.2.2.1;omega);have HR:=Qh (Qa hq5 (Qa hr5 (Qa h1 (Qa h2 (Qa hrow kw5)))));clear hW5 k45 hq5 hr5 h1 h2 hrow kw5;go_roundg(gk-1);all_goals first|omega|skip);refine⟨1,by omega,by simp,fun h=>absurd h (by decide),fun _=>⟨(.slice oT 1 cT),⟨1048576,4096,1,4,1000,8,1000,0,4602678819172646912,.slice none 0 0,[],(.slice oT 1 cT),[⟨.slice (some ⟨q+1+1,0,none⟩) 1 1,[⟨⟨1,0,[97]⟩,.slice (some ⟨q+1,0,none⟩) 1 1⟩]⟩],.slice none 0 0,[],1000,.slice none 0 0,[],0⟩,HR.1,HR.2.1,rfl,rfl,?_,HR.2.2.2.2.2⟩⟩
   intro W kW;have hrq:=H2.2.2.2.1;have g1:=kW.same HR.2.2.1 (fun e=>by omega);have g2:=kW.same HR.2.2.2.1 (fun e=>by omega);have g3:=zf HR.2.2.2.2.1 kW fun g hg e=>(by have:=z4j HR.2.2.2.2.1 hg;omega);exact⟨z2U _,.of_row g3,fun t ht=>by
    obtain rfl:=List.mem_singleton.1 ht;exact⟨z5S g2,fun c hc=>by
     obtain rfl:=List.mem_singleton.1 hc;exact z5S g1⟩,z2U _,z2U _,fun e he=>by simp at he⟩
  ·obtain rfl:k=1:=by omega
   obtain⟨v,m,hb,hb',hmv,hmp,hsm,hkm⟩:=h1 rfl;have HM:=Qh (Qa hb (Qa hb' (Qa hmv (Qa hmp (Qa hsm hkm)))));clear h0 h1 hb hb' hmv hmp hsm hkm;go_wp2_with(first
    |(refine yO (.tmp 3) 40 (by rfl) ?_;go_must(refine qZ rfl (.tmp 3) rfl q rfl #[.int .i64 1048576,.int .i64 4096,.int .i64 1,.int .i64 4,.int .i64 1000,.int .i64 8,.int .i64 1000,.float .f64 0,.float .f64 4602678819172646912,.slice none 0 0,v,.slice none 0 0,.int .i64 1000,.slice none 0 0] rfl HM.1 ?_))
    |(refine qK (.tmp 2) (.tmp 21) 40 (by rfl) ?_;go_must(refine qV rfl (.tmp 2) (.tmp 21) rfl r #[.int .i64 1048576,.int .i64 4096,.int .i64 1,.int .i64 4,.int .i64 1000,.int .i64 8,.int .i64 1000,.float .f64 0,.float .f64 4602678819172646912,.slice none 0 0,v,.slice none 0 0,.int .i64 1000,.slice none 0 0] rfl rfl rfl m0.val rfl HM.2.1 (by rw[<-HM.2.2.1];exact(HM.2.2.2.2.1 _ (Keep.refl _ _)).val_one) ?_)))
   have hrow:=setRow_heap wr r m0.val #[.int .i64 1048576,.int .i64 4096,.int .i64 1,.int .i64 4,.int .i64 1000,.int .i64 8,.int .i64 1000,.float .f64 0,.float .f64 4602678819172646912,.slice none 0 0,v,.slice none 0 0,.int .i64 1000,.slice none 0 0] _ _ HM.2.1;refine bodyPost_ret (v:=.agg #[.int .i64 1048576,.int .i64 4096,.int .i64 1,.int .i64 4,.int .i64 1000,.int .i64 8,.int .i64 1000,.float .f64 0,.float .f64 4602678819172646912,.slice none 0 0,v,.slice none 0 0,.int .i64 1000,.slice none 0 0]) (results_cell_row Tryz.results16 _ _ r 40 #[.int .i64 1048576,.int .i64 4096,.int .i64 1,.int .i64 4,.int .i64 1000,.int .i64 8,.int .i64 1000,.float .f64 0,.float .f64 4602678819172646912,.slice none 0 0,v,.slice none 0 0,.int .i64 1000,.slice none 0 0] (0,0) _ rfl hrow Tryz.underlying40 rfl z0R) rfl ?_;have ks:Keep (fun g=>g=r) wr (wr.setRow r #[.int .i64 1048576,.int .i64 4096,.int .i64 1,.int .i64 4,.int .i64 1000,.int .i64 8,.int .i64 1000,.float .f64 0,.float .f64 4602678819172646912,.slice none 0 0,v,.slice none 0 0,.int .i64 1000,.slice none 0 0]):=Keep.setRow (g:=r) (Keep.refl (fun g=>g=r) wr) (Or.inl rfl) _;have hsz:w.heap.size=r:=H2.2.2.2.2.2.2;have hkw:Keep (fun _=>False) w (wr.setRow r #[.int .i64 1048576,.int .i64 4096,.int .i64 1,.int .i64 4,.int .i64 1000,.int .i64 8,.int .i64 1000,.float .f64 0,.float .f64 4602678819172646912,.slice none 0 0,v,.slice none 0 0,.int .i64 1000,.slice none 0 0]):=HM.2.2.2.2.2.own ks fun i hi=>Or.inr (by omega);exact⟨⟨m,by rw[HM.2.2.1],HM.2.2.2.1,HM.2.2.2.2.1 _ ks⟩,hkw⟩
theorem Ev.up'{B:Nat}{w:World}(h:Ev B w):Ev w.heap.size w:=⟨z7Y h.env,z4c h.tb,fun w' k=>h.errs w' (k.mono h.le),fun w' k=>h.mx w' (k.mono h.le)⟩
theorem zfq{m:M}{N:Nat}(ok:PlayOk m.play)(hsm:Sml N m.play)(hN:N<=1048576)(len:m.fs.length<=1099511627776/\m.ts.length<=1099511627776/\m.ps.length<=1099511627776/\m.es.length<=1099511627776):PrOk m:=by
 refine⟨ok,len,⟨fun t ht c hc=>?_,fun e he k hk=>?_⟩,fun hm hk=>zc7 (Pt.of ok hm hk) hsm hN ⟨z5I ok.linger,z5I ok.alpha⟩⟩
 ·have:=hsm.data _ (List.mem_map.2 ⟨t,ht,rfl⟩) _ (List.mem_map.2 ⟨c,hc,rfl⟩);omega
 ·have:=hsm.junk _ (List.mem_map.2 ⟨e,he,rfl⟩) _ (List.mem_map.2 ⟨k,hk,rfl⟩);omega
theorem zeD{m:M}(h:Inv m.play):PrOk m:=by obtain⟨h1,h2,h3,h4,h5,h6⟩:=z1L h.pt.many;exact zfq h.pt.ok h.sm (by omega) ⟨by omega,by omega,by omega,by omega⟩
theorem zeK{m:M}(h:m.play=z3T):PrOk m:=zeD (by rw[h];exact z5c)
theorem zam(w:World)(hE:Ev w.heap.size w):Calls Tryz.prog 7 #[] w fun e w'=>e=.returned (.bool true)/\Keep (fun _=>False) w w':=by
 have HE:=Qh hE;have HP1:=Qh (xx bg1 w hE);have hp1:yl bg1=(z0I bgP,0,0):=(by have h:=z8b zfA (by rw[z8Q z1s z50];decide) (zaz hE) zer;rw[z8Q z1s z50]at h;exact h);have HF:=Qh hp1;clear hE hp1;go_in;go_upto_region 2 with(first
  |(go_at_call 8;refine HP1.mono ?_;rintro e w1 ⟨mA,ownA,nA,cA,rfl,hpA,hlA,-,kA⟩;have HPA:=Qh (Qa hpA (Qa hlA kA));clear hpA hlA kA)
  |(refine qK (.tmp 1) (.tmp 11) 40 (by rfl) ?_;go_must(refine qV rfl (.tmp 1) (.tmp 11) rfl _ mA.val rfl rfl rfl m0.val rfl (zm _ _) HPA.2.1.seen.val_one ?_)))
 obtain⟨z1,z2⟩:=Prod.mk.inj HPA.1;obtain⟨z2,z3⟩:=Prod.mk.inj z2;rw[HF.out]at z1 z2 z3;replace z2:nA=0:=z2;replace z3:cA=0:=z3;subst z2;subst z3;generalize hW7:World.setRow _ _ mA.val=W7;have hbA:W7.heap[w1.heap.size]?=some (.cells mA.val 40 (0,0)):=(by rw[<-hW7];exact setRow_heap _ _ _ mA.val _ _ (zm _ _));have k17:Keep (fun _=>False) w1 W7:=(by rw[<-hW7];exact Keep.setRow ((Keep.refl _ w1).alloc _) (Or.inr (Nat.le_refl _)) _);obtain⟨qA,hqA⟩:=Qx w1.heap.size;rw[hqA]at hbA⊢
 have HB7:=Qh (Qa hbA (Qa (HPA.2.1.seen.kept k17) (Qa (HPA.2.2.trans k17) z1)));have HP2:=Qh (xx bg2 W7 (HE.on (HPA.2.2.trans k17).none).up');clear hW7 hqA hbA k17 z1 HPA HP1;go_upto_region 3 with(first
  |(go_at_call 8;refine HP2.mono ?_;rintro e w8 ⟨mB,ownB,nB,cB,rfl,hpB,hlB,-,kB⟩;have HPB:=Qh (Qa hpB (Qa hlB kB));clear hpB hlB kB)
  |(refine qK (.tmp 4) (.tmp 16) 40 (by rfl) ?_;go_must(refine qV rfl (.tmp 4) (.tmp 16) rfl _ mB.val rfl rfl rfl m0.val rfl (zm _ _) HPB.2.1.seen.val_one ?_)))
 obtain⟨z1,z2⟩:=Prod.mk.inj HPB.1;obtain⟨z2,z3⟩:=Prod.mk.inj z2;rw[zak]at z2 z3;replace z2:nB=1:=z2;replace z3:cB=63:=z3;subst z2;subst z3;generalize hW9:World.setRow _ _ mB.val=W9;have k79:Keep (fun _=>False) W7 W9:=(by rw[<-hW9];exact HPB.2.2.trans (Keep.setRow ((Keep.refl _ w8).alloc _) (Or.inr (Nat.le_refl _)) _));generalize w8.heap.size=qB at*
 have HK9:=Qh (Qa k79 (HB7.2.2.1.trans k79));have HON:=Qh (zde W9);have HEV:=Qh (fun(W:World) (k:Keep (fun _=>False) W9 W)=>(HE.on ((HB7.2.2.1.trans k79).trans k).none).up');clear hW9 k79 z1 HPB HP2;go_upto_region 4 with(first
  |(go_at_call 16;refine HON.mono ?_;rintro e w10 ⟨⟨m1,rfl,hm1,hs1⟩,k10⟩;have HPR:=Qh (z9x m1 w10 (HEV.out _ k10) hs1 (zeK hm1));have H10:=Qh (Qa hm1 k10);clear hm1 hs1 k10)
  |(go_at_call 14;refine HPR.mono ?_;rintro e w11 ⟨rfl,k11⟩;have H11:=Qh k11;clear k11))
 have hpf:xF m1.play=(zT z3T,0):=(by rw[H10.1];unfold xF;rw[if_neg (by rw[z5c.pt.many];decide),if_neg (by rw[z5c.pt.known];decide),if_neg (by rw[z6f z1s z50];decide)]);rw[hpf];have hsz:((zc (zT z3T)).size:Int)=65:=(by rw[zw,z6f z1s z50];rfl);generalize zc (zT z3T)=SP at*
 have kV:Keep (fun _=>False) W7 w11:=(HK9.1.trans H10.2).trans H11.out;have bV:=kV.same HB7.1 id;have hz:=HB7.2.2.2;have hsn:=HB7.2.1.kept kV;have v0:=za bV 0;have v10:=za bV 10;have v13:=za bV 13;have hd:mA.disk=1000:=congrArg Play.disk hz;have htl:mA.ts.length=1:=(by have:=congrArg (fun p=>p.tasks.length) hz;simpa[M.play,z0I,bgP]using this);have hel:mA.es.length=1:=(by have:=congrArg (fun p=>p.ends.length) hz;simpa[M.play,z0I,bgP]using this);have h0:0<mA.ts.length:=(by omega);have hml:(mA.ts[0]).l.length=2:=(by have:=congrArg (fun p=>(p.tasks.getD 0 []).length) hz;simpa[M.play,z0I,bgP,h0]using this);obtain⟨o2,c2,hv2,-,hcs,-⟩:=hsn.ts;obtain⟨o4,c4,hv4⟩:=hsn.es.val;obtain⟨g,f,rfl,hc0,-⟩:=hcs 0 (by simpa using h0);obtain⟨o5,c5,hv5⟩:=(hsn.calls _ (List.getElem_mem h0)).row.val;rw[List.getElem?_map,List.getElem?_eq_getElem h0]at hc0;simp only[Option.map_some]at hc0;rw[hml]at hv5;rw[hv5]at hc0;rw[htl]at hv2;rw[hel]at hv4;have v0':w11.cell? ⟨qA,0,none⟩=some (.int .i64 1000):=(by rw[v0,<-hd];rfl);have v10':w11.cell? ⟨qA,10,none⟩=some (.slice (some ⟨g,f,none⟩) 1 c2):=(by rw[v10,<-hv2];rfl);have v13':w11.cell? ⟨qA,13,none⟩=some (.slice o4 1 c4):=(by rw[v13,<-hv4];rfl);have hc0':w11.cell? ⟨g,f,none⟩=some (.slice o5 2 c5):=hc0;have HF1:=Qh (HB7.2.2.1.trans kV);clear v0 v10 v13 hd htl hel h0 hml hv2 hv4 hcs hv5 hc0 hsn hz bV kV hpf;go_wp2_with fail;go_ret;exact⟨rfl,HF1.out⟩
end Sc
end Go.Proofs.YtkkecpamnnojoaaGreatDoor
namespace Go.Proofs.YtkkecpamnnojoaaGreatDoor
open Go.ChangeShapes Go.WideShapes Go.ChangeAt Go.RowKit
open Bt Dc By
namespace Sc
theorem zfw{W:World}(hL:laidMetH Tryz.prog Rows.scriptPrintsRow.laid W)(hS:W.ShapedOpen Tryz.prog):Ev W.heap.size W:=by
 obtain⟨hopt,hT⟩:=zaH hL;obtain⟨hE,hX⟩:=zf3 hL;refine⟨hE,hT,hX,fun w' k=>?_⟩;obtain⟨m,hm⟩:∃m,W.cell? ⟨1,0,none⟩=some (.int .i64 m):=
  Go.Proofs.cell_of_shapedOpen_int (zero:=#[.int .i64 0]) (t:=3) hS (of_decide_eq_true (by kernel_rfl)) (by kernel_rfl) rfl (by kernel_rfl) (by kernel_rfl) Tryz.underlying3
 exact⟨m,(k.cell (p:=⟨1,0,none⟩) (World.block_lt_of_cell? W _ hm)).trans hm⟩
theorem z9a(s:ByteArray):zc s.data.toList=s:=by cases s;simp[zc]
section
variable {H:Type} {enc:TypeId × Value -> H} {w:World} {base:Nat} {spare:Nat -> Bool} {held:Bool}
theorem zdc{fuel:Nat}{cs:List Value}{x:DataW H×List MemPlace}(h:DataW.trod enc Tryz.prog w base spare held fuel 22 cs=some x):∃(l:List Str) (v:Value),cs=[v]/\qp w v l.length (l.map qE)/\(∀s∈l,s.length<=maxLen)/\l.length<=maxLen:=by
 obtain⟨zs,v,h1,h2,h3,-,h5⟩:=zbq (fun z:Str=>[qE z]) (fun _=>1) (fun z=>z.length<=maxLen) 1 (fun _=>rfl) (by decide) Tryz.underlying22 (by kernel_rfl) (fun n cs' y _ h=>by
  obtain⟨s,rfl,-,h4⟩:=DataW.trod_string Tryz.underlying9 h;refine⟨s.data.toList,?_,?_,zcC _⟩
  ·unfold qE;rw[z9a]
  ·have:s.data.toList.length=s.size:=by rw[Array.length_toList];rfl
   rw[this];exact h4) h
 refine⟨zs,v,h1,?_,h3,h5⟩;have:zs.flatMap (fun z:Str=>[qE z])=zs.map qE:=by
  clear h2 h3 h5
  induction zs with
  |nil=>rfl
  |cons z r ih=>rw[List.flatMap_cons,ih];rfl
 rw[<-this];exact h2
theorem zfh{v:Value}{l:List Str}(h:qp w v l.length (l.map qE)):∃o cap,v=.slice o l.length cap/\qh w o l:=by obtain⟨o,cap,rfl,-,hc,-⟩:=h;refine⟨o,cap,rfl,fun i hi=>?_⟩;obtain⟨g,f,rfl,h1,h2⟩:=hc i (by simpa using hi);refine⟨g,f,rfl,?_,h2⟩;rw[h1,List.getElem?_map,List.getElem?_eq_getElem hi,List.getD_eq_getElem?_getD,List.getElem?_eq_getElem hi];rfl
end
end Sc
end Go.Proofs.YtkkecpamnnojoaaGreatDoor
namespace Go.Proofs.YtkkecpamnnojoaaGreatDoor
open Go.ChangeShapes Go.WideShapes Go.ChangeAt Go.RowKit
open By
namespace Sc
structure KS where
 g:Nat
 n:Nat
 cap:Nat
 xs:List Value
def KS.val(s:KS):Value:=.slice (some ⟨s.g,0,none⟩) s.n s.cap
structure KpBd (b:Nat) (w:World) (kb:Nat) (v:Value) (z:Int) (L:List KS):Prop where
 blk:w.heap[kb]?=some (.cells #[v,.int .i64 z] 27 (0,0))
 row:w.ownsRow 0 53 1 v L.length (L.map KS.val)
 each:∀(i:Nat) (s:KS),L[i]?=some s->w.ownsRow 0 5 1 s.val s.n s.xs
 apart:∀(i j:Nat) (s t:KS),L[i]?=some s->L[j]?=some t->s.g=t.g->i=j
 far:∀(i:Nat) (s:KS),L[i]?=some s->s.g≠kb/\v.ownBlock≠some s.g
 kv:v.ownBlock≠some kb
 low:kb<w.heap.size
 few:(L.length:Int)<=z
 z:z<=4194304
 sm:∀(i:Nat) (s:KS),L[i]?=some s->s.n<=b
theorem KpBd.keep{b:Nat}{w w':World}{kb:Nat}{v:Value}{z:Int}{L:List KS}{bs:Nat->Prop}(h:KpBd b w kb v z L)(k:Keep bs w w')(h1:¬bs kb)(h2:∀g,v.ownBlock=some g->¬bs g)(h3:∀(i:Nat) (s:KS),L[i]?=some s->¬bs s.g):KpBd b w' kb v z L where
 blk:=k.same h.blk h1
 row:=zf h.row k h2
 each:=fun i s hs=>zf (h.each i s hs) k fun g hg=>by cases hg;exact h3 i s hs
 apart:=h.apart
 far:=h.far
 kv:=h.kv
 low:=Nat.lt_of_lt_of_le h.low k.size
 few:=h.few
 z:=h.z
 sm:=h.sm
theorem KpBd.kept{b:Nat}{w w':World}{kb:Nat}{v:Value}{z:Int}{L:List KS}(h:KpBd b w kb v z L)(k:Keep (fun _=>False) w w'):KpBd b w' kb v z L:=h.keep k id (fun _ _=>id) fun _ _ _=>id
theorem KpBd.add{b:Nat}{w w':World}{kb:Nat}{v v':Value}{z z':Int}{L:List KS}(h:KpBd b w kb v z L)(s:KS)(k:Keep (fun g=>g=kb\/v.ownBlock=some g) w w')
  (hb:w'.heap[kb]?=some (.cells #[v',.int .i64 z'] 27 (0,0)))
  (hrow:w'.ownsRow 0 53 1 v' (L.length+1) (L.map KS.val++[s.val]))(hv:v'.ownBlock=v.ownBlock\/∃g,v'.ownBlock=some g/\w.heap.size<=g)
  (hs:w.ownsRow 0 5 1 s.val s.n s.xs)(hne:∀(i:Nat) (t:KS),L[i]?=some t->t.g≠s.g)(h1:s.g≠kb)(h2:v.ownBlock≠some s.g)(hz:z+1<=z')(hz2:z'<=4194304)(hsm:s.n<=b):
  KpBd b w' kb v' z' (L++[s]):=by
 have get:∀i t,(L++[s])[i]?=some t->L[i]?=some t\/(i=L.length/\t=s):=fun i t ht=>by
  rcases Nat.lt_or_ge i L.length with hi|hi
  ·rw[List.getElem?_append_left hi]at ht;exact Or.inl ht
  ·rw[List.getElem?_append_right hi]at ht
   have h0:i-L.length=0:=by
    rcases Nat.eq_zero_or_pos (i-L.length)with h|h
    ·exact h
    ·rw[List.getElem?_eq_none (by simp;omega)]at ht;cases ht
   rw[h0]at ht;simp at ht;exact Or.inr ⟨by omega,ht.symm⟩
 have lt:∀t:KS,w.ownsRow 0 5 1 t.val t.n t.xs->t.g<w.heap.size:=fun t ht=>xE ht rfl;have hfar:∀t:KS,w.ownsRow 0 5 1 t.val t.n t.xs->v.ownBlock≠some t.g->v'.ownBlock≠some t.g:=fun t ht hn e=>by
  rcases hv with hv|⟨g,hv,hl⟩
  ·exact hn (by rw[<-hv];exact e)
  ·rw[hv]at e;cases e;have:=lt t ht;omega
 refine{blk:=hb,row:=by rw[List.length_append,List.map_append];exact hrow,each:=fun i t ht=>?_,apart:=fun i j t u ht hu e=>?_,far:=fun i t ht=>?_,kv:=?_,low:=lt_of_block hb,few:=?_,z:=hz2,sm:=fun i t ht=>?_}
 ·rcases get i t ht with ht|⟨-,rfl⟩
  ·refine zf (h.each i t ht) k fun g hg=>?_
   cases hg;rintro(e|e)
   ·exact(h.far i t ht).1 e
   ·exact(h.far i t ht).2 e
  ·refine zf hs k fun g hg=>?_
   cases hg;rintro(e|e)
   ·exact h1 e
   ·exact h2 e
 ·rcases get i t ht with a|⟨a,b⟩<;>rcases get j u hu with c|⟨c,d⟩
  ·exact h.apart i j t u a c e
  ·exact absurd (e.trans (congrArg KS.g d)) (hne i t a)
  ·exact absurd (e.symm.trans (congrArg KS.g b)) (hne j u c)
  ·omega
 ·rcases get i t ht with ht|⟨-,rfl⟩
  ·exact⟨(h.far i t ht).1,hfar t (h.each i t ht) (h.far i t ht).2⟩
  ·exact⟨h1,hfar t hs h2⟩
 ·rcases hv with hv|⟨g,hv,hl⟩
  ·rw[hv];exact h.kv
  ·rw[hv];intro e;cases e;have:=h.low;omega
 ·have:=h.few;simp;omega
 ·rcases get i t ht with ht|⟨-,rfl⟩
  ·exact h.sm i t ht
  ·exact hsm
theorem z8k{α:Type}{l:List α}{i j:Nat}{t u:α}(hu:(l.set i t)[j]?=some u):(j≠i/\l[j]?=some u)\/(j=i/\u=t):=by
 rw[List.getElem?_set]at hu;split at hu
 ·rename_i e
  split at hu
  ·exact Or.inr ⟨e.symm,(Option.some.inj hu).symm⟩
  ·cases hu
 ·rename_i e;exact Or.inl ⟨fun e'=>e e'.symm,hu⟩
theorem KpBd.turn{b:Nat}{w w':World}{kb:Nat}{v:Value}{z:Int}{L:List KS}(h:KpBd b w kb v z L){i:Nat}{s t:KS}(hi:L[i]?=some s)(hg:t.g=s.g)(k:Keep (fun g=>g=s.g\/v.ownBlock=some g) w w')
  (hrow:w'.ownsRow 0 53 1 v L.length ((L.map KS.val).set i t.val))(ht:w'.ownsRow 0 5 1 t.val t.n t.xs)(hsm:t.n<=b):KpBd b w' kb v z (L.set i t):=by
 have get:=fun j u (hu:(L.set i t)[j]?=some u)=>z8k hu;have hf:=h.far i s hi;refine{blk:=k.same h.blk ?_,row:=by rw[List.length_set,List.map_set];exact hrow,each:=fun j u hu=>?_,apart:=fun j l u x hu hx e=>?_,far:=fun j u hu=>?_,kv:=h.kv,low:=Nat.lt_of_lt_of_le h.low k.size,few:=by rw[List.length_set];exact h.few,z:=h.z,sm:=fun j u hu=>?_}
 ·rintro(e|e)
  ·exact hf.1 e.symm
  ·exact h.kv e
 ·rcases get j u hu with⟨a,c⟩|⟨a,c⟩
  ·refine zf (h.each j u c) k fun g hg=>?_
   cases hg;rintro(e|e)
   ·exact a (h.apart j i u s c hi e)
   ·exact(h.far j u c).2 e
  ·rw[c];exact ht
 ·rcases get j u hu with⟨a,c⟩|⟨a,c⟩<;>rcases get l x hx with⟨d,f⟩|⟨d,f⟩
  ·exact h.apart j l u x c f e
  ·rw[f,hg]at e;rw[d];exact h.apart j i u s c hi e
  ·rw[c,hg]at e;rw[a];exact h.apart i l s x hi f e
  ·omega
 ·rcases get j u hu with⟨a,c⟩|⟨a,c⟩
  ·exact h.far j u c
  ·rw[c,hg];exact hf
 ·rcases get j u hu with⟨a,c⟩|⟨a,c⟩
  ·exact h.sm j u c
  ·rw[c];exact hsm
theorem KpBd.up{b b':Nat}{w:World}{kb:Nat}{v:Value}{z:Int}{L:List KS}(h:KpBd b w kb v z L)(hb:b<=b'):KpBd b' w kb v z L:=⟨h.blk,h.row,h.each,h.apart,h.far,h.kv,h.low,h.few,h.z,fun i s hs=>Nat.le_trans (h.sm i s hs) hb⟩
abbrev z3O:=KpBd 4194304
theorem z3O.start{w:World}{kb:Nat}(h:w.heap[kb]?=some (.cells #[.slice none 0 0,.int .i64 0] 27 (0,0))):z3O w kb (.slice none 0 0) 0 [] where
 blk:=h
 row:=yi _ _ _ _
 each:=fun i s hs=>by simp at hs
 apart:=fun i j s t hs=>by simp at hs
 far:=fun i s hs=>by simp at hs
 kv:=by simp[Value.ownBlock]
 low:=lt_of_block h
 few:=by simp
 z:=by decide
 sm:=fun i s hs=>by simp at hs
def Kp1(kb:Nat)(v:Value)(L:List KS)(x:Value)(w w':World):Prop:=
 ∃(v':Value) (z':Int) (L':List KS),z3O w' kb v' z' L'/\Keep (fun g=>g=kb\/v.ownBlock=some g) w w'/\(∀g,v'.ownBlock=some g->v.ownBlock=some g\/w.heap.size<=g)/\(L'=L\/∃s,L'=L++[s]/\x.ownBlock=some s.g)
def tlt(t u:T):Prop:=t.1<u.1\/(t.1=u.1/\(t.2.1<u.2.1\/(t.2.1=u.2.1/\t.2.2<u.2.2)))
def xK(kb:Nat)(v:Value)(L:List KS)(own:Nat->Option T)(u:T)(w w':World):Prop:=
 ∃(v':Value) (z':Int) (L':List KS),z3O w' kb v' z' L'/\Keep (fun g=>g=kb\/v.ownBlock=some g) w w'/\(∀g,v'.ownBlock=some g->v.ownBlock=some g\/w.heap.size<=g)/\∀s∈L',s∈L\/∃t,own s.g=some t/\tlt t u
theorem xK.start{w:World}{kb:Nat}{v:Value}{z:Int}{L:List KS}(own:Nat->Option T)(u:T)(h:z3O w kb v z L):xK kb v L own u w w:=⟨v,z,L,h,Keep.refl _ _,fun _ h=>Or.inl h,fun _ h=>Or.inl h⟩
theorem xK.up{kb:Nat}{v:Value}{L:List KS}{own:Nat->Option T}{u u':T}{w w':World}(h:xK kb v L own u w w')(hu:∀t,tlt t u->tlt t u'):xK kb v L own u' w w':=by obtain⟨v',z',L',h1,h2,h3,h4⟩:=h;exact⟨v',z',L',h1,h2,h3,fun s hs=>(h4 s hs).imp_right fun⟨t,h5,h6⟩=>⟨t,h5,hu t h6⟩⟩
theorem xK.next{kb:Nat}{v v':Value}{L L':List KS}{own:Nat->Option T}{u u':T}{w w1 w2:World}{x:Value}(h2:Keep (fun g=>g=kb\/v.ownBlock=some g) w w1)(h3:∀g,v'.ownBlock=some g->v.ownBlock=some g\/w.heap.size<=g)
  (h4:∀s∈L',s∈L\/∃t,own s.g=some t/\tlt t u)(k:Kp1 kb v' L' x w1 w2)(hx:∀g,x.ownBlock=some g->own g=some u)(hu:∀t,tlt t u->tlt t u')(huu:tlt u u'):xK kb v L own u' w w2:=by
 obtain⟨v2,z2,L2,k1,k2,k3,k4⟩:=k;refine⟨v2,z2,L2,k1,h2.own k2 fun i hi=>?_,fun g hg=>?_,fun s hs=>?_⟩
 ·rcases hi with hi|hi
  ·exact Or.inl (Or.inl hi)
  ·rcases h3 i hi with h|h
   ·exact Or.inl (Or.inr h)
   ·exact Or.inr h
 ·rcases k3 g hg with h|h
  ·exact h3 g h
  ·exact Or.inr (Nat.le_trans h2.size h)
 ·have old:s∈L'->s∈L\/∃t,own s.g=some t/\tlt t u':=fun hs=>(h4 s hs).imp_right fun⟨t,h5,h6⟩=>⟨t,h5,hu t h6⟩
  rcases k4 with rfl|⟨s',rfl,hs'⟩
  ·exact old hs
  ·rcases List.mem_append.1 hs with hs|hs
   ·exact old hs
   ·obtain rfl:=List.mem_singleton.1 hs;exact Or.inr ⟨u,hx _ hs',huu⟩
theorem xK.keep{kb:Nat}{v:Value}{L:List KS}{own:Nat->Option T}{u:T}{w w':World}(h:xK kb v L own u w w'):Keep (fun g=>g=kb\/v.ownBlock=some g) w w':=by obtain⟨v',z',L',h1,h2,h3,h4⟩:=h;exact h2
theorem zcO(t:T):¬tlt t t:=by unfold tlt;omega
theorem xK.call{kb:Nat}{v:Value}{L:List KS}{own:Nat->Option T}{u:T}{w w1:World}(h:xK kb v L own u w w1)(low:∀g,own g≠none->g<w.heap.size)(hkb:own kb=none)(hv:∀g,v.ownBlock=some g->own g=none)(hL:∀s∈L,own s.g=none)
  {x:Value}(hx:∀g,x.ownBlock=some g->own g=some u):
  ∃(v':Value) (z':Int) (L':List KS),z3O w1 kb v' z' L'/\(∀b,x.ownBlock=some b->b≠kb/\v'.ownBlock≠some b/\∀(i:Nat) (s:KS),L'[i]?=some s->s.g≠b)/\
   ∀w2 u',Kp1 kb v' L' x w1 w2->(∀t,tlt t u->tlt t u')->tlt u u'->xK kb v L own u' w w2:=by
 obtain⟨v',z',L',h1,h2,h3,h4⟩:=h;refine⟨v',z',L',h1,fun b hb=>⟨fun e=>?_,fun e=>?_,fun i s hs e=>?_⟩,fun w2 u' k hu huu=>xK.next h2 h3 h4 k hx hu huu⟩
 ·have:=hx b hb;rw[e,hkb]at this;cases this
 ·have hb':=hx b hb
  rcases h3 b e with h|h
  ·rw[hv b h]at hb';cases hb'
  ·have:=low b (by rw[hb'];simp);omega
 ·have hb':=hx b hb
  rcases h4 s (List.mem_of_getElem? hs)with h|⟨t,h5,h6⟩
  ·rw[<-e,hL s h]at hb';cases hb'
  ·rw[e,hb']at h5;cases h5;exact zcO _ h6
theorem Kp1.from_{kb:Nat}{v:Value}{L:List KS}{x:Value}{w w1 w2:World}(h:Kp1 kb v L x w1 w2)(k:Keep (fun _=>False) w w1):Kp1 kb v L x w w2:=by obtain⟨v',z',L',h1,h2,h3,h4⟩:=h;exact⟨v',z',L',h1,(k.mono fun _ _ h=>h.elim).trans h2,fun g hg=>(h3 g hg).imp_right fun h=>Nat.le_trans k.size h,h4⟩
theorem xK.from_{kb:Nat}{v:Value}{L:List KS}{own:Nat->Option T}{u:T}{w w1 w2:World}(h:xK kb v L own u w1 w2)(k:Keep (fun _=>False) w w1):xK kb v L own u w w2:=by obtain⟨v',z',L',h1,h2,h3,h4⟩:=h;exact⟨v',z',L',h1,(k.mono fun _ _ h=>h.elim).trans h2,fun g hg=>(h3 g hg).imp_right fun h=>Nat.le_trans k.size h,h4⟩
end Sc
end Go.Proofs.YtkkecpamnnojoaaGreatDoor
namespace Go.Proofs.YtkkecpamnnojoaaGreatDoor
open Go.ChangeShapes Go.WideShapes Go.ChangeAt Go.RowKit Go.Shelf
open Bt Dc By
namespace Sc
theorem z61(n cap:Nat)(hn:n<=1099511627776)(hc:cap<=maxLen)(w:World):Calls Tryz.prog 27 #[.int .i64 (n:Int),.int .i64 (cap:Int)] w fun e w'=>e=.returned (.int .i64 ((min cap (n+5000):Nat):Int))/\w'=w:=by unfold maxLen at hc;have e1:((min cap (n+5000):Nat):Int)=min (cap:Int) ((n:Int)+5000):=(by omega);rw[e1];clear e1;go_in;go_wp2;go_ret;exact⟨rfl,rfl⟩
theorem zfu:∃i,Tryz.prog.info? 53=some i/\i.zero=some (.slice none 0 0)/\i.size=1/\i.bytes=24:=by have h:(Tryz.prog.info? 53).map (fun i=>(i.zero,i.size,i.bytes))=some (some (.slice none 0 0),1,24):=(by kernel_rfl);exact info_parts h
theorem z4G(kb:Nat)(v:Value)(z:Int)(L:List KS)(w:World)(h:z3O w kb v z L)(g f:Nat)(o:Option Addr)(n cap:Nat)(xs:List Value)(hc:w.cell? ⟨g,f,none⟩=some (.slice o n cap))(hgk:g≠kb)
    (hs:w.ownsRow 0 5 1 (.slice o n cap) n xs)(hn:n<=1048576)(hnew:∀b,(Value.slice o n cap).ownBlock=some b->b≠kb/\v.ownBlock≠some b/\∀(i:Nat) (s:KS),L[i]?=some s->s.g≠b):
    Calls Tryz.prog 26 #[.pointer (some ⟨kb,0,none⟩),.slice (some ⟨g,f,none⟩) 1 1] w fun e w'=>e=.returned (.tuple #[])/\Kp1 kb v L (.slice o n cap) w w':=by
  obtain⟨oL,pL,hv⟩:∃oL pL,v=.slice oL L.length pL:=by
    rcases h.row.2 with⟨e1,e2⟩|⟨g,c,cur,e1, -⟩
    · exact⟨none,0,by rw[e1,e2]⟩
    · exact⟨_,c,e1⟩
  obtain⟨q,hq⟩:=Qx L.length;have c0:=za h.blk 0;have c1:=za h.blk 1;have f0:=zd h.blk 0;have f1:=zd h.blk 1;simp at c0 c1;rw[hv,hq]at c0;have hz0:0<=z:=(by have:=h.few;omega);have hz1:=h.z;have hcm:cap<=maxLen:=by
    rcases hs.2 with⟨e1, -⟩|⟨g',c',cur,e1, -, -, -,h4, -⟩
    · cases e1;unfold maxLen;omega
    · cases e1;exact h4
  have hq2:q<=4194304:=(by have:=h.few;omega);obtain⟨R,hR⟩:=Qx (min cap (n+5000));have HR:=Qh (fun W=>z61 n cap (by omega) hcm W);rw[hR]at HR;have hR1:(R:Int)<=1099511627776:=(by omega);have hR0:0<=(R:Int):=(by omega);obtain⟨i0,hi0,hiz,his,hib⟩:=zfu;have HH:=Qh (Qa h (Qa hs (Qa hnew (Qa hv (Qa hq hR)))));have HC:=Qh (Qa hn (Qa hcm (Qa hc hgk)));clear h hs hnew hv hq hR hn hcm hgk;go_in;go_wp2_with fail;go_loopg[4] 1 (fun gq s4 wr=>∃k:Nat,gq+k=1/\s4=.int .i64 (k:Int)/\Hid ((k=0->wr=w)/\(k=1->Kp1 kb v L (.slice o n cap) w wr)))
  case atStart=>exact⟨0,by omega,rfl,fun _=>rfl,fun h=>by omega⟩
  case round=>
    obtain⟨k,hgk,rfl,h0,h1⟩:=hrel;by_cases hk:k=0
    · subst hk
      obtain rfl:wr=w:=h0 rfl;clear h0 h1;go_wp2_with fail;go_quiet((go_at_call 27;exact Calls.quiet_of_same ((HR.out _).mono fun _ _ h=>⟨h.1,h.2⟩)));by_cases h1:R=0
      · subst h1
        (go_wp2_with fail;go_roundg(gk-1);all_goals first|omega|skip);exact⟨1,by omega,by simp,fun h=>absurd h (by decide),fun _=>⟨v,z,L,HH.1.kept ((Keep.refl _ _).drewN _),(Keep.refl _ _).drewN _,fun _ h=>Or.inl h,Or.inl rfl⟩⟩
      have h1b:((R:Int)==0)=false:=Qb (by omega);have h1c:¬(R:Int)=0:=(by omega);by_cases h2:4194304<z+(R:Int)
      · go_wp2_with fail
        (go_roundg(gk-1);all_goals first|omega|skip);exact⟨1,by omega,by simp,fun h=>absurd h (by decide),fun _=>⟨v,z,L,HH.1.kept ((Keep.refl _ _).drewN _),(Keep.refl _ _).drewN _,fun _ h=>Or.inl h,Or.inl rfl⟩⟩
      have hz2:z+(R:Int)<=4194304:=(by omega);go_upto_region 6 with fail;generalize hW2:World.setCell _ _ _=W2;have k2:Keep (fun b=>b=kb) wr W2:=(by rw[<-hW2];exact((Keep.refl (fun b=>b=kb) wr).drewN _).setCell (p:=⟨kb,1,none⟩) (Or.inl rfl) _);have b2:W2.heap[kb]?=some (.cells #[v,.int .i64 (z+(R:Int))] 27 (0,0)):=(by rw[<-hW2];exact zg (((Keep.refl (fun _=>False) wr).drewN _).same HH.1.blk id) 1 _);obtain⟨gx,hgx⟩:∃gx,o=some ⟨gx,0,none⟩:=by
        rcases HH.2.1.2 with⟨e1, -⟩|⟨g',c',cur,e1, -⟩
        · cases e1
          have:=HH.2.2.2.2.2;omega
        · cases e1
          exact⟨g',rfl⟩
      subst hgx;have cc:=(k2.cell (p:=⟨g,f,none⟩) (World.block_lt_of_cell? wr _ HC.2.2.1) HC.2.2.2).trans HC.2.2.1;have d0:=za b2 0;have e0:=zd b2 0;simp at d0;rw[HH.2.2.2.1,HH.2.2.2.2.1]at d0;have hvk:=HH.1.kv;have hrow:((W2.drew).alloc (.cells #[.slice (some ⟨gx,0,none⟩) n cap] 53)).ownsRow 0 53 1 (.slice oL q pL) q (L.map KS.val):=(by have h:=HH.1.row;rw[HH.2.2.2.2.1]at h;rw[HH.2.2.2.1,HH.2.2.2.2.1]at h hvk;exact zf (zf h k2 fun b hb e=>hvk (by rw[hb,e])) ((Keep.refl (fun _=>False) W2).drew.alloc _) fun _ _=>id);have hrow2:((W2.alloc (.cells #[.slice (some ⟨gx,0,none⟩) n cap] 53)).drew).ownsRow 0 53 1 (.slice oL q pL) q (L.map KS.val):=hrow;have d1:=((Keep.refl (fun _=>False) W2).alloc (.cells #[.slice (some ⟨gx,0,none⟩) n cap] 53)).cell (p:=⟨kb,0,none⟩) (lt_of_block b2) id;have e1:=((Keep.refl (fun _=>False) W2).alloc (.cells #[.slice (some ⟨gx,0,none⟩) n cap] 53)).frozen (p:=⟨kb,0,none⟩) (lt_of_block b2) id;rw[d0]at d1;rw[e0]at e1;have HROW:=Qh (Qa hrow hrow2);have HW:=Qh (Qa k2 b2);clear hW2 k2 b2 hrow hrow2 hvk c0 c1 f0 f1 hc;go_region_law(first
        |(refine zy rfl (.tmp 47) (.tmp 52) 25 rfl 0 53 i0 _ 1 24 Tryz.underlying25 hi0 hiz his hib rfl (by decide) (.slice oL q pL) q (L.map KS.val) rfl (by first|exact HROW.1|exact HROW.2) ⟨W2.heap.size,0,none⟩ 1 1 [.slice (some ⟨gx,0,none⟩) n cap] rfl rfl (zD _ _ _) (by intro u hu;simp at hu;subst hu;rfl) (by unfold maxLen;omega) (by omega) (Nat.zero_le _) ?_;intro v4 w4 hown hgr hblk;obtain⟨g4,c4,rfl⟩:=ownsRow_succ hown;have k4:Keep (fun b=>(Value.slice oL q pL).ownBlock=some b) W2 w4:=(by first|exact((Keep.refl _ W2).drew.alloc _).trans (zp hgr)|exact((Keep.refl _ W2).alloc _).drew.trans (zp hgr));have cX4:=(k4.cell (p:=⟨kb,0,none⟩) (lt_of_block HW.2) (fun e=>by have h:=HH.1.kv;rw[HH.2.2.2.1,HH.2.2.2.2.1]at h;exact h e)).trans d0;have fX4:=(k4.frozen (p:=⟨kb,0,none⟩) (lt_of_block HW.2) (fun e=>by have h:=HH.1.kv;rw[HH.2.2.2.1,HH.2.2.2.2.1]at h;exact h e)).trans e0;have H4:=Qh (Qa hown (Qa hblk k4));clear hown hgr hblk k4))
      (all_goals go_wp2_with fail);all_goals go_roundg(gk-1)
      (all_goals first|omega|skip);all_goals refine⟨1,by omega,by simp,fun h=>absurd h (by decide),fun _=>⟨.slice (some ⟨g4,0,none⟩) (q+1) c4,z+(R:Int),L++[⟨gx,n,cap,xs⟩],?_⟩⟩
      all_goals
        have hve:v=.slice oL q pL:=(by rw[HH.2.2.2.1,HH.2.2.2.2.1]);have hkp:=HH.1;have hbl:=(H4.2.2.same HW.2 (fun e=>hkp.kv (by rw[hve];exact e)));have hlo:=hkp.low;have hvb:(Value.slice (some ⟨g4,0,none⟩) (q+1) c4).ownBlock=v.ownBlock\/∃b,(Value.slice (some ⟨g4,0,none⟩) (q+1) c4).ownBlock=some b/\wr.heap.size<=b:=by
          rcases H4.2.1 with h|h
          · exact Or.inl (by rw[hve];exact h)
          · refine Or.inr ⟨_,h,?_⟩
            have:=HW.1.size;simp;omega
        have kA:Keep (fun b=>b=kb\/v.ownBlock=some b) wr (w4.setCell ⟨kb,0,none⟩ (.slice (some ⟨g4,0,none⟩) (q+1) c4)):=
          (((HW.1.mono fun _ _ h=>Or.inl h).trans (H4.2.2.mono fun _ _ h=>Or.inr (by rw[hve];exact h))):Keep (fun b=>b=kb\/v.ownBlock=some b) wr w4).setCell (p:=⟨kb,0,none⟩) (Or.inl (Or.inl rfl)) _
        refine⟨hkp.add ⟨gx,n,cap,xs⟩ kA (zg hbl 0 _) ?_ hvb HH.2.1 (fun i t ht=>(HH.2.2.1 gx rfl).2.2 i t ht) (HH.2.2.1 gx rfl).1 (HH.2.2.1 gx rfl).2.1 (by omega) (by omega) (by have:=HC.1;show n<=4194304;omega),kA,fun b hb=>?_,Or.inr ⟨_,rfl,rfl⟩⟩
        · rw[HH.2.2.2.2.1]
          refine zf H4.1 ((Keep.refl (fun b=>b=kb) w4).setCell (p:=⟨kb,0,none⟩) (Or.inl rfl) _) fun b hb e=>?_;rcases hvb with h|⟨b',h,hl⟩
          · exact hkp.kv (by rw[<-h,hb,e])
          · rw[hb]at h;cases h;omega
        · rcases hvb with h|⟨b',h,hl⟩
          · exact Or.inl (by rw[<-h,hb])
          · rw[hb]at h;cases h;exact Or.inr hl
    · obtain rfl:k=1:=by omega
      have HK:=Qh (h1 rfl);clear h0 h1;go_wp2_with fail;go_end0;exact⟨rfl,HK.out⟩
theorem z4F(kb:Nat)(v:Value)(z:Int)(L:List KS)(own:Nat->Option T)(m:M)(w:World)(h:z3O w kb v z L)(hA:LAt w own m)(hkb:own kb=none)(hv:∀g,v.ownBlock=some g->own g=none)(hL:∀s∈L,own s.g=none)
  (hd:∀t∈m.ts,t.l.length<=1099511627776/\∀c∈t.l,c.c.data.length<=1048576)(hj:∀e∈m.es,e.ks.length<=1099511627776/\∀k∈e.ks,k.k.junk.length<=1048576)(hb2:m.ts.length<=1099511627776)(hb4:m.es.length<=1099511627776):
  Calls Tryz.prog 11 #[.pointer (some ⟨kb,0,none⟩),.agg m.val] w fun e w'=>e=.returned (.tuple #[])/\xK kb v L own (9,0,0) w w':=by
 obtain⟨o1,c1,hv1⟩:=hA.fs.len;obtain⟨o2,c2,hv2⟩:=hA.ts.len;obtain⟨o3,c3,hv3⟩:=hA.ps.len;obtain⟨o4,c4,hv4⟩:=hA.es.len;obtain⟨n1,hn1⟩:=Qx m.fs.length;obtain⟨n2,hn2⟩:=Qx m.ts.length;obtain⟨n3,hn3⟩:=Qx m.ps.length;obtain⟨n4,hn4⟩:=Qx m.es.length;unfold M.val;rw[hn4]at hb4;rw[hn2]at hb2;rw[hv1,hv2,hv3,hv4,hn1,hn2,hn3,hn4];obtain⟨q,hq⟩:=Qx w.heap.size;obtain⟨W0,hW0⟩:∃W0,w.alloc (.cells #[.int .i64 m.disk,.int .i64 m.segMax,.int .i64 m.base,.int .i64 m.qcap,.int .i64 m.qbytes,.int .i64 m.pmost,.int .i64 m.pbytes,.float .f64 m.linger,.float .f64 m.alpha,.slice o1 n1 c1,.slice o2 n2 c2,.slice o3 n3 c3,.int .i64 m.most,.slice o4 n4 c4] 40)=W0:=⟨_,rfl⟩;have b0:W0.heap[q]?=some (.cells #[.int .i64 m.disk,.int .i64 m.segMax,.int .i64 m.base,.int .i64 m.qcap,.int .i64 m.qbytes,.int .i64 m.pmost,.int .i64 m.pbytes,.float .f64 m.linger,.float .f64 m.alpha,.slice o1 n1 c1,.slice o2 n2 c2,.slice o3 n3 c3,.int .i64 m.most,.slice o4 n4 c4] 40 (0,0)):=(by rw[<-hW0,<-hq];exact zm _ _);have k0:Keep (fun _=>False) w W0:=(by rw[<-hW0];exact(Keep.refl _ w).alloc _);have e10:W0.cell? ⟨q,10,none⟩=some (.slice o2 n2 c2):=za b0 10;have e13:W0.cell? ⟨q,13,none⟩=some (.slice o4 n4 c4):=za b0 13;have hqk:¬(q=kb\/v.ownBlock=some q):=by
  rintro(e|e)
  ·have:=h.low;omega
  ·have:=xE h.row e;omega
 have hown:∀g,own g≠none->¬(g=kb\/v.ownBlock=some g):=by
  rintro g hg (rfl|e)
  ·exact hg hkb
  ·exact hg (hv g e)
 have hA0:LAt W0 own m:=hA.keep k0 fun _ _=>id;have HH:=Qh (Qa hA0 (Qa hn2 (Qa hn4 (Qa hv2 hv4))));have HK0:=Qh k0;have HO:=Qh (Qa hkb (Qa hv (Qa hL (Qa hqk hown))));have HD:=Qh (Qa hd hj);have HQ:=Qh (lt_of_block b0);have HS:=Qh (xK.start own (4,0,0) (h.kept k0));have H10:=Qh (Qa e10 e13);clear b0 k0 hqk hown hkb hv hL hd hj hA hA0 hv1 hv2 hv3 hv4 hn1 hn2 hn3 hn4 h;go_in;go_wp2_with fail;clear hW0 hq;go_loopg[4,5] n2 (fun gq s4 s5 wr=>∃i:Nat,gq+i=n2/\s4=.int .i64 (i:Int)/\Hid (xK kb v L own (4,i,0) W0 wr))
 case atStart=>exact⟨0,by omega,rfl,HS.out⟩
 case round=>
  obtain⟨i,hgi,rfl,hkp⟩:=hrel;have x10:=(hkp.keep.cell (p:=⟨q,10,none⟩) HQ.out HO.2.2.2.1).trans e10;obtain⟨G,hG⟩:=Qx gk;rw[hG]at hgi;have HGG:=Qh hG;clear hG e13;by_cases hi:i<n2
  ·have hiI:(i:Int)<(n2:Int):=by omega
   have hi0:(0:Int)<=(i:Int):=(by omega);have hil:i<m.ts.length:=(by rw[HH.2.1];exact hi);obtain⟨t,ht⟩:=Qx (m.ts[i]);have hti:m.ts[i]?=some t:=(by rw[List.getElem?_eq_getElem hil,ht]);have htm:t∈m.ts:=(by rw[<-ht];exact List.getElem_mem hil);have hA:=HH.1.keep hkp.keep HO.2.2.2.2;obtain⟨g,cap,e1,cg,-,hgl,-⟩:=yp hA.ts.row (j:=i) (u:=t.v) (by rw[List.getElem?_map,hti];rfl);rw[HH.2.2.2.1,HH.2.1]at e1;cases e1;obtain⟨o5,c5,hv5⟩:=(hA.calls i t hti).row.len;obtain⟨n5,hn5⟩:=Qx t.l.length;rw[hv5,hn5]at cg;have hb5:=(HD.1 t htm).1;rw[hn5]at hb5;have HT:=Qh (Qa hti (Qa hn5 (Qa hv5 (Qa (HD.1 t htm).2 hkp))));clear hkp hti ht hil hA hv5 hn5 hgl htm;go_wp2_with fail;go_loopg[5] n5 (fun gq s5 wr=>∃j:Nat,gq+j=n5/\s5=.int .i64 (j:Int)/\Hid (xK kb v L own (4,i,j) W0 wr))
   case atStart=>exact⟨0,by omega,rfl,HT.2.2.2.2⟩
   case round=>
    obtain⟨j,hgj,rfl,hkp⟩:=hrel;have y10:=(hkp.keep.cell (p:=⟨q,10,none⟩) HQ.out HO.2.2.2.1).trans e10;have hA:=HH.1.keep hkp.keep HO.2.2.2.2;obtain⟨g',cap',e1,yg,-,-,-⟩:=yp hA.ts.row (j:=i) (u:=t.v) (by rw[List.getElem?_map,HT.1];rfl);rw[HH.2.2.2.1,HH.2.1]at e1;cases e1;rw[HT.2.2.1,HT.2.1]at yg;by_cases hj:j<n5
    ·have hjI:(j:Int)<(n5:Int):=by omega
     (have hj0:(0:Int)<=(j:Int):=(by omega);have hjl:j<t.l.length:=(by rw[HT.2.1];exact hj);obtain⟨c,hc⟩:=Qx (t.l[j]);have htj:t.l[j]?=some c:=(by rw[List.getElem?_eq_getElem hjl,hc]);have hcm:c∈t.l:=(by rw[<-hc];exact List.getElem_mem hjl);obtain⟨g2,cap2,e2,cd,-,-,-⟩:=yp (hA.calls i t HT.1).row.row (j:=j*3+2) (u:=c.d) ((xG MC.cells 3 (fun _=>rfl) t.l j 2 c htj (by omega)).trans rfl);rw[HT.2.2.1,HT.2.1]at e2;cases e2;have hdd:=(hA.calls i t HT.1).data j c htj;obtain⟨oD,cD,hvD⟩:=hdd.len;obtain⟨nD,hnD⟩:=Qx c.c.data.length;have hnb:nD<=1048576:=(by rw[<-hnD];exact HT.2.2.2.1 c hcm);rw[hvD,hnD]at cd;have hrw:=hdd.row;have htg:=hdd.tag;rw[hvD,hnD]at hrw;rw[hvD,hnD]at htg;obtain⟨v',z',L',q1,q2,q3⟩:=hkp.call HH.1.low HO.1 HO.2.1 HO.2.2.1 htg;have k1:Keep (fun _=>False) wr (wr.alloc (.cells #[.slice oD nD cD] 53)):=(Keep.refl _ wr).alloc _;have HP:=Qh (z4G kb v' z' L' (wr.alloc (.cells #[.slice oD nD cD] 53)) (q1.kept k1) wr.heap.size 0 oD nD cD _ (za (zm wr _) 0) (by have:=q1.low;omega) (zf hrw k1 fun _ _=>id) hnb q2);have HN:=Qh (Qa q3 k1);clear hkp hA hjl hc htj hcm hdd hvD hnD hnb hrw htg q1 q2 q3 k1;go_wp2_with(go_at_call 26;refine HP.mono ?_;rintro e w2 ⟨rfl,hp⟩;have HZ:=Qh (HN.1 w2 (4,i,j+1) (hp.from_ HN.2) (fun t h=>by unfold tlt at h⊢;simp only[]at h⊢;omega) (by unfold tlt;simp));clear hp);go_roundg(gk-1);all_goals first|omega|skip);exact⟨j+1,by omega,by simp,HZ.out⟩
    ·obtain rfl:j=n5:=by omega
     (have hjI:¬(j:Int)<(j:Int):=(by omega);have HF:=Qh hkp;clear hkp hA;go_wp2_with fail;have hG:=HGG.out;go_roundg(G-1);all_goals first|omega|skip);exact⟨i+1,by omega,by simp,HF.up fun t h=>by unfold tlt at h⊢;simp only[]at h⊢;omega⟩
  ·obtain rfl:i=n2:=by omega
   have hiI:¬(i:Int)<(i:Int):=(by omega);have HS2:=Qh (hkp.up (u':=(8,0,0)) fun t h=>by unfold tlt at h⊢;simp only[]at h⊢;omega);have x13:=(hkp.keep.cell (p:=⟨q,13,none⟩) HQ.out HO.2.2.2.1).trans H10.2;clear hkp e10;go_wp2_with fail;go_loopg[6,7] n4 (fun gq s6 s7 wx=>∃l:Nat,gq+l=n4/\s6=.int .i64 (l:Int)/\Hid (xK kb v L own (8,l,0) W0 wx))
   case atStart=>exact⟨0,by omega,rfl,HS2.out⟩
   case round=>
    obtain⟨l,hgl,rfl,hkp⟩:=hrel;have y13:=(hkp.keep.cell (p:=⟨q,13,none⟩) HQ.out HO.2.2.2.1).trans H10.2;obtain⟨G2,hG2⟩:=Qx gk;rw[hG2]at hgl;have HGG2:=Qh hG2;clear hG2;by_cases hl:l<n4
    ·have hlI:(l:Int)<(n4:Int):=by omega
     have hl0:(0:Int)<=(l:Int):=(by omega);have hll:l<m.es.length:=(by rw[HH.2.2.1];exact hl);obtain⟨t,ht⟩:=Qx (m.es[l]);have hti:m.es[l]?=some t:=(by rw[List.getElem?_eq_getElem hll,ht]);have htm:t∈m.es:=(by rw[<-ht];exact List.getElem_mem hll);have hA:=HH.1.keep hkp.keep HO.2.2.2.2;obtain⟨g,cap,e1,cg,-,hgl,-⟩:=yp hA.es.row (j:=l*3+1) (u:=t.kv) ((xG ME.cells 3 (fun _=>rfl) m.es l 1 t hti (by omega)).trans rfl);rw[HH.2.2.2.2,HH.2.2.1]at e1;cases e1;obtain⟨o5,c5,hv5⟩:=(hA.ends l t hti).keeps.len;obtain⟨n5,hn5⟩:=Qx t.ks.length;rw[hv5,hn5]at cg;have hb5:=(HD.2 t htm).1;rw[hn5]at hb5;have HT:=Qh (Qa hti (Qa hn5 (Qa hv5 (Qa (HD.2 t htm).2 hkp))));clear hkp hti ht hll hA hv5 hn5 hgl htm;go_wp2_with fail;go_loopg[7] n5 (fun gq s7 wr=>∃j:Nat,gq+j=n5/\s7=.int .i64 (j:Int)/\Hid (xK kb v L own (8,l,j) W0 wr))
     case atStart=>exact⟨0,by omega,rfl,HT.2.2.2.2⟩
     case round=>
      obtain⟨j,hgj,rfl,hkp⟩:=hrel;have z13:=(hkp.keep.cell (p:=⟨q,13,none⟩) HQ.out HO.2.2.2.1).trans H10.2;have hA:=HH.1.keep hkp.keep HO.2.2.2.2;obtain⟨g',cap',e1,yg,-,-,-⟩:=yp hA.es.row (j:=l*3+1) (u:=t.kv) ((xG ME.cells 3 (fun _=>rfl) m.es l 1 t HT.1 (by omega)).trans rfl);rw[HH.2.2.2.2,HH.2.2.1]at e1;cases e1;rw[HT.2.2.1,HT.2.1]at yg;by_cases hj:j<n5
      ·have hjI:(j:Int)<(n5:Int):=by omega
       (have hj0:(0:Int)<=(j:Int):=(by omega);have hjl:j<t.ks.length:=(by rw[HT.2.1];exact hj);obtain⟨c,hc⟩:=Qx (t.ks[j]);have htj:t.ks[j]?=some c:=(by rw[List.getElem?_eq_getElem hjl,hc]);have hcm:c∈t.ks:=(by rw[<-hc];exact List.getElem_mem hjl);obtain⟨g2,cap2,e2,cd,-,-,-⟩:=yp (hA.ends l t HT.1).keeps.row (j:=j*2+1) (u:=c.d) ((xG MK.cells 2 (fun _=>rfl) t.ks j 1 c htj (by omega)).trans rfl);rw[HT.2.2.1,HT.2.1]at e2;cases e2;have hdd:=(hA.ends l t HT.1).junk j c htj;obtain⟨oD,cD,hvD⟩:=hdd.len;obtain⟨nD,hnD⟩:=Qx c.k.junk.length;have hnb:nD<=1048576:=(by rw[<-hnD];exact HT.2.2.2.1 c hcm);rw[hvD,hnD]at cd;have hrw:=hdd.row;have htg:=hdd.tag;rw[hvD,hnD]at hrw;rw[hvD,hnD]at htg;obtain⟨v',z',L',q1,q2,q3⟩:=hkp.call HH.1.low HO.1 HO.2.1 HO.2.2.1 htg;have k1:Keep (fun _=>False) wr (wr.alloc (.cells #[.slice oD nD cD] 53)):=(Keep.refl _ wr).alloc _;have HP:=Qh (z4G kb v' z' L' (wr.alloc (.cells #[.slice oD nD cD] 53)) (q1.kept k1) wr.heap.size 0 oD nD cD _ (za (zm wr _) 0) (by have:=q1.low;omega) (zf hrw k1 fun _ _=>id) hnb q2);have HN:=Qh (Qa q3 k1);clear hkp hA hjl hc htj hcm hdd hvD hnD hnb hrw htg q1 q2 q3 k1;go_wp2_with(go_at_call 26;refine HP.mono ?_;rintro e w2 ⟨rfl,hp⟩;have HZ:=Qh (HN.1 w2 (8,l,j+1) (hp.from_ HN.2) (fun t h=>by unfold tlt at h⊢;simp only[]at h⊢;omega) (by unfold tlt;simp));clear hp);go_roundg(gk-1);all_goals first|omega|skip);exact⟨j+1,by omega,by simp,HZ.out⟩
      ·obtain rfl:j=n5:=by omega
       (have hjI:¬(j:Int)<(j:Int):=(by omega);have HF:=Qh hkp;clear hkp hA;go_wp2_with fail;have hG2:=HGG2.out;go_roundg(G2-1);all_goals first|omega|skip);exact⟨l+1,by omega,by simp,HF.up fun t h=>by unfold tlt at h⊢;simp only[]at h⊢;omega⟩
    ·obtain rfl:l=n4:=(by omega);have hlI:¬(l:Int)<(l:Int):=(by omega);have HF:=Qh (hkp.up (u':=(9,0,0)) fun t h=>by unfold tlt at h⊢;simp only[]at h⊢;omega);clear hkp;go_wp2_with fail;go_end0;exact⟨rfl,HF.from_ HK0.out⟩
end Sc
end Go.Proofs.YtkkecpamnnojoaaGreatDoor
