/- A part of the proof of ScriptParses: nothing is assumed. By an AI agent. -/
import Derived.Test.YtkkecpamnnojoaaGreatDoorBz27
set_option linter.unusedVariables false
set_option linter.unusedSimpArgs false
set_option maxRecDepth 100000
set_option maxHeartbeats 32000000
namespace Go.Proofs.YtkkecpamnnojoaaGreatDoor
open Go.ChangeShapes Go.WideShapes Go.ChangeAt Go.RowKit Go.Shelf
open Bt Dc By
namespace Sc
structure Tw (a b:M):Prop where
 disk:b.disk=a.disk
 segMax:b.segMax=a.segMax
 base:b.base=a.base
 qcap:b.qcap=a.qcap
 qbytes:b.qbytes=a.qbytes
 pmost:b.pmost=a.pmost
 pbytes:b.pbytes=a.pbytes
 linger:qc b.linger=qc a.linger
 alpha:qc b.alpha=qc a.alpha
 fs:b.fs=a.fs
 ts:b.ts.map (fun t=>t.l.map (·.c))=a.ts.map (fun t=>t.l.map (·.c))
 ps:b.ps=a.ps
 most:b.most=a.most
 es:b.es.map ME.reopen=a.es.map ME.reopen
theorem Tw.of{a b:M}(h:z0I a.play=z0I b.play):Tw a b:=by unfold z0I M.play at h;simp only[Play.mk.injEq]at h;obtain⟨h1,h2,h3,h4,h5,h6,h7,h8,h9,h10,h11,h12,h13,h14⟩:=h;exact⟨h1.symm,h2.symm,h3.symm,h4.symm,h5.symm,h6.symm,h7.symm,h8.symm,h9.symm,h10.symm,h11.symm,h12.symm,h13.symm,h14.symm⟩
theorem Tw.tlen{a b:M}(h:Tw a b):b.ts.length=a.ts.length:=by have:=congrArg List.length h.ts;simpa using this
theorem Tw.elen{a b:M}(h:Tw a b):b.es.length=a.es.length:=by have:=congrArg List.length h.es;simpa using this
theorem Tw.task{a b:M}(h:Tw a b){i:Nat}(hi:i<a.ts.length)(hi':i<b.ts.length):(b.ts[i]).l.map (·.c)=(a.ts[i]).l.map (·.c):=by have:=congrArg (fun l=>l[i]?) h.ts;simpa[hi,hi']using this
theorem Tw.end_{a b:M}(h:Tw a b){i:Nat}(hi:i<a.es.length)(hi':i<b.es.length):(b.es[i]).reopen=(a.es[i]).reopen:=by have:=congrArg (fun l=>l[i]?) h.es;simpa[hi,hi']using this
theorem zdN(x1 x2 x3 x4 x5 x6:Int)(w:World):(binOp BinOp.neq 34 (.agg #[.int .i64 x1,.int .i64 x2,.int .i64 x3,.int .i64 x4,.int .i64 x5,.int .i64 x6,.float .f64 0,.float .f64 0]) (.agg #[.int .i64 x1,.int .i64 x2,.int .i64 x3,.int .i64 x4,.int .i64 x5,.int .i64 x6,.float .f64 0,.float .f64 0])).run Tryz.prog w=.ok (.bool false) w:=by have hf:∀w:World,(Op.equalIn 9998 30 (.float .f64 0) (.float .f64 0)).run Tryz.prog w=.ok true w:=fun w=>(by kernel_rfl);simp[go_sem,hf]
theorem zZ(W:World)(o1 o2:Obj)(q:Nat)(hs:W.heap.size=q):((W.alloc o1).alloc o2).drew.heap[q]?=some o1/\((W.alloc o1).alloc o2).drew.heap[q+1]?=some o2/\Keep (fun _=>False) W ((W.alloc o1).alloc o2).drew:=by subst hs;exact⟨zr (zm W o1) _,zP _ _ (by simp),(((Keep.refl _ W).alloc _).alloc _).drew⟩
theorem zf2(a b:M)(w:World)(hA:Seen w a)(hB:Seen w b)(h:z0I a.play=z0I b.play)(hl:a.fs.length<=1099511627776/\a.ts.length<=1099511627776/\a.ps.length<=1099511627776/\a.es.length<=1099511627776)
  (hl2:(∀t∈a.ts,t.l.length<=1099511627776/\∀c∈t.l,c.c.data.length<=1099511627776)/\∀e∈a.es,e.ks.length<=1099511627776/\e.fs.length<=1099511627776/\∀k∈e.ks,k.k.junk.length<=1099511627776):
  Calls Tryz.prog 10 #[.agg a.val,.agg b.val] w fun e w'=>e=.returned (.bool true)/\Keep (fun _=>False) w w':=by
 have hT:=Tw.of h;obtain⟨o1,c1,hv1⟩:=hA.fs.val;obtain⟨o2,c2,hv2⟩:=hA.ts.val;obtain⟨o3,c3,hv3⟩:=hA.ps.val;obtain⟨o4,c4,hv4⟩:=hA.es.val;obtain⟨p1,d1,hu1⟩:=hB.fs.val;obtain⟨p2,d2,hu2⟩:=hB.ts.val;obtain⟨p3,d3,hu3⟩:=hB.ps.val;obtain⟨p4,d4,hu4⟩:=hB.es.val;rw[hT.fs]at hu1;rw[hT.tlen]at hu2;rw[hT.ps]at hu3;rw[hT.elen]at hu4;obtain⟨n1,hn1⟩:=Qx a.fs.length;obtain⟨n2,hn2⟩:=Qx a.ts.length;obtain⟨n3,hn3⟩:=Qx a.ps.length;obtain⟨n4,hn4⟩:=Qx a.es.length;rw[hn1]at hv1 hu1;rw[hn2]at hv2 hu2;rw[hn3]at hv3 hu3;rw[hn4]at hv4 hu4;rw[hn1,hn2,hn3,hn4]at hl;obtain⟨hl01,hl02,hl03,hl04⟩:=hl;unfold M.val;rw[hv1,hv2,hv3,hv4,hu1,hu2,hu3,hu4,hT.disk,hT.segMax,hT.base,hT.qcap,hT.qbytes,hT.pmost,hT.pbytes,hT.most];have HCan:=Qh (fun(u z:Nat) (h:qc u=z) (W:World)=>(show Calls Tryz.prog 23 #[.float .f64 u] W fun e w'=>e=.returned (.float .f64 z)/\W=w' from by rw[<-h];exact z88 u W));have HBits:=Qh (fun(z:Nat) (W:World)=>(show Calls Tryz.prog 22 #[.float .f64 z,.float .f64 z] W fun e w'=>e=.returned (.bool true)/\W=w' from by have h:=za2 z z W;rw[decide_eq_true rfl]at h;exact h));have hx7:qc a.linger=qc a.linger:=rfl;have hx8:qc a.alpha=qc a.alpha:=rfl;have hy7:qc b.linger=qc a.linger:=hT.linger;have hy8:qc b.alpha=qc a.alpha:=hT.alpha;have HH:=Qh (Qa hA (Qa hB (Qa hT hl2)));have HN:=Qh (Qa hn1 (Qa hn2 (Qa hn3 hn4)));have HV:=Qh (Qa hv1 (Qa hv2 (Qa hv3 hv4)));have HU:=Qh (Qa hu1 (Qa hu2 (Qa hu3 hu4)));obtain⟨F,hF⟩:=Qx qc;rw[hF]at HCan hx7 hx8 hy7 hy8;clear hF;obtain⟨z7,hz7⟩:=Qx (F a.linger);obtain⟨z8,hz8⟩:=Qx (F a.alpha);rw[hz7]at hx7 hy7;rw[hz8]at hx8 hy8;replace hx7:=hz7;replace hx8:=hz8;clear hz7 hz8;have HX:=Qh (Qa hx7 (Qa hy7 (Qa hx8 hy8)));clear hx7 hy7 hx8 hy8;generalize a.linger=x7 at*
 generalize a.alpha=x8 at*
 generalize b.linger=y7 at*
 generalize b.alpha=y8 at*
 generalize a.disk=x0 at*
 generalize a.segMax=x1 at*
 generalize a.base=x2 at*
 generalize a.qcap=x3 at*
 generalize a.qbytes=x4 at*
 generalize a.pmost=x5 at*
 generalize a.pbytes=x6 at*
 generalize a.most=x9 at*
 obtain⟨q,hq⟩:=Qx w.heap.size;obtain⟨W0,hW0⟩:∃W0,w.alloc (.cells #[.int .i64 x0,.int .i64 x1,.int .i64 x2,.int .i64 x3,.int .i64 x4,.int .i64 x5,.int .i64 x6,.float .f64 x7,.float .f64 x8,.slice o1 n1 c1,.slice o2 n2 c2,.slice o3 n3 c3,.int .i64 x9,.slice o4 n4 c4] 40)=W0:=⟨_,rfl⟩;obtain⟨W1,hW1⟩:∃W1,W0.alloc (.cells #[.int .i64 x0,.int .i64 x1,.int .i64 x2,.int .i64 x3,.int .i64 x4,.int .i64 x5,.int .i64 x6,.float .f64 y7,.float .f64 y8,.slice p1 n1 d1,.slice p2 n2 d2,.slice p3 n3 d3,.int .i64 x9,.slice p4 n4 d4] 40)=W1:=⟨_,rfl⟩;have hs0:W0.heap.size=q+1:=(by rw[<-hW0,<-hq];simp);have hs1:W1.heap.size=q+1+1:=(by rw[<-hW1,<-hs0];simp);have b0:W0.heap[q]?=some (.cells #[.int .i64 x0,.int .i64 x1,.int .i64 x2,.int .i64 x3,.int .i64 x4,.int .i64 x5,.int .i64 x6,.float .f64 x7,.float .f64 x8,.slice o1 n1 c1,.slice o2 n2 c2,.slice o3 n3 c3,.int .i64 x9,.slice o4 n4 c4] 40 (0,0)):=(by rw[<-hW0,<-hq];exact zm _ _);have b1:W1.heap[q+1]?=some (.cells #[.int .i64 x0,.int .i64 x1,.int .i64 x2,.int .i64 x3,.int .i64 x4,.int .i64 x5,.int .i64 x6,.float .f64 y7,.float .f64 y8,.slice p1 n1 d1,.slice p2 n2 d2,.slice p3 n3 d3,.int .i64 x9,.slice p4 n4 d4] 40 (0,0)):=(by rw[<-hW1,<-hs0];exact zm _ _);have k0:Keep (fun _=>False) w W0:=(by rw[<-hW0];exact(Keep.refl _ w).alloc _);have k1:Keep (fun _=>False) W0 W1:=(by rw[<-hW1];exact(Keep.refl _ W0).alloc _);have b01:=k1.same b0 id;have HK:=Qh (Qa (k0.trans k1) (Qa b01 b1));have f1:W1.cell? ⟨q,1,none⟩=some (.int .i64 x1):=za b01 1;have f2:W1.cell? ⟨q,2,none⟩=some (.int .i64 x2):=za b01 2;have f3:W1.cell? ⟨q,3,none⟩=some (.int .i64 x3):=za b01 3;have f4:W1.cell? ⟨q,4,none⟩=some (.int .i64 x4):=za b01 4;have f5:W1.cell? ⟨q,5,none⟩=some (.int .i64 x5):=za b01 5;have f6:W1.cell? ⟨q,6,none⟩=some (.int .i64 x6):=za b01 6;have f7:W1.cell? ⟨q,7,none⟩=some (.float .f64 x7):=za b01 7;have f8:W1.cell? ⟨q,8,none⟩=some (.float .f64 x8):=za b01 8;have g1:W1.cell? ⟨q+1,1,none⟩=some (.int .i64 x1):=za b1 1;have g2:W1.cell? ⟨q+1,2,none⟩=some (.int .i64 x2):=za b1 2;have g3:W1.cell? ⟨q+1,3,none⟩=some (.int .i64 x3):=za b1 3;have g4:W1.cell? ⟨q+1,4,none⟩=some (.int .i64 x4):=za b1 4;have g5:W1.cell? ⟨q+1,5,none⟩=some (.int .i64 x5):=za b1 5;have g6:W1.cell? ⟨q+1,6,none⟩=some (.int .i64 x6):=za b1 6;have g7:W1.cell? ⟨q+1,7,none⟩=some (.float .f64 y7):=za b1 7;have g8:W1.cell? ⟨q+1,8,none⟩=some (.float .f64 y8):=za b1 8;clear hA hB h hT hv1 hv2 hv3 hv4 hu1 hu2 hu3 hu4 hn1 hn2 hn3 hn4 hl2 b0 b01 b1 k0 k1;go_in;go_upto_region 1 with fail;clear hW0 hW1;go_cut[5,6]from 16 to 19 (fun s5 s6 wx=>∃bx by_:Nat,s5=.pointer (some ⟨bx,0,none⟩)/\s6=.pointer (some ⟨by_,0,none⟩)/\Hid (wx.heap[bx]?=some (.cells #[.int .i64 x1,.int .i64 x2,.int .i64 x3,.int .i64 x4,.int .i64 x5,.int .i64 x6,.float .f64 x7,.float .f64 x8] 34 (0,0))/\wx.heap[by_]?=some (.cells #[.int .i64 x1,.int .i64 x2,.int .i64 x3,.int .i64 x4,.int .i64 x5,.int .i64 x6,.float .f64 y7,.float .f64 y8] 34 (0,0))/\bx≠by_/\q+1<bx/\q+1<by_/\Keep (fun _=>False) W1 wx))
 case first=>
  go_region;all_goals(go_wp2_with fail;go_meet)
  all_goals
   first
   |exact⟨_,_,rfl,rfl,(zZ W1 _ _ _ hs1).1,(zZ W1 _ _ _ hs1).2.1,by omega,by omega,by omega,(zZ W1 _ _ _ hs1).2.2⟩
   |exact⟨_,_,rfl,rfl,(zZ W1 _ _ _ hs1).2.1,(zZ W1 _ _ _ hs1).1,by omega,by omega,by omega,(zZ W1 _ _ _ hs1).2.2⟩
 case rest=>
  obtain⟨bx,by_,rfl,rfl,hbx,hby,hne,hqx,hqy,hkc⟩:=hcut;have HC:=Qh (Qa hbx (Qa hby (Qa hne (Qa hqx (Qa hqy hkc)))));have e6:=za hbx 6;have e7:=za hbx 7;have i6:=za hby 6;have i7:=za hby 7;simp at e6 e7 i6 i7;have fe6:=zd hbx 6;have fe7:=zd hbx 7;have fi6:=zd hby 6;have fi7:=zd hby 7;have hne':¬bx=by_:=hne;have hne2:¬by_=bx:=fun e=>hne e.symm;clear f1 f2 f3 f4 f5 f6 f7 f8 g1 g2 g3 g4 g5 g6 g7 g8 hbx hby hkc hne hqx hqy;go_wp2_with fail;go_quiet(first|(go_at_call 23;exact Calls.quiet_of_same ((HCan.out _ _ (by first|exact HX.1|exact HX.2.1|exact HX.2.2.1|exact HX.2.2.2) _).mono fun _ _ h=>⟨h.1,h.2.symm⟩))|(go_at_call 22;exact Calls.quiet_of_same ((HBits.out _ _).mono fun _ _ h=>⟨h.1,h.2.symm⟩)));go_upto_region 4 with fail;go_cut[]from 42 to 49 (fun wx=>Hid (wx.heap[bx]?=some (.cells #[.int .i64 x1,.int .i64 x2,.int .i64 x3,.int .i64 x4,.int .i64 x5,.int .i64 x6,.float .f64 0,.float .f64 0] 34 (0,0))/\wx.heap[by_]?=some (.cells #[.int .i64 x1,.int .i64 x2,.int .i64 x3,.int .i64 x4,.int .i64 x5,.int .i64 x6,.float .f64 0,.float .f64 0] 34 (0,0))/\Keep (fun _=>False) W1 wx))
  case first=>
   go_wp2_with fail;go_meet;have hx0:(wc.drewN nq).heap[bx]?=_:=HC.1;have hy0:(wc.drewN nq).heap[by_]?=_:=HC.2.1;refine⟨?_,?_,?_⟩
   ·exact zS (zg (zS (zg hx0 6 (.float .f64 0)) hne' 6 _) 7 (.float .f64 0)) hne' 7 _
   ·exact zg (zS (zg (zS hy0 hne2 6 _) 6 (.float .f64 0)) hne2 7 _) 7 (.float .f64 0)
   ·refine HC.2.2.2.2.2.own (bs:=fun g=>g=bx\/g=by_) ?_ fun i hi=>Or.inr (by have:=HC.2.2.2.1;have:=HC.2.2.2.2.1;omega);exact(((((Keep.refl _ wc).drewN nq).setCell (p:=⟨bx,6,none⟩) (Or.inl (Or.inl rfl)) _).setCell (p:=⟨by_,6,none⟩) (Or.inl (Or.inr rfl)) _).setCell (p:=⟨bx,7,none⟩) (Or.inl (Or.inl rfl)) _).setCell (p:=⟨by_,7,none⟩) (Or.inl (Or.inr rfl)) _
  case rest=>
   obtain⟨hbx,hby,hkc⟩:=hcut;clear e6 e7 i6 i7 fe6 fe7 fi6 fi7;have j0:=za hbx 0;have j1:=za hbx 1;have j2:=za hbx 2;have j3:=za hbx 3;have j4:=za hbx 4;have j5:=za hbx 5;have j6:=za hbx 6;have j7:=za hbx 7;have l0:=za hby 0;have l1:=za hby 1;have l2:=za hby 2;have l3:=za hby 3;have l4:=za hby 4;have l5:=za hby 5;have l6:=za hby 6;have l7:=za hby 7;simp at j0 j1 j2 j3 j4 j5 j6 j7 l0 l1 l2 l3 l4 l5 l6 l7;have ba:=hkc.same HK.2.1 id;have bb:=hkc.same HK.2.2 id;have HBB:=Qh (Qa ba (Qa bb hkc));have f0:=za ba 0;have f9:=za ba 9;have f10:=za ba 10;have f11:=za ba 11;have f12:=za ba 12;have f13:=za ba 13;have g0:=za bb 0;have g9:=za bb 9;have g10:=za bb 10;have g11:=za bb 11;have g12:=za bb 12;have g13:=za bb 13;simp at f0 f9 f10 f11 f12 f13 g0 g9 g10 g11 g12 g13;have heng:=zdN x1 x2 x3 x4 x5 x6;have hsa:=HH.1.fs;have hsb:=HH.2.1.fs;rw[HV.1]at hsa;rw[HU.1,HH.2.2.1.fs]at hsb;have HEF:=Qh (fun(W:World) (k:Keep (fun _=>False) w W)=>(z8M _ _ a.fs W (hsa.kept k) (hsb.kept k) (by rw[HN.1];exact hl01)).mono fun e w' h=>(⟨h.1,by rw[h.2];exact(Keep.refl _ W).drewN _⟩:e=.returned (.bool true)/\Keep (fun _=>False) W w'));clear hsa hsb ba bb hbx hby hkc;go_upto_region 5 with fail;go_cut[101]from 50 to 100 (fun s101 wx=>s101=.bool false/\Hid (Keep (fun _=>False) W1 wx))
   case first=>
    go_wp2_with(go_at_call 24;refine(HEF.out _ (HK.1.trans HBB.2.2)).mono ?_;rintro e w' ⟨rfl,kx⟩;have f10:=zj kx f10;have f11:=zj kx f11;have f12:=zj kx f12;have f13:=zj kx f13;have g10:=zj kx g10;have g11:=zj kx g11;have g12:=zj kx g12;have g13:=zj kx g13;have HKX:=Qh kx;clear kx);go_meet;exact⟨rfl,HBB.2.2.trans HKX.out⟩
   case rest=>
    obtain⟨rfl,hkc⟩:=hcut;have HKC:=Qh hkc;clear hkc j0 j1 j2 j3 j4 j5 j6 j7 l0 l1 l2 l3 l4 l5 l6 l7 f0 f9 f10 f11 f12 f13 g0 g9 g10 g11 g12 g13 heng HEF HBB HBits HCan;have f10:=za (HKC.same HK.2.1 id) 10;have g10:=za (HKC.same HK.2.2 id) 10;simp at f10 g10;go_wp2_with fail;clear f10 g10;go_loopg[7,8,9,10] n2 (fun gq s7 s8 s9 s10 wx=>∃i:Nat,gq+i=n2/\s7=.int .i64 (i:Int)/\Hid (Keep (fun _=>False) W1 wx))
    case atStart=>exact⟨0,by omega,rfl,HKC.out⟩
    case round=>
     obtain⟨i,hgi,rfl,hkp⟩:=hrel;have f10:=za (hkp.same HK.2.1 id) 10;have g10:=za (hkp.same HK.2.2 id) 10;simp at f10 g10;obtain⟨G,hG⟩:=Qx gk;rw[hG]at hgi;have HGG:=Qh hG;clear hG HKC;by_cases hi:i<n2
     ·have hiI:(i:Int)<(n2:Int):=by omega
      have hi0:(0:Int)<=(i:Int):=(by omega);have hia:i<a.ts.length:=(by rw[HN.2.1];exact hi);have hib:i<b.ts.length:=(by rw[HH.2.2.1.tlen];exact hia);have kw:=HK.1.trans hkp;obtain⟨o',c',e',-,hcs,-⟩:=HH.1.ts;rw[HV.2.1,HN.2.1]at e';cases e';obtain⟨gA,fA,rfl,hcA,hlA⟩:=hcs i (by simpa using hia);obtain⟨o',c',e',-,hcs',-⟩:=HH.2.1.ts;rw[HU.2.1,HH.2.2.1.tlen,HN.2.1]at e';cases e';obtain⟨gB,fB,rfl,hcB,hlB⟩:=hcs' i (by simpa using hib);have hta:=HH.1.calls _ (List.getElem_mem hia);have htb:=HH.2.1.calls _ (List.getElem_mem hib);have htw:=HH.2.2.1.task hia hib;have hbd:=HH.2.2.2.1 _ (List.getElem_mem hia);obtain⟨tA,htA⟩:=Qx (a.ts[i]);obtain⟨tB,htB⟩:=Qx (b.ts[i]);have hcA':wr.cell? ⟨gA,fA+i,none⟩=some tA.v:=(by rw[(kw.cell (p:=⟨gA,fA+i,none⟩) hlA id).trans hcA,List.getElem?_map,List.getElem?_eq_getElem hia,htA];rfl);have hcB':wr.cell? ⟨gB,fB+i,none⟩=some tB.v:=(by rw[(kw.cell (p:=⟨gB,fB+i,none⟩) hlB id).trans hcB,List.getElem?_map,List.getElem?_eq_getElem hib,htB];rfl);rw[htA]at hta htw hbd;rw[htB]at htb htw;have hlen:tB.l.length=tA.l.length:=(by have:=congrArg List.length htw;simpa using this);obtain⟨oA,cA,hvA,-,hcsA,-⟩:=hta.row;obtain⟨oB,cB,hvB,-,hcsB,-⟩:=htb.row;rw[hlen]at hvB;obtain⟨n5,hn5⟩:=Qx tA.l.length;rw[hn5]at hvA hvB;rw[hvA]at hcA';rw[hvB]at hcB';have hb5:n5<=1099511627776:=(by rw[<-hn5];exact hbd.1);have HCA:=Qh (fun(W:World) (k:Keep (fun _=>False) w W)=>(show W.cell? ⟨gA,fA+i,none⟩=some (.slice oA n5 cA)from by rw[(k.cell (p:=⟨gA,fA+i,none⟩) hlA id).trans hcA,List.getElem?_map,List.getElem?_eq_getElem hia,htA,<-hvA];rfl));have HCB:=Qh (fun(W:World) (k:Keep (fun _=>False) w W)=>(show W.cell? ⟨gB,fB+i,none⟩=some (.slice oB n5 cB)from by rw[(k.cell (p:=⟨gB,fB+i,none⟩) hlB id).trans hcB,List.getElem?_map,List.getElem?_eq_getElem hib,htB,<-hvB];rfl));have HT:=Qh (Qa hcsA (Qa hcsB (Qa hta.data (Qa htb.data (Qa htw (Qa hbd.2 (Qa hn5 (Qa hlen hkp))))))));clear hcs hcs' hcA hcB hlA hlB hta htb htw hbd htA htB hlen hvA hvB hcsA hcsB hn5 kw hia hib hkp;go_upto_region 10 with fail;go_quiet(fail);go_wp2_with fail;clear f10 g10 hcA' hcB';go_loopg[8,9,10] n5 (fun gq s8 s9 s10 wx=>∃k:Nat,gq+k=n5/\s8=.int .i64 (k:Int)/\Hid (Keep (fun _=>False) W1 wx))
      case atStart=>exact⟨0,by omega,rfl,HT.2.2.2.2.2.2.2.2.drewN _⟩
      case round=>
       obtain⟨k,hgk,rfl,hkj⟩:=hrel;have f10:=za (hkj.same HK.2.1 id) 10;simp at f10;have g10:=za (hkj.same HK.2.2 id) 10;simp at g10;have kw:=HK.1.trans hkj;have cA1:=HCA.out _ kw;have cB1:=HCB.out _ kw;by_cases hk:k<n5
       ·have hkI:(k:Int)<(n5:Int):=by omega
        have hk0:(0:Int)<=(k:Int):=(by omega);have hka:k<tA.l.length:=(by rw[HT.2.2.2.2.2.2.1];exact hk);have hkb:k<tB.l.length:=(by rw[HT.2.2.2.2.2.2.2.1];exact hka);obtain⟨gA2,fA2,rfl,-⟩:=HT.1.some (by rw[zB _ 3 (fun _=>rfl)];omega);obtain⟨gB2,fB2,rfl,-⟩:=HT.2.1.some (by rw[zB _ 3 (fun _=>rfl)];omega);have hA2:=HT.1.kept kw;have hB2:=HT.2.1.kept kw;have d0:=hA2.get 3 (fun _=>rfl) (List.getElem?_eq_getElem hka) 0 (by omega);have d1':=hA2.get 3 (fun _=>rfl) (List.getElem?_eq_getElem hka) 1 (by omega);have d2':=hA2.get 3 (fun _=>rfl) (List.getElem?_eq_getElem hka) 2 (by omega);have e0:=hB2.get 3 (fun _=>rfl) (List.getElem?_eq_getElem hkb) 0 (by omega);have e1:=hB2.get 3 (fun _=>rfl) (List.getElem?_eq_getElem hkb) 1 (by omega);have e2:=hB2.get 3 (fun _=>rfl) (List.getElem?_eq_getElem hkb) 2 (by omega);have hcc:(tB.l[k]).c=(tA.l[k]).c:=(by have:=congrArg (fun l=>l[k]?) HT.2.2.2.2.1;simpa[hka,hkb]using this);unfold MC.cells at d0 d1' d2' e0 e1 e2;simp at d0 d1' d2' e0 e1 e2;have hdA:=HT.2.2.1 _ (List.getElem_mem hka);have hdB:=HT.2.2.2.1 _ (List.getElem_mem hkb);have hdn:=HT.2.2.2.2.2.1 _ (List.getElem_mem hka);rw[hcc]at e0 e1 hdB;obtain⟨dA,hdA'⟩:=Qx ((tA.l[k]).d);obtain⟨dB,hdB'⟩:=Qx ((tB.l[k]).d);rw[hdA']at d2' hdA;rw[hdB']at e2 hdB;obtain⟨cc,hc2⟩:=Qx ((tA.l[k]).c);rw[hc2]at d0 d1' e0 e1 hdA hdB hdn;obtain⟨oD,cD,hvD⟩:=hdA.val;obtain⟨oE,cE,hvE⟩:=hdB.val;have HED:=Qh (fun(W:World) (k:Keep (fun _=>False) w W)=>(z8L _ _ cc.data W (hdA.kept k) (hdB.kept k) hdn).mono fun e w' h=>(⟨h.1,by rw[h.2];exact(Keep.refl _ W).drewN _⟩:e=.returned (.bool true)/\Keep (fun _=>False) W w'));subst hvD;subst hvE;obtain⟨nD,hnD⟩:=Qx cc.data.length;rw[hnD]at HED d2' e2;generalize cc.kind=ck at*
        generalize cc.lsn=cl at*
        have HKJ:=Qh hkj;clear hA2 hB2 hcc hdA hdB hdn hdA' hdB' hc2 hnD hka hkb kw hkj;go_upto_region 15 with fail;go_cut[9,10]from 132 to 147 (fun s9 s10 wx=>∃b9 b10:Nat,s9=.pointer (some ⟨b9,0,none⟩)/\s10=.pointer (some ⟨b10,0,none⟩)/\Hid (wx.heap[b9]?=some (.cells #[.int .i64 ck,.int .i64 cl,.slice oD nD cD] 76 (0,0))/\wx.heap[b10]?=some (.cells #[.int .i64 ck,.int .i64 cl,.slice oE nD cE] 76 (0,0))/\Keep (fun _=>False) W1 wx))
        case first=>
         have z1:=World.block_lt_of_cell? _ _ f10;have z2:=World.block_lt_of_cell? _ _ g10;have z3:=World.block_lt_of_cell? _ _ cA1;have z4:=World.block_lt_of_cell? _ _ cB1;have z5:=World.block_lt_of_cell? _ _ d0;have z6:=World.block_lt_of_cell? _ _ e0;simp at z1 z2 z3 z4 z5 z6;go_region;all_goals(go_wp2_with fail;go_meet)
         all_goals
          first
          |exact⟨_,_,rfl,rfl,(zZ wr _ _ _ rfl).1,(zZ wr _ _ _ rfl).2.1,HKJ.trans (zZ wr _ _ _ rfl).2.2⟩
          |exact⟨_,_,rfl,rfl,(zZ wr _ _ _ rfl).2.1,(zZ wr _ _ _ rfl).1,HKJ.trans (zZ wr _ _ _ rfl).2.2⟩
        case rest=>
         (obtain⟨b9,b10,rfl,rfl,h9,h10,hkc⟩:=hcut;have q0:=za h9 0;have q1:=za h9 1;have q2:=za h9 2;have r0:=za h10 0;have r1:=za h10 1;have r2:=za h10 2;simp at q0 q1 q2 r0 r1 r2;have HKC:=Qh hkc;clear f10 g10 cA1 cB1 d0 d1' d2' e0 e1 e2 h9 h10 hkc;go_wp2_with(go_at_call 25;refine(HED.out _ (HK.1.trans HKC.out)).mono ?_;rintro e w' ⟨rfl,kx⟩;have HKC:=Qh (HKC.trans kx);clear kx);go_roundg(gk-1);all_goals first|omega|skip);exact⟨k+1,by omega,by simp,HKC.out⟩
       ·obtain rfl:k=n5:=by omega
        (have hkI:¬(k:Int)<(k:Int):=(by omega);have HKJ:=Qh hkj;clear hkj kw;go_wp2_with fail;have hG:=HGG.out;go_roundg(G-1);all_goals first|omega|skip);exact⟨i+1,by omega,by simp,HKJ.out⟩
     ·obtain rfl:i=n2:=by omega
      have hiI:¬(i:Int)<(i:Int):=(by omega);have f11:=za (hkp.same HK.2.1 id) 11;have g11:=za (hkp.same HK.2.2 id) 11;simp at f11 g11;have HKP:=Qh hkp;clear hkp;go_wp2_with fail;clear f10 g10 f11 g11;go_loopg[11] n3 (fun gq s11 wx=>∃j:Nat,gq+j=n3/\s11=.int .i64 (j:Int)/\Hid (Keep (fun _=>False) W1 wx))
      case atStart=>exact⟨0,by omega,rfl,HKP.out⟩
      case round=>
       obtain⟨j,hgj,rfl,hkj⟩:=hrel;have f11:=za (hkj.same HK.2.1 id) 11;simp at f11;have g11:=za (hkj.same HK.2.2 id) 11;simp at g11;by_cases hj:j<n3
       ·have hjI:(j:Int)<(n3:Int):=by omega
        have hj0:(0:Int)<=(j:Int):=(by omega);have hja:j<a.ps.length:=(by rw[HN.2.2.1];exact hj);have hjb:j<b.ps.length:=(by rw[HH.2.2.1.ps];exact hja);have kw:=HK.1.trans hkj;obtain⟨o',c',e',-,hcs,-⟩:=HH.1.ps;rw[HV.2.2.1,HN.2.2.1]at e';cases e';obtain⟨gA,fA,rfl,hcA,hlA⟩:=hcs j (by simpa using hja);obtain⟨o',c',e',-,hcs',-⟩:=HH.2.1.ps;rw[HU.2.2.1,HH.2.2.1.ps,HN.2.2.1]at e';cases e';obtain⟨gB,fB,rfl,hcB,hlB⟩:=hcs' j (by simpa using hjb);have cA:=(kw.cell (p:=⟨gA,fA+j,none⟩) hlA id).trans hcA;have cB:=(kw.cell (p:=⟨gB,fB+j,none⟩) hlB id).trans hcB;rw[HH.2.2.1.ps]at cB;rw[List.getElem?_map,List.getElem?_eq_getElem hja]at cA cB;simp only[Option.map_some]at cA cB;generalize a.ps[j]=z at*
        (have HKJ:=Qh hkj;clear hcs hcs' hcA hcB hlA hlB kw hkj hja hjb;go_wp2_with fail;go_quiet(fail);go_wp2_with fail;go_roundg(gk-1);all_goals first|omega|skip);exact⟨j+1,by omega,by simp,HKJ.drewN _⟩
       ·obtain rfl:j=n3:=by omega
        have hjI:¬(j:Int)<(j:Int):=(by omega);have f13:=za (hkj.same HK.2.1 id) 13;have g13:=za (hkj.same HK.2.2 id) 13;simp at f13 g13;have HKJ:=Qh hkj;clear hkj;go_wp2_with fail;clear f11 g11 f13 g13;go_loopg[12,13,14,15] n4 (fun gq s12 s13 s14 s15 wx=>∃i:Nat,gq+i=n4/\s12=.int .i64 (i:Int)/\Hid (Keep (fun _=>False) W1 wx))
        case atStart=>exact⟨0,by omega,rfl,HKJ.out⟩
        case round=>
         obtain⟨i2,hgi2,rfl,hkp⟩:=hrel;have f13:=za (hkp.same HK.2.1 id) 13;simp at f13;have g13:=za (hkp.same HK.2.2 id) 13;simp at g13;obtain⟨G2,hG2⟩:=Qx gk;rw[hG2]at hgi2;have HGG2:=Qh hG2;clear hG2;by_cases hi2:i2<n4
         ·have hiI2:(i2:Int)<(n4:Int):=by omega
          have hi02:(0:Int)<=(i2:Int):=(by omega);have hia:i2<a.es.length:=(by rw[HN.2.2.2];exact hi2);have hib:i2<b.es.length:=(by rw[HH.2.2.1.elen];exact hia);obtain⟨o',c',e',-,hcs,-⟩:=HH.1.es;rw[HV.2.2.2,HN.2.2.2]at e';cases e';obtain⟨gA,fA,rfl,-⟩:=hcs.some (by rw[zB _ 3 (fun _=>rfl)];omega);obtain⟨o',c',e',-,hcs',-⟩:=HH.2.1.es;rw[HU.2.2.2,HH.2.2.1.elen,HN.2.2.2]at e';cases e';obtain⟨gB,fB,rfl,-⟩:=hcs'.some (by rw[zB _ 3 (fun _=>rfl)];omega);have kw:=HK.1.trans hkp;have hA2:=hcs.kept kw;have hB2:=hcs'.kept kw;have d0:=hA2.get 3 (fun _=>rfl) (List.getElem?_eq_getElem hia) 0 (by omega);have d1':=hA2.get 3 (fun _=>rfl) (List.getElem?_eq_getElem hia) 1 (by omega);have d2':=hA2.get 3 (fun _=>rfl) (List.getElem?_eq_getElem hia) 2 (by omega);have e0:=hB2.get 3 (fun _=>rfl) (List.getElem?_eq_getElem hib) 0 (by omega);have e1:=hB2.get 3 (fun _=>rfl) (List.getElem?_eq_getElem hib) 1 (by omega);have e2:=hB2.get 3 (fun _=>rfl) (List.getElem?_eq_getElem hib) 2 (by omega);unfold ME.cells at d0 d1' d2' e0 e1 e2;simp at d0 d1' d2' e0 e1 e2;have hea:=HH.1.ends _ (List.getElem_mem hia);have heb:=HH.2.1.ends _ (List.getElem_mem hib);have hre:=HH.2.2.1.end_ hia hib;have hbd:=HH.2.2.2.2 _ (List.getElem_mem hia);obtain⟨EA,hEA⟩:=Qx (a.es[i2]);obtain⟨EB,hEB⟩:=Qx (b.es[i2]);rw[hEA]at d0 d1' d2' hea hre hbd;rw[hEB]at e0 e1 e2 heb hre;unfold ME.reopen at hre;simp only[Reopen.mk.injEq]at hre;obtain⟨r1,r2,r3⟩:=hre;rw[r1]at e0;have hlen:EB.ks.length=EA.ks.length:=(by have:=congrArg List.length r2;simpa using this);have hfa:=hea.faults;have hfb:=heb.faults;rw[r3]at hfb;obtain⟨oK,cK,hvA,-,hcsA,-⟩:=hea.keeps;obtain⟨oE,cE,hvB,-,hcsB,-⟩:=heb.keeps;obtain⟨oF,cF,hwA⟩:=hfa.val;obtain⟨oG,cG,hwB⟩:=hfb.val;rw[hlen]at hvB;obtain⟨nK,hnK⟩:=Qx EA.ks.length;obtain⟨nF,hnF⟩:=Qx EA.fs.length;have HEF:=Qh (fun(W:World) (k:Keep (fun _=>False) w W)=>z8M _ _ EA.fs W (hfa.kept k) (hfb.kept k) hbd.2.1);rw[hwA,hwB,hnF]at HEF;rw[hnK]at hvA hvB;rw[hnF]at hwA hwB;rw[hvA]at d1';rw[hvB]at e1;rw[hwA]at d2';rw[hwB]at e2;have hb5:nK<=1099511627776:=(by rw[<-hnK];exact hbd.1);have HT:=Qh (Qa hcsA (Qa hcsB (Qa hea.junk (Qa heb.junk (Qa r2 (Qa hbd.2.2 (Qa hnK hlen)))))));generalize EA.dir=dr at*
          have HKP:=Qh hkp;clear hcs hcs' hA2 hB2 hea heb hbd hEA hEB r1 r2 r3 hlen hfa hfb hvA hvB hwA hwB hnK hnF hcsA hcsB kw hkp hia hib;go_upto_region 26 with fail;go_cut[13,14]from 193 to 204 (fun s13 s14 wx=>∃b13 b14:Nat,s13=.pointer (some ⟨b13,0,none⟩)/\s14=.pointer (some ⟨b14,0,none⟩)/\Hid (wx.heap[b13]?=some (.cells #[.int .i64 dr,.slice oK nK cK] 80 (0,0))/\wx.heap[b14]?=some (.cells #[.int .i64 dr,.slice oE nK cE] 80 (0,0))/\Keep (fun _=>False) wr wx))
          case first=>
           have z1:=World.block_lt_of_cell? _ _ f13;have z2:=World.block_lt_of_cell? _ _ g13;have z5:=World.block_lt_of_cell? _ _ d0;have z6:=World.block_lt_of_cell? _ _ e0;simp at z1 z2 z5 z6;go_region;all_goals(go_wp2_with fail;go_meet)
           all_goals
            first
            |exact⟨_,_,rfl,rfl,(zZ wr _ _ _ rfl).1,(zZ wr _ _ _ rfl).2.1,(zZ wr _ _ _ rfl).2.2⟩
            |exact⟨_,_,rfl,rfl,(zZ wr _ _ _ rfl).2.1,(zZ wr _ _ _ rfl).1,(zZ wr _ _ _ rfl).2.2⟩
          case rest=>
           obtain⟨b13,b14,rfl,rfl,h13,h14,hkc⟩:=hcut;have q0:=za h13 0;have q1:=za h13 1;have r0:=za h14 0;have r1:=za h14 1;simp at q0 q1 r0 r1;have f13:=zj hkc f13;have g13:=zj hkc g13;have d2':=zj hkc d2';have e2:=zj hkc e2;have HKC:=Qh hkc;have HQ:=Qh (Qa h13 h14);clear d0 d1' e0 e1 h13 h14 hkc;go_upto_region 27 with fail;go_quiet((go_at_call 24;exact Calls.quiet_of ((HEF.out _ (((HK.1.trans HKP.out).trans HKC.out).drewN _)).mono fun _ _ h=>⟨h.1,_,h.2⟩)));go_wp2_with fail;clear f13 g13 d2' e2 q0 q1 r0 r1;go_loopg[15] nK (fun gq s15 wx=>∃k:Nat,gq+k=nK/\s15=.int .i64 (k:Int)/\Hid (Keep (fun _=>False) wc wx))
           case atStart=>exact⟨0,by omega,rfl,(Keep.refl _ _).drewN _⟩
           case round=>
            obtain⟨k,hgk,rfl,hkj⟩:=hrel;have q1:=za (hkj.same HQ.1 id) 1;have r1:=za (hkj.same HQ.2 id) 1;simp at q1 r1;by_cases hk:k<nK
            ·have hkI:(k:Int)<(nK:Int):=by omega
             have hk0:(0:Int)<=(k:Int):=(by omega);have hka:k<EA.ks.length:=(by rw[HT.2.2.2.2.2.2.1];exact hk);have hkb:k<EB.ks.length:=(by rw[HT.2.2.2.2.2.2.2];exact hka);have kw:=((HK.1.trans HKP.out).trans HKC.out).trans hkj;obtain⟨gA2,fA2,rfl,-⟩:=HT.1.some (by rw[zB _ 2 (fun _=>rfl)];omega);obtain⟨gB2,fB2,rfl,-⟩:=HT.2.1.some (by rw[zB _ 2 (fun _=>rfl)];omega);have hA2:=HT.1.kept kw;have hB2:=HT.2.1.kept kw;have d0:=hA2.get 2 (fun _=>rfl) (List.getElem?_eq_getElem hka) 0 (by omega);have d1':=hA2.get 2 (fun _=>rfl) (List.getElem?_eq_getElem hka) 1 (by omega);have e0:=hB2.get 2 (fun _=>rfl) (List.getElem?_eq_getElem hkb) 0 (by omega);have e1:=hB2.get 2 (fun _=>rfl) (List.getElem?_eq_getElem hkb) 1 (by omega);have hcc:(EB.ks[k]).k=(EA.ks[k]).k:=(by have:=congrArg (fun l=>l[k]?) HT.2.2.2.2.1;simpa[hka,hkb]using this);unfold MK.cells at d0 d1' e0 e1;simp at d0 d1' e0 e1;have hdA:=HT.2.2.1 _ (List.getElem_mem hka);have hdB:=HT.2.2.2.1 _ (List.getElem_mem hkb);have hdn:=HT.2.2.2.2.2.1 _ (List.getElem_mem hka);rw[hcc]at e0 hdB;obtain⟨dA,hdA'⟩:=Qx ((EA.ks[k]).d);obtain⟨dB,hdB'⟩:=Qx ((EB.ks[k]).d);rw[hdA']at d1' hdA;rw[hdB']at e1 hdB;obtain⟨cc,hc2⟩:=Qx ((EA.ks[k]).k);rw[hc2]at d0 e0 hdA hdB hdn;obtain⟨oD,cD,hvD⟩:=hdA.val;obtain⟨oH,cH,hvE⟩:=hdB.val;have HED:=Qh (fun(W:World) (k:Keep (fun _=>False) w W)=>z8L _ _ cc.junk W (hdA.kept k) (hdB.kept k) hdn);subst hvD;subst hvE;obtain⟨nD,hnD⟩:=Qx cc.junk.length;rw[hnD]at HED d1' e1;generalize cc.n=cn at*
             (have HKJ:=Qh hkj;have HKW:=Qh kw;clear hA2 hB2 hcc hdA hdB hdn hdA' hdB' hc2 hnD hka hkb kw hkj;go_upto_region 32 with fail;go_quiet((go_at_call 25;exact Calls.quiet_of ((HED.out _ (HKW.drewN _)).mono fun _ _ h=>⟨h.1,_,h.2⟩)));go_wp2_with fail;go_roundg(gk-1);all_goals first|omega|skip);exact⟨k+1,by omega,by simp,HKJ.drewN _⟩
            ·obtain rfl:k=nK:=by omega
             (have hkI:¬(k:Int)<(k:Int):=(by omega);have HKJ:=Qh hkj;clear hkj;go_wp2_with fail;have hG:=HGG2.out;go_roundg(G2-1);all_goals first|omega|skip);exact⟨i2+1,by omega,by simp,(HKP.trans HKC.out).trans HKJ.out⟩
         ·obtain rfl:i2=n4:=(by omega);have hiI2:¬(i2:Int)<(i2:Int):=(by omega);have HKP:=Qh hkp;clear hkp;go_wp2_with fail;go_ret;exact⟨rfl,HK.1.trans HKP.out⟩
structure Frek (own:Nat->Option T) (kb:Nat) (v:Value) (L:List KS):Prop where
 kb:own kb=none
 v:∀g,v.ownBlock=some g->own g=none
 l:∀s∈L,own s.g=none
theorem Frek.of{own:Nat->Option T}{kb:Nat}{v:Value}{z:Int}{L:List KS}{w:World}(h:z3O w kb v z L)(lo:∀g,own g≠none->w.heap.size<=g):Frek own kb v L:=by
 have key:∀g,g<w.heap.size->own g=none:=fun g hg=>by
  cases e:own g with
  |none=>rfl
  |some t=>have:=lo g (by rw[e];simp);omega
 refine⟨key _ h.low,fun g hg=>key _ (xE h.row hg),fun s hs=>?_⟩;obtain⟨i,hi⟩:=List.mem_iff_getElem?.1 hs;exact key _ (xE (h.each i s hi) rfl)
structure KsB (b kb:Nat) (w:World) (v:Value) (z:Int) (L:List KS):Prop where
 kp:z3O w kb v z L
 kb:b<=kb
 v:∀g,v.ownBlock=some g->b<=g
 l:∀s∈L,b<=s.g
theorem KsB.kept{b kb:Nat}{w w':World}{v:Value}{z:Int}{L:List KS}(h:KsB b kb w v z L)(k:Keep (fun _=>False) w w'):KsB b kb w' v z L:=⟨h.kp.kept k,h.kb,h.v,h.l⟩
theorem KsB.next{b kb:Nat}{w w':World}{v:Value}{z:Int}{L:List KS}{own:Nat->Option T}{u:T}(h:KsB b kb w v z L)(lo:∀g,own g≠none->b<=g)(k:xK kb v L own u w w'):
  ∃(v':Value) (z':Int) (L':List KS),KsB b kb w' v' z' L'/\(∀b',b'<=b->b<=w.heap.size->Keep (fun g=>b'<=g) w w')/\Keep (fun g=>g=kb\/v.ownBlock=some g) w w'/\
   ∀own':Nat->Option T,Frek own' kb v L->(∀g,own' g≠none->g<w.heap.size)->(∀g,own g≠none->own' g=none)->Frek own' kb v' L':=by
 obtain⟨v',z',L',q1,q2,q3,q4⟩:=k;refine⟨v',z',L',⟨q1,h.kb,fun g hg=>?_,fun s hs=>?_⟩,fun b' hb' hb=>q2.mono fun g _ hg=>?_,q2,fun own' hf low hd=>⟨hf.kb,fun g hg=>?_,fun s hs=>?_⟩⟩
 ·rcases q3 g hg with e|e
  ·exact h.v g e
  ·have:=h.kp.low;have:=h.kb;omega
 ·rcases q4 s hs with e|⟨t,e,-⟩
  ·exact h.l s e
  ·exact lo _ (by rw[e];simp)
 ·rcases hg with rfl|hg
  ·have:=h.kb;omega
  ·have:=h.v g hg;omega
 ·rcases q3 g hg with e|e
  ·exact hf.v g e
  ·cases e2:own' g with
   |none=>rfl
   |some t=>have:=low g (by rw[e2];simp);omega
 ·rcases q4 s hs with e|⟨t,e,-⟩
  ·exact hf.l s e
  ·exact hd _ (by rw[e];simp)
theorem z8R{m:M}(h:Inv m.play):(m.fs.length<=1099511627776/\m.ts.length<=1099511627776/\m.ps.length<=1099511627776/\m.es.length<=1099511627776)/\
  ((∀t∈m.ts,t.l.length<=1099511627776/\∀c∈t.l,c.c.data.length<=1048576)/\∀e∈m.es,e.ks.length<=1099511627776/\e.fs.length<=1099511627776/\∀k∈e.ks,k.k.junk.length<=1048576):=by
 obtain⟨h1,h2,h3,h4,h5,h6⟩:=z1L h.pt.many;refine⟨⟨by omega,by omega,by omega,by omega⟩,fun t ht=>⟨by have:=h3 t ht;omega,fun c hc=>?_⟩,fun e he=>⟨by have:=(h6 e he).2;omega,by have:=(h6 e he).1;omega,fun k hk=>?_⟩⟩
 ·have:=h.sm.data _ (List.mem_map.2 ⟨t,ht,rfl⟩) _ (List.mem_map.2 ⟨c,hc,rfl⟩);omega
 ·have:=h.sm.junk _ (List.mem_map.2 ⟨e,he,rfl⟩) _ (List.mem_map.2 ⟨k,hk,rfl⟩);omega
theorem zdq{own:Nat->Option T}{n g:Nat}(lo:∀g,own g≠none->n<=g)(h:g<n):own g=none:=by
 cases e:own g with
 |none=>rfl
 |some t=>have:=lo g (by rw[e];simp);omega
theorem z7F(o:Option Addr)(cap:Nat)(ms:List Str)(w:World)(hws:qh w o ms)(hm:ms.length<=maxLen)(hsz:∀i,(ms.getD i []).length<=maxLen)(hE:Ev w.heap.size w):
  Calls Tryz.prog 3 #[.slice o ms.length cap] w fun e w'=>e=.returned (.bool true)/\Keep (fun _=>False) w w':=by
 have HEV:=Qh (fun(W:World) (k:Keep (fun _=>False) w W)=>(hE.on k.none).up');have HBG:=Qh (zam w hE);obtain⟨n,hn⟩:=Qx ms.length;obtain⟨K,hK⟩:∃K,K=min n 30:=⟨_,rfl⟩;have HH:=Qh (Qa hws (Qa hsz hn));rw[hn]at hm⊢
 unfold maxLen at hm;clear hws hsz hn hE;go_in;go_wp2_with(go_at_call 7;refine HBG.mono ?_;rintro e w1 ⟨rfl,kx⟩;have H1:=Qh kx;clear kx);obtain⟨b,hb⟩:=Qx w1.heap.size;obtain⟨W0,hW0⟩:∃W0,w1.alloc (.cells #[.slice none 0 0,.int .i64 0] 27)=W0:=⟨_,rfl⟩;have hbk:W0.heap[b]?=some (.cells #[.slice none 0 0,.int .i64 0] 27 (0,0)):=(by rw[<-hW0,<-hb];exact zm _ _);have k0:Keep (fun _=>False) w1 W0:=(by rw[<-hW0];exact(Keep.refl _ w1).alloc _);have HK0:=Qh (Qa (H1.trans k0) (Qa k0 hb));have HS:=Qh (show KsB b b W0 (.slice none 0 0) 0 []from⟨.start hbk,Nat.le_refl _,fun g h=>(nomatch h),fun s h=>(nomatch h)⟩);rw[hW0,hb];clear hW0 hb hbk k0 HBG;go_loopg[4] K (fun gq s4 wr=>∃i:Nat,gq+i=K/\s4=.int .i64 (i:Int)/\Hid (Keep (fun _=>False) w1 wr/\∃v z L,KsB b b wr v z L))
 case atStart=>exact⟨0,by omega,rfl,HK0.2.1,_,_,_,HS.out⟩
 case round=>
  obtain⟨i,hgi,rfl,hkw,v,z,L,hks⟩:=hrel;have hi0:(0:Int)<=(i:Int):=(by omega);by_cases hi:i<K
  ·have hiI:(i:Int)<(n:Int):=by omega
   have hiT:(i:Int)<30:=(by omega);obtain⟨g,f,rfl,hc,hgl⟩:=HH.1 i (by rw[HH.2.2];omega);obtain⟨x,hx⟩:=Qx (ms.getD i []);have hxs:=HH.2.1 i;rw[hx]at hc hxs;have hcW:∀W,Keep (fun _=>False) w W->W.cell? ⟨g,f+i,none⟩=some (.string (zc x)):=fun W k=>(k.cell (p:=⟨g,f+i,none⟩) hgl id).trans hc;obtain⟨N,hN⟩:=Qx x.length;have hZ:((zc x).size:Int)=(N:Int):=(by rw[zw,hN]);rw[hN]at hxs;unfold maxLen at hxs;have HC:=Qh hcW;have HW:=Qh (H1.trans hkw);have HK:=Qh (Qa hkw hks);have HPA:=Qh (fun(W:World) (k:Keep (fun _=>False) w W)=>xx x W (HEV.out W k));have HPB:=Qh (fun(W:World) (k:Keep (fun _=>False) w W)=>z7r x W (HEV.out W k));have cx:=hcW wr HW.out;clear hc hgl hx hcW hN hkw hks;generalize zc x=S at*
   by_cases hL:131072<N
   ·have hLI:(131072:Int)<(N:Int):=by omega
    (go_wp2_with fail;go_roundg(gk-1);all_goals first|omega|skip);exact⟨i+1,by omega,by simp,Qh ⟨HK.1,v,z,L,HK.2⟩⟩
   have hLI:¬(131072:Int)<(N:Int):=(by omega);clear hL;go_upto_region 9 with(first
    |(go_at_call 8;refine(HPA.out _ HW.out).mono ?_;rintro e w2 ⟨mA,ownA,nA,cA,rfl,hpA,hlA,hoA,kA⟩;have HPA1:=Qh (Qa hpA (Qa hlA (Qa hoA kA)));clear hpA hlA hoA kA)
    |(refine qK (.tmp 5) (.tmp 40) 40 (by rfl) ?_;go_must(refine qV rfl (.tmp 5) (.tmp 40) rfl _ mA.val rfl rfl rfl m0.val rfl (zm _ _) HPA1.2.1.seen.val_one ?_)))
   generalize hW7:World.setRow _ _ mA.val=W7;have hbA:W7.heap[w2.heap.size]?=some (.cells mA.val 40 (0,0)):=(by rw[<-hW7];exact setRow_heap _ _ _ mA.val _ _ (zm _ _));have k67:Keep (fun _=>False) w2 W7:=(by rw[<-hW7];exact Keep.setRow ((Keep.refl _ w2).alloc _) (Or.inr (Nat.le_refl _)) _);obtain⟨qA,hqA⟩:=Qx w2.heap.size;rw[hqA]at hbA⊢
   have kA7:=HPA1.2.2.2.trans k67;have HB7:=Qh (Qa hbA (Qa (HPA1.2.1.keep k67 fun _ _=>id) (Qa kA7 (Qa HPA1.2.2.1 HPA1.1))));have HW7:=Qh (HW.trans kA7);have cx7:=HC.out W7 HW7.out;clear hW7 hqA hbA k67 kA7 HPA1 cx;go_upto_region 10 with(first
    |(go_at_call 9;refine(HPB.out _ HW7.out).mono ?_;rintro e w8 ⟨mB,ownB,nB,cB,rfl,hpB,hlB,-,kB⟩;have HPB1:=Qh (Qa hpB (Qa hlB kB));clear hpB hlB kB)
    |(refine qK (.tmp 8) (.tmp 49) 40 (by rfl) ?_;go_must(refine qV rfl (.tmp 8) (.tmp 49) rfl _ mB.val rfl rfl rfl m0.val rfl (zm _ _) HPB1.2.1.seen.val_one ?_)))
   generalize hW9:World.setRow _ _ mB.val=W9;have hbB:W9.heap[w8.heap.size]?=some (.cells mB.val 40 (0,0)):=(by rw[<-hW9];exact setRow_heap _ _ _ mB.val _ _ (zm _ _));have k89:Keep (fun _=>False) w8 W9:=(by rw[<-hW9];exact Keep.setRow ((Keep.refl _ w8).alloc _) (Or.inr (Nat.le_refl _)) _);obtain⟨qB,hqB⟩:=Qx w8.heap.size;rw[hqB]at hbB⊢
   have k79:=HPB1.2.2.trans k89;have hA9:W9.heap[qA]?=some (.cells mA.val 40 (0,0)):=k79.same HB7.1 id;obtain⟨z1,z2⟩:=Prod.mk.inj HB7.2.2.2.2;obtain⟨z2,z3⟩:=Prod.mk.inj z2;obtain⟨z4,z5⟩:=Prod.mk.inj HPB1.1;obtain⟨z5,z6⟩:=Prod.mk.inj z5;obtain rfl:nB=nA:=z5.trans z2.symm;obtain rfl:cB=cA:=z6.trans z3.symm;have hbd:=z8R (m:=mA) (by rw[z1];exact z4H x);have HE:=Qh (fun(W:World) (k:Keep (fun _=>False) W9 W)=>zf2 mA mB W ((HB7.2.1.seen.kept k79).kept k) ((HPB1.2.1.seen.kept k89).kept k) (by rw[z1,z4]) hbd.1 ⟨fun t ht=>⟨(hbd.2.1 t ht).1,fun c hc=>Nat.le_trans ((hbd.2.1 t ht).2 c hc) (by omega)⟩,fun e he=>⟨(hbd.2.2 e he).1,(hbd.2.2 e he).2.1,fun k hk=>Nat.le_trans ((hbd.2.2 e he).2.2 k hk) (by omega)⟩⟩);have HB9:=Qh (Qa hA9 (Qa hbB (Qa k79 (Qa hbd z1))));clear hW9 hqB hbB k89 k79 hA9 z1 z2 z3 z4 z5 z6 hbd cx7 HPB1;go_upto_region 12 with(first
    |(refine yO (.tmp 5) 40 (by rfl) ?_;go_must(refine z0C (by kernel_rfl) (.tmp 5) rfl qA rfl mA.val rfl HB9.1 ?_))
    |(refine yO (.tmp 8) 40 (by rfl) ?_;go_must(refine z0C (by kernel_rfl) (.tmp 8) rfl qB rfl mB.val rfl HB9.2.1 ?_))
    |(go_at_call 10;refine(HE.out _ (Keep.refl _ _)).mono ?_;rintro e w10 ⟨rfl,kE⟩;have HKE:=Qh kE;clear kE))
   have HW10:=Qh ((HW7.trans HB9.2.2.1).trans HKE.out);have cx10:=HC.out w10 HW10.out;clear HE HPB;go_upto_region 13 with(first
    |(go_at_call 8;refine(HPA.out _ HW10.out).mono ?_;rintro e w11 ⟨mC,ownC,nC,cC,rfl,hpC,hlC,hoC,kC⟩;have HPC1:=Qh (Qa hpC (Qa hlC (Qa hoC kC)));clear hpC hlC hoC kC)
    |(refine qK (.tmp 11) (.tmp 72) 40 (by rfl) ?_;go_must(refine qV rfl (.tmp 11) (.tmp 72) rfl _ mC.val rfl rfl rfl m0.val rfl (zm _ _) HPC1.2.1.seen.val_one ?_)))
   generalize hW12:World.setRow _ _ mC.val=W12;have hbC:W12.heap[w11.heap.size]?=some (.cells mC.val 40 (0,0)):=(by rw[<-hW12];exact setRow_heap _ _ _ mC.val _ _ (zm _ _));have k112:Keep (fun _=>False) w11 W12:=(by rw[<-hW12];exact Keep.setRow ((Keep.refl _ w11).alloc _) (Or.inr (Nat.le_refl _)) _);obtain⟨qC,hqC⟩:=Qx w11.heap.size;rw[hqC]at hbC⊢
   have kC:=HPC1.2.2.2.trans k112;have k7C:=(HB9.2.2.1.trans HKE.out).trans kC;have hA12:W12.heap[qA]?=some (.cells mA.val 40 (0,0)):=((HKE.trans kC).same HB9.1 id);have hks12:=HK.2.kept (HB7.2.2.1.trans k7C);have hlA:=HB7.2.1.keep k7C fun _ _=>id;have hlC:=HPC1.2.1.keep k112 fun _ _=>id;have hlo:∀g,ownA g≠none->b<=g:=fun g hg=>(by have h1:=HB7.2.2.2.1 g hg;have h2:=HK.1.size;have h3:=HK0.2.2;omega);have hfA:Frek ownA b v L:=.of HK.2.kp HB7.2.2.2.1;have hfC:Frek ownC b v L:=.of HK.2.kp fun g hg=>(by have h1:=HPC1.2.2.1 g hg;have h2:=((HB7.2.2.1.trans HB9.2.2.1).trans HKE.out).size;omega);have hAC:∀g,ownA g≠none->ownC g=none:=fun g hg=>zdq HPC1.2.2.1 (by
    have h1:=HB7.2.1.low g hg;have h2:=(HB9.2.2.1.trans HKE.out).size;omega)
   have hbdC:=z8R (m:=mC) (by rw[(Prod.mk.inj HPC1.1).1];exact z4H x);have HKA:=Qh (z4F b v z L ownA mA W12 hks12.kp hlA hfA.kb hfA.v hfA.l HB9.2.2.2.1.2.1 (fun e he=>⟨(HB9.2.2.2.1.2.2 e he).1,(HB9.2.2.2.1.2.2 e he).2.2⟩) HB9.2.2.2.1.1.2.1 HB9.2.2.2.1.1.2.2.2);have HB12:=Qh (Qa hA12 (Qa hbC (Qa hks12 (Qa hlC (Qa hfC (Qa hAC (Qa hbdC (Qa hlo (HB7.2.2.1.trans k7C)))))))));have HQC:=Qh (show wr.heap.size<=qC/\∀g,ownC g≠none->b<=g from⟨by
    have h1:=(((HB7.2.2.1.trans HB9.2.2.1).trans HKE.out).trans HPC1.2.2.2).size;rw[<-hqC];exact h1,fun g hg=>by
    have h1:=HPC1.2.2.1 g hg;have h2:=((HB7.2.2.1.trans HB9.2.2.1).trans HKE.out).size;have h3:=HK.1.size;have h4:=HK0.2.2;omega⟩)
   clear hW12 hqC hbC k112 kC k7C hA12 hks12 hlA hlC hlo hfA hfC hAC hbdC cx10 HPC1 HPA;go_upto_region 14 with(first
    |(refine yO (.tmp 5) 40 (by rfl) ?_;go_must(refine qZ rfl (.tmp 5) rfl qA rfl mA.val rfl HB12.1 ?_))
    |(go_at_call 11;refine HKA.mono ?_;rintro e w13 ⟨rfl,hk⟩;have HK13:=Qh hk;clear hk))
   obtain⟨v',z',L',ks13,-,kp13,free13⟩:=HB12.2.2.1.next HB12.2.2.2.2.2.2.2.1 HK13.out;have hlC:=HB12.2.2.2.1;have hfC:=HB12.2.2.2.2.1;have hf13:=free13 ownC hfC hlC.low HB12.2.2.2.2.2.1;have hl13:LAt w13 ownC mC:=hlC.keep kp13 fun g hg e=>by
    rcases e with rfl|e
    ·exact hg hfC.kb
    ·exact hg (hfC.v g e)
   have hbC:w13.heap[qC]?=some (.cells mC.val 40 (0,0)):=kp13.same HB12.2.1 (by
    have h1:=HQC.1;rintro(e|e)
    ·have:=HK.2.kp.low;omega
    ·have:=xE HK.2.kp.row e;omega)
   have hbd:=HB12.2.2.2.2.2.2.1;have HKC:=Qh (z4F b v' z' L' ownC mC w13 ks13.kp hl13 hf13.kb hf13.v hf13.l hbd.2.1 (fun e he=>⟨(hbd.2.2 e he).1,(hbd.2.2 e he).2.2⟩) hbd.1.2.1 hbd.1.2.2.2);have HL13:=Qh (Qa hbC (Qa ks13 ((HK.1.trans HB12.2.2.2.2.2.2.2.2).own kp13 fun g hg=>Or.inr (by
    have h3:=HK0.2.2;rcases hg with rfl|hg
    ·omega
    ·have:=HK.2.v g hg;omega))))
   clear ks13 kp13 free13 hlC hfC hf13 hl13 hbC hbd;go_wp2_with(first
    |(refine yO (.tmp 11) 40 (by rfl) ?_;go_must(refine qZ rfl (.tmp 11) rfl qC rfl mC.val rfl HL13.1 ?_))
    |(go_at_call 11;refine HKC.mono ?_;rintro e w14 ⟨rfl,hk⟩;have HK14:=Qh hk;clear hk))
   (go_roundg(gk-1);all_goals first|omega|skip);obtain⟨v2,z2,L2,ks14,-,kp14,-⟩:=HL13.2.1.next HQC.2 HK14.out
   exact⟨i+1,by omega,by simp,Qh ⟨HL13.2.2.own kp14 fun g hg=>Or.inr (by
    have h3:=HK0.2.2;rcases hg with rfl|hg
    ·omega
    ·have:=HL13.2.1.v g hg;omega),v2,z2,L2,ks14⟩⟩
  ·have HAP:=Qh (zao b v z L wr hks.kp)
   have HF:=Qh (Qa hkw hks);clear hkw hks;by_cases h10:(i:Int)<(n:Int)
   ·have h11:¬(i:Int)<30:=by omega
    clear hi;go_wp2_with(go_at_call 12;refine HAP.mono ?_;rintro e w9 ⟨rfl,hk⟩;have HK9:=Qh hk;clear hk);go_ret;exact⟨rfl,H1.trans (HF.1.own HK9.out fun g hg=>Or.inr (by
     have h3:=HK0.2.2;rcases hg with hg|⟨s,hs,rfl⟩
     ·have:=HF.2.v g hg;omega
     ·have:=HF.2.l s hs;omega))⟩
   ·clear hi
    go_wp2_with(go_at_call 12;refine HAP.mono ?_;rintro e w9 ⟨rfl,hk⟩;have HK9:=Qh hk;clear hk);go_ret;exact⟨rfl,H1.trans (HF.1.own HK9.out fun g hg=>Or.inr (by
     have h3:=HK0.2.2;rcases hg with hg|⟨s,hs,rfl⟩
     ·have:=HF.2.v g hg;omega
     ·have:=HF.2.l s hs;omega))⟩
end Sc
end Go.Proofs.YtkkecpamnnojoaaGreatDoor
