/- A part of the proof of ScriptParses: nothing is assumed. By an AI agent. -/
import Derived.Test.YtkkecpamnnojoaaGreatDoorBz26
set_option linter.unusedVariables false
set_option linter.unusedSimpArgs false
set_option maxRecDepth 100000
set_option maxHeartbeats 32000000
namespace Go.Proofs.YtkkecpamnnojoaaGreatDoor
open Go.ChangeShapes Go.WideShapes Go.ChangeAt Go.RowKit
open Bt Dc By
namespace Sc
theorem zey{m:M}{x:Str}{ws:List Str}{s n q:Nat}(hs:m.st=s)(h2:2<=s)(hs5:s<=5)(hn:ws.length=n)(hq:m.ts.length=q):zi ⟨m.play,m.st⟩ 4 x ws=if 3<s then .error 63 else if 16<=q then .error 9 else if n≠0 then .error 64 else .ok ⟨{m.play with tasks:=m.play.tasks++[[]]},3⟩:=by
 have hl:m.play.tasks.length=q:=(by rw[<-hq];simp[M.play]);unfold zi
 rw[show full m.play 4 ws.length=decide (16<=m.play.tasks.length)from rfl,show zF 4 x ws.length=decide (ws.length=0)from rfl,hl,hn,hs,
  show zH m.play 4 x ws=.ok {m.play with tasks:=m.play.tasks++[[]]}from rfl]
 by_cases h1:3<s
 ·rw[if_pos h1,if_pos];left;rcases(show s=4\/s=5 by omega)with rfl|rfl<;>rfl
 ·have e4:nxt s 4=3:=by rcases(show s=2\/s=3 by omega)with rfl|rfl<;>rfl
  rw[if_neg h1,e4,if_neg (fun h=>by rcases h with h|⟨h,-⟩<;>exact absurd h (by decide))];by_cases h3:16<=q
  ·rw[if_pos h3,if_pos (decide_eq_true h3)]
  ·rw[if_neg h3,if_neg (by rw[decide_eq_false h3];decide)]
   by_cases h4:n≠0
   ·rw[if_pos h4,if_pos (decide_eq_false h4)]
   ·rw[if_neg h4,if_neg (by rw[decide_eq_true (by omega)];decide)]
theorem zez{m:M}{x:Str}{ws:List Str}{n:Nat}(hs:m.st=1)(hn:ws.length=n):zi ⟨m.play,m.st⟩ 2 x ws=if n≠1 then .error 64 else match zh (ws.getD 0 [])with|none=>.error 66|some v=>.ok ⟨{m.play with most:=v},2⟩:=by
 unfold zi
 rw[show full m.play 2 ws.length=false from rfl,show zF 2 x ws.length=decide (ws.length=1)from rfl,hn,hs,
  show zH m.play 2 x ws=(match zh (ws.getD 0 [])with|none=>.error 66|some v=>.ok {m.play with most:=v})from rfl]
 rw[if_neg (fun h=>by
  rcases h with h|⟨h,-⟩
  ·exact absurd (show nxt 1 2=6 from h) (by decide)
  ·exact absurd h (by decide)),if_neg (by decide)]
 by_cases h:n≠1
 ·rw[if_pos h,if_pos (decide_eq_false h)]
 ·rw[if_neg h,if_neg (by rw[decide_eq_true (by omega)];decide)];cases zh (ws.getD 0 [])<;>rfl
theorem z7s{w:World}{own:Nat->Option T}{pb:Nat}{m:M}{g f:Nat}(cl:Nat){ws:List Str}(h:RkAt w own pb m g f [116,97,115,107] ws)(hcl:ws.length+1<=cl):
  Calls Tryz.prog 21 #[.pointer (some ⟨pb,0,none⟩),.slice (some ⟨g,f,none⟩) (ws.length+1) cl] w (qI own pb (zi ⟨m.play,m.st⟩ 4 [116,97,115,107] ws) w):=by
 (have hs5:=h.st;have c14:=za h.at_.blk 14;have f14:=zd h.at_.blk 14;have c10:=za h.at_.blk 10;have f10:=zd h.at_.blk 10;unfold M.rcells at c14 c10;simp at c14 c10;obtain⟨oT,cT,htv⟩:=h.at_.ts.len;rw[htv]at c10;obtain⟨q,hq⟩:=Qx m.ts.length;have hqb:q<=16:=by rw[<-hq];have:=h.few.mem.2.1;first|exact this|simpa using this);rw[hq]at c10 htv
 obtain⟨s,hs⟩:=Qx m.st;rw[hs]at c14 hs5;have HPL:=Qh (lt_of_block h.at_.blk);have x0:w.cell? ⟨g,f,none⟩=some (.string (zc [116,97,115,107])):=h.cell 0 (by omega) (Keep.refl _ w);have HCK:=Qh (show Calls Tryz.prog 49 #[.string (zc [116,97,115,107])] w fun e w'=>e=.returned (.int .i64 0)/\Keep (fun _=>False) w w' from by
  have h1:=qd [116,97,115,107] w;rw[show zb [116,97,115,107]=0 from by decide]at h1;exact h1)
 have HTV:=Qh htv;have HQ:=Qh hq;obtain⟨n,hn⟩:=Qx ws.length;have hnp:(0:Int)<(n:Int)+1:=(by omega);have hnb:n<=1048576:=(by rw[<-hn];exact h.n);have hR:=fun h2=>zey (x:=[116,97,115,107]) hs h2 hs5 hn hq;rw[hn];rw[hn]at hcl;have b1:((zc [116,97,115,107]).toList==[112,108,97,121])=false:=(by rw[ByteArray.toList_eq,ze];rfl);have b2:((zc [116,97,115,107]).toList==[109,111,115,116])=false:=(by rw[ByteArray.toList_eq,ze];rfl);have b3:((zc [116,97,115,107]).toList==[102,97,117,108,116])=false:=(by rw[ByteArray.toList_eq,ze];rfl);have b4:((zc [116,97,115,107]).toList==[116,97,115,107])=true:=(by rw[ByteArray.toList_eq,ze];rfl);have b6:((zc [116,97,115,107]).toList==[112,105,99,107,115])=false:=(by rw[ByteArray.toList_eq,ze];rfl);have b7:((zc [116,97,115,107]).toList==[101,110,100])=false:=(by rw[ByteArray.toList_eq,ze];rfl);have HA:=Qh h.at_;by_cases h0:s=0
 ·have e0:((s:Int)==0)=true:=by rw[beq_iff_eq];omega
  have HE:=Qh (yw (p:=m.play) (x:=[116,97,115,107]) (ws:=ws) 4 hs (by subst h0;rfl));generalize zc [116,97,115,107]=X at*
  clear h hs hn hR hq htv;go_in;go_wp2_with(go_at_call 49;refine HCK.mono ?_;rintro e w1 ⟨rfl,k1⟩;have x14:=(k1.cell (p:=⟨pb,14,none⟩) HPL.out id).trans c14;have K1:=Qh k1;clear k1);go_ret;exact Or.inr ⟨63,HE.out,by decide,rfl,K1.out.mono fun _ _ h=>h.elim⟩
 have e0:((s:Int)==0)=false:=Qb (by omega);by_cases h1:s=1
 ·have e1:((s:Int)==1)=true:=by rw[beq_iff_eq];omega
  have HE:=Qh (yw (p:=m.play) (x:=[116,97,115,107]) (ws:=ws) 4 hs (by subst h1;rfl));generalize zc [116,97,115,107]=X at*
  clear h hs hn hR hq htv;go_in;go_wp2_with(go_at_call 49;refine HCK.mono ?_;rintro e w1 ⟨rfl,k1⟩;have x14:=(k1.cell (p:=⟨pb,14,none⟩) HPL.out id).trans c14;have K1:=Qh k1;clear k1);go_ret;exact Or.inr ⟨63,HE.out,by decide,rfl,K1.out.mono fun _ _ h=>h.elim⟩
 have e1:((s:Int)==1)=false:=Qb (by omega);have HR:=Qh (hR (by omega));generalize zc [116,97,115,107]=X at*
 clear h hs hn hR hq htv h0 h1;go_in;go_upto_region 3 with(go_at_call 49;refine HCK.mono ?_;rintro e w1 ⟨rfl,k1⟩;have x14:=(k1.cell (p:=⟨pb,14,none⟩) HPL.out id).trans c14;have y14:=(k1.frozen (p:=⟨pb,14,none⟩) HPL.out id).trans f14;have x10:=(k1.cell (p:=⟨pb,10,none⟩) HPL.out id).trans c10;have y10:=(k1.frozen (p:=⟨pb,10,none⟩) HPL.out id).trans f10;have K1:=Qh k1;clear k1);clear c14 f14 c10 f10 x0 HCK;by_cases h3:3<s
 ·have i3:(3:Int)<(s:Int):=(by omega);have HE:=Qh (HR.trans (if_pos h3));clear h3;go_wp2_with fail;go_ret;exact Or.inr ⟨63,HE.out,by decide,rfl,K1.out.mono fun _ _ h=>h.elim⟩
 have i3:¬(3:Int)<(s:Int):=(by omega);by_cases h16:16<=q
 ·have i16:((q:Int)==16)=true:=(by rw[beq_iff_eq];omega);have HE:=Qh (HR.trans ((if_neg h3).trans (if_pos h16)));clear h3 h16;go_wp2_with fail;go_ret;exact Or.inr ⟨9,HE.out,by decide,rfl,K1.out.mono fun _ _ h=>h.elim⟩
 have i16:((q:Int)==16)=false:=Qb (by omega);by_cases h0:n≠0
 ·have i0:((n:Int)+1 != 1)=true:=(by rw[bne_iff_ne];omega);have HE:=Qh (HR.trans ((if_neg h3).trans ((if_neg h16).trans (if_pos h0))));clear h3 h16 h0;go_wp2_with fail;go_ret;exact Or.inr ⟨64,HE.out,by decide,rfl,K1.out.mono fun _ _ h=>h.elim⟩
 have HE:=Qh (HR.trans ((if_neg h3).trans ((if_neg h16).trans (if_neg h0))));have hqb':q<16:=(by omega);obtain rfl:n=0:=(by omega);have HAK:=Qh (HA.kept K1.out);have hrow:w1.ownsRow 0 56 1 (.slice oT q cT) q (m.ts.map (·.v)):=by have h:=HAK.ts.row;rw[HTV.out,HQ.out]at h;exact h
 have hne:(Value.slice oT q cT).ownBlock≠some pb:=fun e=>(by have h1:=HAK.ts.tag pb (by rw[HTV.out];exact e);rw[HAK.tag]at h1;cases h1);have HX:=Qh (Qa hrow (Qa hne (Nat.lt_of_lt_of_le HPL.out K1.out.size)));obtain⟨i0,hi0,hz0,hz1,hz2⟩:=zeh;have HI:=Qh (Qa hi0 (Qa hz0 (Qa hz1 hz2)));clear h3 h16 h0 hrow hne hi0 hz0 hz1 hz2;go_wp2_with(at_builtin;refine wpList_append_own_at _ rfl (.tmp 125) (.tmp 126) 36 rfl 0 56 i0 _ 1 24 Tryz.underlying36 HI.1 HI.2.1 HI.2.2.1 HI.2.2.2 rfl (by decide) (.slice oT q cT) q (m.ts.map (·.v)) rfl (zf HX.1 ((Keep.refl (fun _=>False) w1).alloc _) fun _ _=>id) ⟨w1.heap.size,0,none⟩ 1 1 [.slice none 0 0] rfl rfl (zD _ _ _) (by intro u hu;simp at hu;subst hu;rfl) (by unfold maxLen;omega) (by omega) (Nat.zero_le _) ?_;intro v4 w4 hown hgr _ hblk;obtain⟨g4,c4,rfl⟩:=ownsRow_succ hown;have k4:Keep (fun b=>(Value.slice oT q cT).ownBlock=some b) w1 w4:=((Keep.refl (fun b=>(Value.slice oT q cT).ownBlock=some b) w1).alloc _).trans (zp hgr);have u10:=(k4.cell (p:=⟨pb,10,none⟩) HX.2.2 (fun h=>HX.2.1 h)).trans x10;have v10:=(k4.frozen (p:=⟨pb,10,none⟩) HX.2.2 (fun h=>HX.2.1 h)).trans y10;have u14:=(k4.cell (p:=⟨pb,14,none⟩) HX.2.2 (fun h=>HX.2.1 h)).trans x14;have v14:=(k4.frozen (p:=⟨pb,14,none⟩) HX.2.2 (fun h=>HX.2.1 h)).trans y14;have H4:=Qh (Qa hown (Qa hblk k4));clear hown hgr hblk k4)
 go_ret;obtain⟨own',hp1,hp2⟩:=HAK.task_push (v':=.slice (some ⟨g4,0,none⟩) (q+1) c4) (by rw[HQ.out];exact H4.1) (by rw[HTV.out];exact H4.2.2) (by
  rw[HTV.out];rcases H4.2.1 with h|h
  ·exact Or.inl h
  ·exact Or.inr ⟨_,h,by simp⟩)
 obtain⟨e1',e2'⟩:=M.newTask_play m (.slice (some ⟨g4,0,none⟩) (q+1) c4);have hsc:=hp1.scalars (m':={m.newTask (.slice (some ⟨g4,0,none⟩) (q+1) c4)with st:=3}) ((Keep.refl (fun q=>q=pb) _).setCell (p:=⟨pb,14,none⟩) (Or.inl rfl) (.int .i64 3)) (by
  rw[zg hp1.blk 14 (.int .i64 3)];rfl) rfl rfl rfl rfl rfl rfl rfl rfl
 refine Or.inl ⟨_,_,_,HE.out,rfl,hsc.1,?_,rfl,((To.kept K1.out).trans hp2).trans hsc.2⟩;exact e1'
theorem z7v{w:World}{own:Nat->Option T}{pb:Nat}{m:M}{g f:Nat}(cl:Nat){ws:List Str}(h:RkAt w own pb m g f [109,111,115,116] ws)(hcl:ws.length+1<=cl):
  Calls Tryz.prog 21 #[.pointer (some ⟨pb,0,none⟩),.slice (some ⟨g,f,none⟩) (ws.length+1) cl] w (qI own pb (zi ⟨m.play,m.st⟩ 2 [109,111,115,116] ws) w):=by
 have hs5:=h.st;have c14:=za h.at_.blk 14;have f14:=zd h.at_.blk 14;unfold M.rcells at c14;simp at c14;obtain⟨s,hs⟩:=Qx m.st;rw[hs]at c14 hs5;have HPL:=Qh (lt_of_block h.at_.blk);have x0:w.cell? ⟨g,f,none⟩=some (.string (zc [109,111,115,116])):=h.cell 0 (by omega) (Keep.refl _ w);have HCK:=Qh (show Calls Tryz.prog 49 #[.string (zc [109,111,115,116])] w fun e w'=>e=.returned (.int .i64 0)/\Keep (fun _=>False) w w' from by
  have h1:=qd [109,111,115,116] w;rw[show zb [109,111,115,116]=0 from by decide]at h1;exact h1)
 obtain⟨n,hn⟩:=Qx ws.length;have hnp:(0:Int)<(n:Int)+1:=(by omega);have hR:=fun h1=>zez (m:=m) (x:=[109,111,115,116]) (ws:=ws) h1 hn;rw[hn];rw[hn]at hcl;have HN:=Qh hn;have HH:=Qh h;have b1:((zc [109,111,115,116]).toList==[112,108,97,121])=false:=(by rw[ByteArray.toList_eq,ze];rfl);have b2:((zc [109,111,115,116]).toList==[109,111,115,116])=true:=(by rw[ByteArray.toList_eq,ze];rfl);have b3:((zc [109,111,115,116]).toList==[102,97,117,108,116])=false:=(by rw[ByteArray.toList_eq,ze];rfl);have b4:((zc [109,111,115,116]).toList==[116,97,115,107])=false:=(by rw[ByteArray.toList_eq,ze];rfl);have b6:((zc [109,111,115,116]).toList==[112,105,99,107,115])=false:=(by rw[ByteArray.toList_eq,ze];rfl);have b7:((zc [109,111,115,116]).toList==[101,110,100])=false:=(by rw[ByteArray.toList_eq,ze];rfl);by_cases h0:s=0
 ·have e0:((s:Int)==0)=true:=by rw[beq_iff_eq];omega
  have HE:=Qh (yw (p:=m.play) (x:=[109,111,115,116]) (ws:=ws) 2 hs (by subst h0;rfl));generalize zc [109,111,115,116]=X at*
  clear h hs hn hR;go_in;go_wp2_with(go_at_call 49;refine HCK.mono ?_;rintro e w1 ⟨rfl,k1⟩;have x14:=(k1.cell (p:=⟨pb,14,none⟩) HPL.out id).trans c14;have y14:=(k1.frozen (p:=⟨pb,14,none⟩) HPL.out id).trans f14;have K1:=Qh k1;clear k1);go_ret;exact Or.inr ⟨63,HE.out,by decide,rfl,K1.out.mono fun _ _ h=>h.elim⟩
 have e0:((s:Int)==0)=false:=Qb (by omega);by_cases h1:s≠1
 ·have e1:((s:Int)==1)=false:=Qb (by omega)
  have HE:=Qh (yw (p:=m.play) (x:=[109,111,115,116]) (ws:=ws) 2 hs (by rcases(show s=2\/s=3\/s=4\/s=5 by omega)with rfl|rfl|rfl|rfl<;>rfl));generalize zc [109,111,115,116]=X at*
  clear h hs hn hR;go_in;go_wp2_with(go_at_call 49;refine HCK.mono ?_;rintro e w1 ⟨rfl,k1⟩;have x14:=(k1.cell (p:=⟨pb,14,none⟩) HPL.out id).trans c14;have y14:=(k1.frozen (p:=⟨pb,14,none⟩) HPL.out id).trans f14;have K1:=Qh k1;clear k1);go_ret;exact Or.inr ⟨63,HE.out,by decide,rfl,K1.out.mono fun _ _ h=>h.elim⟩
 have e1:((s:Int)==1)=true:=(by rw[beq_iff_eq];omega);have HR:=Qh (hR (by omega));generalize zc [109,111,115,116]=X at*
 clear h hs hn hR h0 h1;go_in;go_upto_region 3 with(go_at_call 49;refine HCK.mono ?_;rintro e w1 ⟨rfl,k1⟩;have x14:=(k1.cell (p:=⟨pb,14,none⟩) HPL.out id).trans c14;have y14:=(k1.frozen (p:=⟨pb,14,none⟩) HPL.out id).trans f14;have K1:=Qh k1;clear k1);clear c14 f14 x0 HCK;by_cases h1:n≠1
 ·have i0:((n:Int)+1 != 2)=true:=(by rw[bne_iff_ne];omega);have HE:=Qh (HR.trans (if_pos h1));clear h1;go_wp2_with fail;go_ret;exact Or.inr ⟨64,HE.out,by decide,rfl,K1.out.mono fun _ _ h=>h.elim⟩
 have HE:=Qh (HR.trans (if_neg h1));obtain rfl:n=1:=(by omega);obtain⟨s0,rfl⟩:∃s0,ws=[s0]:=by
  match ws,HN.out with
  |[s0],_=>exact⟨s0,rfl⟩
 obtain⟨W1,hW1⟩:∃W1,w1.setCell ⟨pb,14,none⟩ (.int .i64 2)=W1:=⟨_,rfl⟩;have hAW:RAt W1 own pb {m with st:=2}/\To own own w1 W1:=by
  have hk:=HH.at_.kept K1.out;have hsc:=hk.scalars (m':={m with st:=2}) ((Keep.refl (fun q=>q=pb) w1).setCell (p:=⟨pb,14,none⟩) (Or.inl rfl) (.int .i64 2)) (by
   rw[zg hk.blk 14 (.int .i64 2)];rfl) rfl rfl rfl rfl rfl rfl rfl rfl
  rw[hW1]at hsc;exact hsc
 have hto:=(To.kept K1.out).trans hAW.2;have hgp:pb≠g:=(by intro e;have:=HH.free;rw[<-e,HH.at_.tag]at this;cases this);obtain⟨bb,hbb⟩:=Qx W1.heap.size;have hpl:pb<bb:=(by rw[<-hbb];exact lt_of_block hAW.1.blk);have hgl:g<bb:=(by rw[<-hbb];exact Nat.lt_of_lt_of_le (by have h1:=HH.cell 0 (by simp) (Keep.refl _ w);exact By.zG h1) hto.keep.size);have hIG:∀W0:World,Keep (fun _=>False) W1 W0->W0.heap.size=bb->Calls Tryz.prog 51 #[.slice (some ⟨g,f+1,none⟩) 1 (cl-1),.slice (some ⟨bb,0,none⟩) 1 1] (W0.alloc (.cells #[.pointer (some ⟨pb,12,none⟩)] 108)) (fun e w2=>∃W,z3N [s0] [(pb,12)] W e w2/\Keep (fun _=>False) W1 W):=by
  intro W0 kW0 hW0;obtain⟨W,hW⟩:∃W,W0.alloc (.cells #[.pointer (some ⟨pb,12,none⟩)] 108)=W:=⟨_,rfl⟩;have bt:W.heap[bb]?=some (.cells #[.pointer (some ⟨pb,12,none⟩)] 108 (0,0)):=(by rw[<-hW,<-hW0];exact zm W0 _);have kW:Keep (fun _=>False) W1 W:=(by rw[<-hW];exact kW0.alloc _);rw[hW];have hI:=z1A [s0] (some ⟨g,f+1,none⟩) (cl-1) 1 bb [(pb,12)] W (fun i hi=>by
   have hi1:i<1:=hi;obtain rfl:i=0:=(by omega);have hc:=HH.cellTo 1 (by simp) (hto.trans (To.kept kW));exact⟨g,f+1,rfl,hc,Nat.lt_of_lt_of_le (by omega) (hbb▸kW.size)⟩) rfl (by simp) (fun i=>by
   by_cases hi1:i<1
   ·obtain rfl:i=0:=(by omega);exact HH.sz 1
   ·rw[List.getD_eq_getElem?_getD,List.getElem?_eq_none (by simp;omega)];simp) bt (fun a ha=>by
   simp only[List.mem_cons,List.not_mem_nil,or_false]at ha;obtain rfl:=ha;exact⟨⟨_,_,kW.same hAW.1.blk id,by show 12<15;decide⟩,by show pb≠bb;omega⟩) (fun g' f' he a ha=>by
   cases he;simp only[List.mem_cons,List.not_mem_nil,or_false]at ha;obtain rfl:=ha;exact hgp)
  exact(show Calls Tryz.prog 51 #[.slice (some ⟨g,f+1,none⟩) 1 (cl-1),.slice (some ⟨bb,0,none⟩) 1 1] W (z3N [s0] [(pb,12)] W)from hI).mono fun e w2 hq=>⟨W,hq,kW⟩
 subst hbb;have HI:=Qh hIG;have HNow:=Qh ((Keep.refl (fun _=>False) W1).drewN 1);have HZ1:=Qh (show(W1.drewN 1).heap.size=W1.heap.size from rfl);have HAW:=Qh (Qa hAW.1 hto);have HLT:=Qh hpl;have HW1:=Qh hW1;have hc2:(2:Nat)<=cl:=hcl;clear hIG hAW hto hgp hpl hgl hcl hW1 h1;have hc2I:(2:Int)<=(cl:Int):=(by omega);have hc1:¬cl=1:=(by omega);go_upto_region 14 with fail;rw[HW1.out,show(1+1:Nat)=2 from rfl];go_region_held3(fun _=>True) (first|exact True.intro) (first|(go_at_call 51;refine(HI.out _ HNow.out HZ1.out).mono ?_;rintro e w2 ⟨W,hq,kW⟩;obtain⟨code,rfl,hq2,k2⟩:=hq.code;have HKW:=Qh kW;clear hq kW));clear HI;rcases hq2 with⟨ns,hn,rfl,hb⟩|⟨hn,rfl⟩
 ·have k12:Keep (fun q=>q=pb) W1 w2:=(HKW.mono fun _ _ h=>h.elim).own k2 fun i hi=>by
   obtain⟨a,ha,rfl⟩:=hi;simp only[List.mem_cons,List.not_mem_nil,or_false]at ha;obtain rfl:=ha;exact Or.inl rfl
  obtain⟨a,hna,rfl⟩:∃a,zh s0=some a/\ns=[a]:=by
   cases hq:zh s0 with
   |none=>simp[zI,hq]at hn
   |some a=>refine⟨a,rfl,?_⟩;simp[zI,hq]at hn;exact hn.symm
  have hbP:=hb pb _ _ (HKW.same HAW.1.blk id);have eP:xf pb ({m with st:=2}:M).rcells [(pb,12)] [a]=({m with st:=2,most:=a}:M).rcells:=(by simp only[xf,if_pos];rfl);rw[eP]at hbP;have hsc:=HAW.1.scalars k12 hbP rfl rfl rfl rfl rfl rfl rfl rfl;have HS:=Qh (Qa hna hsc);clear hn hb k2 hbP eP hsc k12 HKW HZ1 HNow hna;go_wp2_with fail;go_ret;refine Or.inl ⟨_,_,_,HE.trans (by rw[show[s0].getD 0 []=s0 from rfl,HS.1]),rfl,HS.2.1,?_,rfl,HAW.2.trans HS.2.2⟩;rfl
 ·have hnn:zh s0=none:=by
   cases hq:zh s0 with
   |none=>rfl
   |some a=>simp[zI,hq]at hn
  have HNN:=Qh hnn;have HK2:=Qh (show Keep (fun q=>own q≠none) W1 w2 from(HKW.mono fun _ _ h=>h.elim).own k2 fun i hi=>by
   obtain⟨a,ha,rfl⟩:=hi;simp only[List.mem_cons,List.not_mem_nil,or_false]at ha;obtain rfl:=ha;exact Or.inl (by show own pb≠none;rw[HH.at_.tag];simp))
  clear hn k2 hnn;go_wp2_with fail;go_ret;exact Or.inr ⟨66,HE.trans (by rw[show[s0].getD 0 []=s0 from rfl,HNN.out]),by decide,rfl,HAW.2.keep.trans HK2.out⟩
theorem z4l{w:World}{own:Nat->Option T}{pb:Nat}{m:M}{g f:Nat}(cl B:Nat){x:Str}{ws:List Str}(h:RkAt w own pb m g f x ws)(hcl:ws.length+1<=cl)(hE:Ev B w)(hB:∀q,own q≠none->B<=q):
  Calls Tryz.prog 21 #[.pointer (some ⟨pb,0,none⟩),.slice (some ⟨g,f,none⟩) (ws.length+1) cl] w (qI own pb (if zk x=0 then .error 65 else zi ⟨m.play,m.st⟩ (zk x) x ws) w):=by
 by_cases h1:x=[112,108,97,121]
 ·subst h1;exact z7t cl h hcl B hE hB
 by_cases h2:x=[109,111,115,116]
 ·subst h2;exact z7v cl h hcl
 by_cases h3:x=[102,97,117,108,116]
 ·subst h3;exact z65 cl h hcl
 by_cases h4:x=[116,97,115,107]
 ·subst h4;exact z7s cl h hcl
 by_cases h6:x=[112,105,99,107,115]
 ·subst h6;exact z64 cl h hcl
 by_cases h7:x=[101,110,100]
 ·subst h7;exact z9o cl h hcl
 have hx:x≠[112,108,97,121]/\x≠[109,111,115,116]/\x≠[102,97,117,108,116]/\x≠[116,97,115,107]/\x≠[112,105,99,107,115]/\x≠[101,110,100]:=⟨h1,h2,h3,h4,h6,h7⟩;have hk:zk x=if zb x≠0 then 5 else 0:=(by unfold zk;rw[if_neg h1,if_neg h2,if_neg h3,if_neg h4,if_neg h6,if_neg h7]);by_cases hc:zb x=0
 ·rw[show zk x=0 from hk.trans (if_neg fun h=>h hc),if_pos rfl];exact z7u cl h hcl hx hc
 ·rw[show zk x=5 from hk.trans (if_pos hc),if_neg (by decide)];exact z7w cl h hcl hx hc
structure TeQ (k:Int) (p q:Play):Prop where
 ts:p.tasks≠[]->q.tasks≠[]
 t4:k=4\/k=5->q.tasks≠[]
 es:k≠7->(q.ends=[]↔p.ends=[])
 e7:k=7->q.ends≠[]
theorem TeQ.same{k:Int}{p q:Play}(h1:q.tasks=p.tasks)(h2:q.ends=p.ends)(h4:k≠4)(h5:k≠5)(h7:k≠7):TeQ k p q:=
 ⟨fun h=>by rw[h1];exact h,fun h=>by rcases h with h|h<;>contradiction,fun _=>by rw[h2],fun h=>absurd h h7⟩
theorem zfb(p:Play)(f:Fault):(arm p f).tasks=p.tasks/\((arm p f).ends=[]↔p.ends=[]):=by
 unfold arm;cases h:p.ends.getLast? with
 |none=>exact⟨rfl,Iff.rfl⟩
 |some r=>exact⟨rfl,by
   simp only[];constructor
   ·intro e;simp at e
   ·intro e;rw[e]at h;simp at h⟩
theorem zcQ{p q:Play}{k:Int}{x:Str}{ws:List Str}(hk1:1<=k)(hk2:k<=7)(h:zH p k x ws=.ok q):TeQ k p q:=by
 rcases(show k=1\/k=2\/k=3\/k=4\/k=5\/k=6\/k=7 by omega)with rfl|rfl|rfl|rfl|rfl|rfl|rfl
 ·have h:qq p ws=.ok q:=h
  unfold qq at h;split at h
  ·split at h
   ·cases h
   ·split at h
    ·cases h
    ·cases h;exact TeQ.same rfl rfl (by decide) (by decide) (by decide)
  ·cases h
 ·unfold zH at h
  rw[if_neg (by decide),if_pos rfl]at h;split at h
  ·cases h
  ·cases h;exact TeQ.same rfl rfl (by decide) (by decide) (by decide)
 ·have h:yZ p ws=.ok q:=h
  unfold yZ at h;split at h
  ·cases h
  ·split at h
   ·cases h
   ·split at h
    ·cases h
    ·cases h;obtain⟨h1,h2⟩:=zfb p ⟨_,_,_⟩;exact⟨fun h=>by rw[h1];exact h,fun h=>by rcases h with h|h<;>exact absurd h (by decide),fun _=>h2,fun h=>absurd h (by decide)⟩
 ·have h:Except.ok {p with tasks:=p.tasks++[[]]}=(Except.ok q:Except Int Play):=h;cases h;exact⟨fun _=>by simp,fun _=>by simp,fun _=>Iff.rfl,fun h=>absurd h (by decide)⟩
 ·have h:qQ p x ws=.ok q:=h
  have hc:∀c,TeQ 5 p (callTo p c):=fun c=>⟨fun _=>by simp[callTo],fun _=>by simp[callTo],fun _=>Iff.rfl,fun h=>absurd h (by decide)⟩;unfold qQ at h;split at h
  ·split at h
   ·cases h
   ·cases h;exact hc _
  ·split at h
   ·split at h
    ·cases h
    ·cases h;exact hc _
   ·cases h;exact hc _
 ·unfold zH at h
  rw[if_neg (by decide),if_neg (by decide),if_neg (by decide),if_neg (by decide),if_neg (by decide),if_pos rfl]at h;split at h
  ·cases h
  ·cases h;exact TeQ.same rfl rfl (by decide) (by decide) (by decide)
 ·have h:z0o p ws=.ok q:=h
  unfold z0o at h;split at h
  ·cases h
  ·split at h
   ·cases h
   ·cases h;exact⟨fun h=>h,fun h=>by rcases h with h|h<;>exact absurd h (by decide),fun h=>absurd rfl h,fun _=>by simp⟩
def StI(σ:PS):Prop:=(σ.st=5↔σ.p.ends≠[])/\(σ.st=3->σ.p.tasks≠[])/\σ.st<=5
theorem zdt(x:Str)(h:zk x≠0):1<=zk x/\zk x<=7:=by
 unfold zk at h⊢
 (repeat' split);all_goals first|omega|(exfalso;simp_all)
theorem zbu{s:Nat}{k:Int}(hs:s<=5)(hk1:1<=k)(hk2:k<=7)(h6:nxt s k≠6):nxt s k<=5/\(nxt s k=5↔(k=7\/s=5))/\(nxt s k=3->k=4\/k=5):=by
 rcases(show s=0\/s=1\/s=2\/s=3\/s=4\/s=5 by omega)with rfl|rfl|rfl|rfl|rfl|rfl<;>
 rcases(show k=1\/k=2\/k=3\/k=4\/k=5\/k=6\/k=7 by omega)with rfl|rfl|rfl|rfl|rfl|rfl|rfl<;>
 revert h6<;>decide
theorem z5Q{σ σ':PS}{s:Str}(h:StI σ)(hl:yd σ s=.ok σ'):StI σ':=by
 rw[z3j]at hl;by_cases h1:(ya 35 s).all okB=false
 ·rw[if_pos h1]at hl;cases hl
 rw[if_neg h1]at hl;cases hw:zu (ya 35 s)with
 |nil=>rw[hw]at hl;cases hl;exact h
 |cons x ws=>
  rw[hw]at hl;simp only[]at hl;by_cases h2:zk x=0
  ·rw[if_pos h2]at hl;cases hl
  rw[if_neg h2]at hl;by_cases h3:nxt σ.st (zk x)=6\/(zk x=5/\σ.p.tasks=[])
  ·rw[if_pos h3]at hl;cases hl
  rw[if_neg h3]at hl;by_cases h4:full σ.p (zk x) ws.length=true
  ·rw[if_pos h4]at hl;cases hl
  rw[if_neg h4]at hl;by_cases h5:zF (zk x) x ws.length=false
  ·rw[if_pos h5]at hl;cases hl
  rw[if_neg h5]at hl;cases ht:zH σ.p (zk x) x ws with
  |error e=>rw[ht]at hl;cases hl
  |ok p=>
   rw[ht]at hl;cases hl;obtain⟨hk1,hk2⟩:=zdt x h2;obtain⟨n1,n2,n3⟩:=zbu h.2.2 hk1 hk2 (fun e=>h3 (Or.inl e));have hq:=zcQ hk1 hk2 ht;refine⟨?_,fun e=>hq.t4 (n3 e),n1⟩;show nxt σ.st (zk x)=5↔p.ends≠[];rw[n2];by_cases h7:zk x=7
   ·exact⟨fun _=>hq.e7 h7,fun _=>Or.inl h7⟩
   ·have e:=hq.es h7
    constructor
    ·rintro(c|c)
     ·exact absurd c h7
     ·exact fun z=>h.1.1 c (e.1 z)
    ·intro z;exact Or.inr (h.1.2 fun c=>z (e.2 c))
theorem z4x{m:M}(h:StI ⟨m.play,m.st⟩):(m.st=5↔m.es≠[])/\(m.st=3->m.ts≠[])/\m.st<=5:=by
 have h1:=h.1;have h2:=h.2.1;refine⟨?_,?_,h.2.2⟩
 ·simpa[M.play]using h1
 ·simpa[M.play]using h2
theorem yx(tmps:Array Value)(w:World)(q:Nat)(cs:Array Value)(n c:Int)(h2:tmps.getD 2 undef=.pointer (some ⟨q,0,none⟩))(h3:tmps.getD 3 undef=.int .i64 n)(h4:tmps.getD 4 undef=.int .i64 c)
  (b0:w.heap[q]?=some (.cells cs 40 (0,0)))(hs:cs.size=14):
  (results Tryz.f9 tmps).run Tryz.prog w=.ok (.tuple #[.agg cs,.int .i64 n,.int .i64 c]) w:=by
 have h1:=run_loadVar_row (P:=Tryz.prog) w q 40 40 cs (0,0) _ b0 Tryz.underlying40 rfl (by rw[hs];kernel_rfl);have e2:tmps[2]?.getD undef=.pointer (some ⟨q,0,none⟩):=(by simpa using h2);have e3:tmps[3]?.getD undef=.int .i64 n:=(by simpa using h3);have e4:tmps[4]?.getD undef=.int .i64 c:=(by simpa using h4);simp[results,Tryz.results9,e2,e3,e4,asAddr,h1]
structure RI (w W:World) (q:Nat) (s:Str) (pre:List Str) (at_:Nat) (own:Nat->Option T) (m:M):Prop where
 read:zC ⟨zX,0⟩ 0 pre=.ok ⟨m.play,m.st⟩
 lines:zA s=pre++zA (s.drop at_)
 le:at_<=s.length+1
 pat:RAt W own (q+1) m
 no:∀g,g<=q->own g=none
 few:Few m.play
 sti:StI ⟨m.play,m.st⟩
 r0:W.heap[q]?=some (.cells m0.val 40 (0,0))
 k:Keep (fun _=>False) w W
theorem z6o{s:Str}{a t:Nat}(h1:a<=t)(h2:t<=s.length)(h3:a<s.length)(hp:has 10 ((s.drop a).take (t-a))=false)(he:t=s.length\/∃h:t<s.length,(s[t]).toNat=10):
  zA (s.drop a)=(s.drop a).take (t-a)::zA (s.drop (t+1)):=by
 have hne:s.drop a≠[]:=fun e=>(by have:=congrArg List.length e;simp at this;omega);rw[z2f hne];rcases he with rfl|⟨h,hc⟩
 ·have e1:(s.drop a).take (s.length-a)=s.drop a:=List.take_of_length_le (by simp)
  rw[e1]at hp⊢
  rw[xa 10 hp,z0J 10 hp,List.drop_eq_nil_of_le (show s.length<=s.length+1 by omega)]
 ·have hi:t-a<(s.drop a).length:=(by simp;omega);have hx:((s.drop a)[t-a]'hi).toNat=10:=(by rw[List.getElem_drop];have e:a+(t-a)=t:=(by omega);simp only[e];exact hc);obtain⟨e1,e2,-⟩:=z6W hi hp hx;rw[e1,e2,List.drop_drop,show a+(t-a+1)=t+1 by omega]
theorem z2H{σ:PS}{pre:List Str}{x:Str}(h:zC ⟨zX,0⟩ 0 pre=.ok σ):zC ⟨zX,0⟩ 0 (pre++[x])=(match yd σ x with| .error e=>.error (pre.length+1,e)| .ok σ'=>.ok σ'):=by
 rw[qz,h];simp only[];rw[zC];cases yd σ x with
 |error e=>simp
 |ok σ'=>rfl
theorem z1E{σ:PS}{pre rest:List Str}{s x:Str}{c:Int}(hl:s.length<=65536)(hs:zA s=pre++x::rest)(h:zC ⟨zX,0⟩ 0 pre=.ok σ)(he:yd σ x=.error c):yl s=(zX,pre.length+1,c):=by unfold yl;rw[if_neg (by omega),hs,qz,h];simp only[];rw[zC,he];simp
theorem zbb{σ:PS}{s:Str}(hl:s.length<=65536)(h:zC ⟨zX,0⟩ 0 (zA s)=.ok σ):yl s=if σ.st<=1 then(zX,0,63)else(σ.p,0,0):=by unfold yl;rw[if_neg (by omega),h]
theorem z3i{σ:PS}{s x:Str}{ws:List Str}(ho:(yn s).all okB=true)(hw:zu (yn s)=x::ws):yd σ s=if zk x=0 then .error 65 else zi σ (zk x) x ws:=by unfold yd zi;rw[if_neg (by rw[ho];decide),hw];rfl
theorem z4A{σ:PS}{s:Str}(ho:(yn s).all okB=true)(hw:zu (yn s)=[]):yd σ s=.ok σ:=by unfold yd;rw[if_neg (by rw[ho];decide),hw]
theorem z6n{σ:PS}{s:Str}(ho:(yn s).all okB=false):yd σ s=.error 64:=by unfold yd;rw[if_pos ho]
theorem z9q(V:World)(q:Nat)(v0 v1 v2 v3 v4 v5 v6 v7 v8 v9 v10 v11 v12 v13:Value)(r0:V.heap[q]?=some (.cells m0.val 40 (0,0))):∃W,((((((((((((((V.setCell ⟨q,0,none⟩ v0).setCell ⟨q,1,none⟩ v1).setCell ⟨q,2,none⟩ v2).setCell ⟨q,3,none⟩ v3).setCell ⟨q,4,none⟩ v4).setCell ⟨q,5,none⟩ v5).setCell ⟨q,6,none⟩ v6).setCell ⟨q,7,none⟩ v7).setCell ⟨q,8,none⟩ v8).setCell ⟨q,9,none⟩ v9).setCell ⟨q,10,none⟩ v10).setCell ⟨q,11,none⟩ v11).setCell ⟨q,12,none⟩ v12).setCell ⟨q,13,none⟩ v13)=W/\W.heap[q]?=some (.cells #[v0,v1,v2,v3,v4,v5,v6,v7,v8,v9,v10,v11,v12,v13] 40 (0,0))/\Keep (fun g=>g=q) V W:=by refine⟨_,rfl,?_,(((((((((((((((Keep.refl (fun g=>g=q) V).setCell (p:=⟨q,0,none⟩) (Or.inl rfl) _).setCell (p:=⟨q,1,none⟩) (Or.inl rfl) _).setCell (p:=⟨q,2,none⟩) (Or.inl rfl) _).setCell (p:=⟨q,3,none⟩) (Or.inl rfl) _).setCell (p:=⟨q,4,none⟩) (Or.inl rfl) _).setCell (p:=⟨q,5,none⟩) (Or.inl rfl) _).setCell (p:=⟨q,6,none⟩) (Or.inl rfl) _).setCell (p:=⟨q,7,none⟩) (Or.inl rfl) _).setCell (p:=⟨q,8,none⟩) (Or.inl rfl) _).setCell (p:=⟨q,9,none⟩) (Or.inl rfl) _).setCell (p:=⟨q,10,none⟩) (Or.inl rfl) _).setCell (p:=⟨q,11,none⟩) (Or.inl rfl) _).setCell (p:=⟨q,12,none⟩) (Or.inl rfl) _).setCell (p:=⟨q,13,none⟩) (Or.inl rfl) _)⟩;have h:=r0;simp only[m0,M.val]at h;replace h:=zg h 0 v0;replace h:=zg h 1 v1;replace h:=zg h 2 v2;replace h:=zg h 3 v3;replace h:=zg h 4 v4;replace h:=zg h 5 v5;replace h:=zg h 6 v6;replace h:=zg h 7 v7;replace h:=zg h 8 v8;replace h:=zg h 9 v9;replace h:=zg h 10 v10;replace h:=zg h 11 v11;replace h:=zg h 12 v12;replace h:=zg h 13 v13;simp only[List.setIfInBounds_toArray,List.set_cons_zero,List.set_cons_succ]at h;exact h
theorem z9i{w W:World}{q:Nat}{s:Str}(hq:w.heap.size=q)(r1:W.heap[q]?=some (.cells m0.val 40 (0,0)))(r2:W.heap[q+1]?=some (.cells m0.rcells 68 (0,0)))(k:Keep (fun _=>False) w W):
  RI w W q s [] 0 (fun g=>if g=q+1 then some (0,0,0)else none) m0 where
 read:=rfl
 lines:=rfl
 le:=Nat.zero_le _
 pat:={
  low:=fun g hg=>by
   by_cases e:g=q+1
   ·subst e;exact lt_of_block r2
   ·simp[e]at hg
  blk:=r2
  tag:=by simp
  fs:=RowT.nil _ _ _ _ _
  ts:=RowT.nil _ _ _ _ _
  calls:=fun i t h=>by simp[m0]at h
  ps:=RowT.nil _ _ _ _ _
  es:=RowT.nil _ _ _ _ _
  ends:=fun i t h=>by simp[m0]at h}
 no:=fun g hg=>if_neg (by omega)
 few:=zfv
 sti:=⟨by simp[m0,M.play],by simp[m0],by simp[m0]⟩
 r0:=r1
 k:=k
theorem z7r(s:Str)(w:World)(hE:Ev w.heap.size w):Calls Tryz.prog 9 #[.string (zc s)] w (zcH s w):=by
 obtain⟨N,hN⟩:=Qx s.length;have hz:((zc s).size:Int)=(N:Int):=(by rw[zw,hN]);obtain⟨q,hq⟩:=Qx w.heap.size;have HCH:=Qh (qu s);have HN:=Qh hN;have HE:=Qh hE;generalize hS:zc s=S at*
 have r0:(w.alloc (.cells m0.val 40)).heap[q]?=some (.cells m0.val 40 (0,0)):=(by rw[<-hq];exact zm _ _);rcases Nat.lt_or_ge 65536 N with hl|hl
 ·have hl1:(65536:Int)<(N:Int):=(by omega);have HP:=Qh (show yl s=(zX,0,3)from by unfold yl;rw[if_pos (by omega)]);have c0:=za r0;have f0:=zd r0;clear hE hN hS hl;go_in;go_wp2_with fail;refine bodyPost_ret (yx _ _ q m0.val 0 3 rfl rfl rfl r0 rfl) rfl ?_;exact⟨m0,fun _=>none,0,3,rfl,by rw[HP.out];rfl,LAt.zero _,fun g h=>absurd rfl h,(Keep.refl _ w).alloc _⟩
 ·have hl1:¬(65536:Int)<(N:Int):=by omega
  have HL:=Qh hl;clear hE hN hl;go_in;go_wp2_with fail;obtain⟨W,hW⟩:=Qx ((w.alloc (.cells m0.val 40)).alloc (.cells m0.rcells 68));have r1:W.heap[q]?=some (.cells m0.val 40 (0,0)):=(by rw[<-hW];exact zr r0 _);have r2:W.heap[q+1]?=some (.cells m0.rcells 68 (0,0)):=(by rw[<-hW];exact zP _ _ (by simp[hq]));have kW:Keep (fun _=>False) w W:=(by rw[<-hW];exact((Keep.refl _ w).alloc _).alloc _);have hWZ:W.heap.size=q+2:=(by rw[<-hW];simp[hq]);have HI0:=Qh (z9i (s:=s) hq r1 r2 kW);rw[show(w.alloc (.cells #[.int .i64 0,.int .i64 0,.int .i64 0,.int .i64 0,.int .i64 0,.int .i64 0,.int .i64 0,.float .f64 0,.float .f64 0,.slice none 0 0,.slice none 0 0,.slice none 0 0,.int .i64 0,.slice none 0 0] 40)).alloc (.cells #[.int .i64 0,.int .i64 0,.int .i64 0,.int .i64 0,.int .i64 0,.int .i64 0,.int .i64 0,.float .f64 0,.float .f64 0,.slice none 0 0,.slice none 0 0,.slice none 0 0,.int .i64 0,.slice none 0 0,.int .i64 0] 68)=W from hW];clear hW r0 r1 r2 kW hWZ;go_loopg[6,7,8,9,10,11] (N+1) (fun gq s6 s7 s8 s9 s10 s11 wr=>∃(n a:Nat),gq+n=N+1/\s6=.int .i64 (n:Int)/\s7=.int .i64 (a:Int)/\Hid (∃pre own m,pre.length=n/\n<=a/\RI w wr q s pre a own m))
  case atStart=>exact⟨0,0,by omega,rfl,rfl,[],_,_,rfl,Nat.le_refl _,HI0.out⟩
  case round=>
   obtain⟨n,a,hgn,rfl,rfl,HK⟩:=hrel;obtain⟨pre,own,m,hpl,hna,hRI⟩:=HK;have haN:a<=N+1:=(by rw[<-HN.out];exact hRI.le);have HR:=Qh (Qa hpl (Qa hna hRI));obtain⟨G,hG⟩:=Qx gk;rw[hG]at hgn;have HG:=Qh hG;clear hpl hna hRI hG;by_cases ha:a<N
   ·have haI:(a:Int)<(N:Int):=by omega
    go_wp2_with fail;go_loopg[8] (N-a) (fun gq s8 wr2=>∃t:Nat,gq+t=N/\s8=.int .i64 (t:Int)/\wr2=wr/\Hid (a<=t/\has 10 ((s.drop a).take (t-a))=false))
    case atStart=>exact⟨a,by omega,rfl,by first|rfl|assumption,Nat.le_refl _,by simp[has]⟩
    case round=>
     obtain⟨t,hgt,rfl,rfl,HJ⟩:=hrel;have ht0:(0:Int)<=(t:Int):=(by omega);by_cases htN:t<N
     ·have htI:(t:Int)<(N:Int):=by omega
      have htl:t<s.length:=(by rw[HN.out];exact htN);have htS:t<S.size:=(by omega);have hcc:=HCH.out t htl;obtain⟨c,hch⟩:∃c,ch S (t:Int)=c:=⟨_,rfl⟩;rw[hch]at hcc;by_cases hc:c=10
      ·have hcb:((c:Int) != 10)=false:=by subst hc;rfl
       have HX:=Qh (z6o HJ.1 (Nat.le_of_lt htl) (by rw[HN.out];exact ha) HJ.2 (Or.inr ⟨htl,by rw[<-hcc];exact hc⟩));clear hcc htl hc htN;have HXX:=Qh (show S.extract a t=zc ((s.drop a).take (t-a))from by rw[<-hS];exact z0p HJ.1 (by rw[HN.out];omega));have haT:(a:Int)<=(t:Int):=(by have:=HJ.1;omega);have hTN:(t:Int)<=(N:Int):=(by omega);have ha0:(0:Int)<=(a:Int):=(by omega);have hn0:(0:Int)<=(n:Int):=(by omega);have hnb:(n:Int)+1<=65537:=(by have:=HR.2.1;have:=HL.out;omega);obtain⟨x,hx⟩:=Qx ((s.drop a).take (t-a));rw[hx]at HX HXX;have hxl:x.length<=65536:=(by rw[<-hx];have h1:=HL.out;have h2:=HN.out;simp;omega);have HW:=Qh (z30 x wr (by omega));have HXL:=Qh hxl;clear hx hxl;go_wp2_with fail;rw[HXX.out];refine HW.mono ?_;rintro e w2 ⟨(⟨ho,v,rfl,hrow⟩|⟨ho,rfl⟩),k2⟩
       ·obtain⟨o,cap,rfl,-,hcp,hws⟩:=qh.of_row hrow
        generalize hwd:zu (yn x)=L at*
        cases L with
        |nil=>
         (have HP:=Qh (show RI w w2 q s (pre++[x]) (t+1) own m from{read:=by rw[z2H HR.2.2.read,z4A ho hwd],lines:=by rw[HR.2.2.lines,HX.out];simp,le:=by have:=HN.out;omega,pat:=HR.2.2.pat.kept k2,no:=HR.2.2.no,few:=HR.2.2.few,sti:=HR.2.2.sti,r0:=k2.same HR.2.2.r0 id,k:=HR.2.2.k.trans k2});clear ho hrow hws hcp hwd k2;have hG:=HG.out;have hna:=HR.2.1;have hjt:=HJ.1;go_wp2_with fail;go_roundg(G-1);all_goals first|omega|skip);exact⟨n+1,t+1,by omega,by simp,by simp,pre++[x],own,m,by simp[HR.1],by omega,HP.out⟩
        |cons y ws=>
         obtain⟨g,f,rfl,-,-⟩:=hws 0 (by simp);have hfree:own g=none:=by
          by_cases h:own g=none
          ·exact h
          ·have h1:=HR.2.2.pat.low g h;have h2:=xL hrow (g:=g) rfl;omega
         have hlw:(yn x).length<=x.length:=xB 35 x;have hsz:∀i,((y::ws).getD i []).length<=1073741824:=fun i=>(by have h1:=z2M (yn x) i;rw[hwd]at h1;have h2:=HXL.out;omega);have hnw:ws.length<=1048576:=(by have h1:=z0K (yn x) [];rw[show wsp [] (yn x)=zu (yn x)from rfl,hwd]at h1;have h2:=HXL.out;simp at h1;omega);have hRk:RkAt w2 own (q+1) m g f y ws:={at_:=HR.2.2.pat.kept k2,wa:=hws,sz:=hsz,n:=hnw,free:=hfree,few:=HR.2.2.few,s5:=(z4x HR.2.2.sti).1,s3:=(z4x HR.2.2.sti).2.1,st:=(z4x HR.2.2.sti).2.2};have hEv:Ev q w2:=(by rw[<-hq];exact HE.on ((HR.2.2.k.trans k2).none));have hlow:∀g',own g'≠none->q+1<=g':=fun g' h=>by
          rcases Nat.lt_or_ge g' (q+1)with h1|h1
          ·exact absurd (HR.2.2.no g' (by omega)) h
          ·exact h1
         have HLN:=Qh (z4l cap q hRk hcp hEv fun g' h=>Nat.le_of_succ_le (hlow g' h));have HLF:=Qh (z3i (σ:=⟨m.play,m.st⟩) ho hwd);have HLO:=Qh (Qa hlow k2);obtain⟨n2,hn2⟩:=Qx ws.length;have hw0:((n2:Int)+1==0)=false:=Qb (by omega);have hlc:(y::ws).length=n2+1:=(by rw[<-hn2];rfl);rw[hlc];rw[hn2]at HLN;have hG:=HG.out;have hna:=HR.2.1;have hjt:=HJ.1;clear ho hrow hws hcp hwd k2 hfree hlw hsz hnw hRk hEv hlow hn2 hlc;go_wp2_with fail;refine HLN.mono ?_;rintro e w3 (⟨⟨p,st⟩,own',m',hr,rfl,hp,hmp,hms,hto⟩|⟨c,hr,hc0,rfl,k3⟩)
         ·have hl:yd ⟨m.play,m.st⟩ x=.ok ⟨m'.play,m'.st⟩:=by rw[HLF.out,hr,hmp,hms]
          (have hr2:=HLO.2.same HR.2.2.r0 id;have HP:=Qh (show RI w w3 q s (pre++[x]) (t+1) own' m' from{read:=by rw[z2H HR.2.2.read,hl],lines:=by rw[HR.2.2.lines,HX.out];simp,le:=by have:=HN.out;omega,pat:=hp,no:=fun g' hg=>hto.old g' (by have:=lt_of_block hr2;omega) (HR.2.2.no g' hg),few:=(z3t (σ:=⟨m.play,m.st⟩) HR.2.2.few HR.2.2.sti.2.2 hl).1,sti:=z5Q HR.2.2.sti hl,r0:=hto.keep.same hr2 (fun h=>h (HR.2.2.no q (Nat.le_refl _))),k:=(HR.2.2.k.trans HLO.2).own hto.keep fun i hi=>Or.inr (by have:=HLO.1 i hi;omega)});clear hr hp hmp hms hto hl hr2;go_wp2_with fail;go_roundg(G-1);all_goals first|omega|skip);exact⟨n+1,t+1,by omega,by simp,by simp,pre++[x],own',m',by simp[HR.1],by omega,HP.out⟩
         ·have hcb:(c != 0)=true:=by rw[bne_iff_ne];exact hc0
          have r3:=k3.same (HLO.2.same HR.2.2.r0 id) (fun h=>h (HR.2.2.no q (Nat.le_refl _)));have c0:=za r3;have f0:=zd r3;simp only[m0,M.val]at c0;have c00:=c0 0;have c01:=c0 1;have c02:=c0 2;have c03:=c0 3;have c04:=c0 4;have c05:=c0 5;have c06:=c0 6;have c07:=c0 7;have c08:=c0 8;have c09:=c0 9;have c010:=c0 10;have c011:=c0 11;have c012:=c0 12;have c013:=c0 13;simp at c00 c01 c02 c03 c04 c05 c06 c07 c08 c09 c010 c011 c012 c013;clear c0;have HP:=Qh (z1E (by rw[HN.out];exact HL.out) (HR.2.2.lines.trans (congrArg (pre++·) HX.out)) HR.2.2.read (HLF.trans hr))
          have K3:=Qh (Qa r3 k3);clear r3 k3 hr hc0;go_wp2_with fail;obtain⟨V,hV,b,k⟩:=z9q w3 q (.int .i64 0) (.int .i64 0) (.int .i64 0) (.int .i64 0) (.int .i64 0) (.int .i64 0) (.int .i64 0) (.float .f64 0) (.float .f64 0) (.slice none 0 0) (.slice none 0 0) (.slice none 0 0) (.int .i64 0) (.slice none 0 0) K3.out.1;rw[hV];refine bodyPost_ret (yx _ _ q m0.val ((n:Int)+1) c rfl rfl rfl b rfl) rfl ?_;exact⟨m0,fun _=>none,(n:Int)+1,c,rfl,by rw[HP.out,HR.1];simp[m0,M.play,zX],LAt.zero _,fun g' h=>absurd rfl h,((HR.2.2.k.trans HLO.2).own K3.out.2 fun i hi=>Or.inr (by have:=HLO.1 i hi;omega)).own k fun i hi=>Or.inr (by omega)⟩
       ·skip
        have r2:=k2.same HR.2.2.r0 id;have c0:=za r2;have f0:=zd r2;simp only[m0,M.val]at c0;have c00:=c0 0;have c01:=c0 1;have c02:=c0 2;have c03:=c0 3;have c04:=c0 4;have c05:=c0 5;have c06:=c0 6;have c07:=c0 7;have c08:=c0 8;have c09:=c0 9;have c010:=c0 10;have c011:=c0 11;have c012:=c0 12;have c013:=c0 13;simp at c00 c01 c02 c03 c04 c05 c06 c07 c08 c09 c010 c011 c012 c013;clear c0;have HP:=Qh (z1E (by rw[HN.out];exact HL.out) (HR.2.2.lines.trans (congrArg (pre++·) HX.out)) HR.2.2.read (z6n ho))
        have K2:=Qh (Qa r2 k2);clear r2 k2 ho;go_wp2_with fail;obtain⟨V,hV,b,k⟩:=z9q w2 q (.int .i64 0) (.int .i64 0) (.int .i64 0) (.int .i64 0) (.int .i64 0) (.int .i64 0) (.int .i64 0) (.float .f64 0) (.float .f64 0) (.slice none 0 0) (.slice none 0 0) (.slice none 0 0) (.int .i64 0) (.slice none 0 0) K2.out.1;rw[hV];refine bodyPost_ret (yx _ _ q m0.val ((n:Int)+1) 64 rfl rfl rfl b rfl) rfl ?_;exact⟨m0,fun _=>none,(n:Int)+1,64,rfl,by rw[HP.out,HR.1];simp[m0,M.play,zX],LAt.zero _,fun g h=>absurd rfl h,(HR.2.2.k.trans K2.out.2).own k fun i hi=>Or.inr (by omega)⟩
      ·have hcb:((c:Int) != 10)=true:=by rw[bne_iff_ne];omega
       have HX:=Qh (show has 10 ((s.drop a).take (t+1-a))=false from by
        have h1:=HJ.1;have hd:t-a<(s.drop a).length:=(by simp;omega);rw[show t+1-a=(t-a)+1 by omega,List.take_add_one,List.getElem?_eq_getElem hd,z5l,HJ.2,List.getElem_drop];have e:a+(t-a)=t:=(by omega);simp only[e];simp[has,<-hcc,hc])
       (have HA:=Qh HJ.1;clear hcc htl hc;go_wp2_with fail;go_roundg(gk-1);all_goals first|omega|skip);exact⟨t+1,by omega,by simp,by first|rfl|assumption,by have:=HA.out;omega,HX.out⟩
     ·obtain rfl:t=N:=by omega
      have htI:¬(t:Int)<(t:Int):=(by omega);have HX:=Qh (z6o HJ.1 (by rw[HN.out];exact Nat.le_refl _) (by rw[HN.out];exact ha) HJ.2 (Or.inl HN.symm));have HXX:=Qh (show S.extract a t=zc ((s.drop a).take (t-a))from by rw[<-hS];exact z0p HJ.1 (by rw[HN.out];exact Nat.le_refl _));have haT:(a:Int)<=(t:Int):=(by have:=HJ.1;omega);have hTN:(t:Int)<=(t:Int):=(by omega);have ha0:(0:Int)<=(a:Int):=(by omega);have hn0:(0:Int)<=(n:Int):=(by omega);have hnb:(n:Int)+1<=65537:=(by have:=HR.2.1;have:=HL.out;omega);obtain⟨x,hx⟩:=Qx ((s.drop a).take (t-a));rw[hx]at HX HXX;have hxl:x.length<=65536:=(by rw[<-hx];have h1:=HL.out;have h2:=HN.out;simp;omega);have HW:=Qh (z30 x wr (by omega));have HXL:=Qh hxl;clear hx hxl;go_wp2_with fail;rw[HXX.out];refine HW.mono ?_;rintro e w2 ⟨(⟨ho,v,rfl,hrow⟩|⟨ho,rfl⟩),k2⟩
      ·obtain⟨o,cap,rfl,-,hcp,hws⟩:=qh.of_row hrow
       generalize hwd:zu (yn x)=L at*
       cases L with
       |nil=>
        (have HP:=Qh (show RI w w2 q s (pre++[x]) (t+1) own m from{read:=by rw[z2H HR.2.2.read,z4A ho hwd],lines:=by rw[HR.2.2.lines,HX.out];simp,le:=by have:=HN.out;omega,pat:=HR.2.2.pat.kept k2,no:=HR.2.2.no,few:=HR.2.2.few,sti:=HR.2.2.sti,r0:=k2.same HR.2.2.r0 id,k:=HR.2.2.k.trans k2});clear ho hrow hws hcp hwd k2;have hG:=HG.out;have hna:=HR.2.1;have hjt:=HJ.1;go_wp2_with fail;go_roundg(G-1);all_goals first|omega|skip);exact⟨n+1,t+1,by omega,by simp,by simp,pre++[x],own,m,by simp[HR.1],by omega,HP.out⟩
       |cons y ws=>
        obtain⟨g,f,rfl,-,-⟩:=hws 0 (by simp);have hfree:own g=none:=by
         by_cases h:own g=none
         ·exact h
         ·have h1:=HR.2.2.pat.low g h;have h2:=xL hrow (g:=g) rfl;omega
        have hlw:(yn x).length<=x.length:=xB 35 x;have hsz:∀i,((y::ws).getD i []).length<=1073741824:=fun i=>(by have h1:=z2M (yn x) i;rw[hwd]at h1;have h2:=HXL.out;omega);have hnw:ws.length<=1048576:=(by have h1:=z0K (yn x) [];rw[show wsp [] (yn x)=zu (yn x)from rfl,hwd]at h1;have h2:=HXL.out;simp at h1;omega);have hRk:RkAt w2 own (q+1) m g f y ws:={at_:=HR.2.2.pat.kept k2,wa:=hws,sz:=hsz,n:=hnw,free:=hfree,few:=HR.2.2.few,s5:=(z4x HR.2.2.sti).1,s3:=(z4x HR.2.2.sti).2.1,st:=(z4x HR.2.2.sti).2.2};have hEv:Ev q w2:=(by rw[<-hq];exact HE.on ((HR.2.2.k.trans k2).none));have hlow:∀g',own g'≠none->q+1<=g':=fun g' h=>by
         rcases Nat.lt_or_ge g' (q+1)with h1|h1
         ·exact absurd (HR.2.2.no g' (by omega)) h
         ·exact h1
        have HLN:=Qh (z4l cap q hRk hcp hEv fun g' h=>Nat.le_of_succ_le (hlow g' h));have HLF:=Qh (z3i (σ:=⟨m.play,m.st⟩) ho hwd);have HLO:=Qh (Qa hlow k2);obtain⟨n2,hn2⟩:=Qx ws.length;have hw0:((n2:Int)+1==0)=false:=Qb (by omega);have hlc:(y::ws).length=n2+1:=(by rw[<-hn2];rfl);rw[hlc];rw[hn2]at HLN;have hG:=HG.out;have hna:=HR.2.1;have hjt:=HJ.1;clear ho hrow hws hcp hwd k2 hfree hlw hsz hnw hRk hEv hlow hn2 hlc;go_wp2_with fail;refine HLN.mono ?_;rintro e w3 (⟨⟨p,st⟩,own',m',hr,rfl,hp,hmp,hms,hto⟩|⟨c,hr,hc0,rfl,k3⟩)
        ·have hl:yd ⟨m.play,m.st⟩ x=.ok ⟨m'.play,m'.st⟩:=by rw[HLF.out,hr,hmp,hms]
         (have hr2:=HLO.2.same HR.2.2.r0 id;have HP:=Qh (show RI w w3 q s (pre++[x]) (t+1) own' m' from{read:=by rw[z2H HR.2.2.read,hl],lines:=by rw[HR.2.2.lines,HX.out];simp,le:=by have:=HN.out;omega,pat:=hp,no:=fun g' hg=>hto.old g' (by have:=lt_of_block hr2;omega) (HR.2.2.no g' hg),few:=(z3t (σ:=⟨m.play,m.st⟩) HR.2.2.few HR.2.2.sti.2.2 hl).1,sti:=z5Q HR.2.2.sti hl,r0:=hto.keep.same hr2 (fun h=>h (HR.2.2.no q (Nat.le_refl _))),k:=(HR.2.2.k.trans HLO.2).own hto.keep fun i hi=>Or.inr (by have:=HLO.1 i hi;omega)});clear hr hp hmp hms hto hl hr2;go_wp2_with fail;go_roundg(G-1);all_goals first|omega|skip);exact⟨n+1,t+1,by omega,by simp,by simp,pre++[x],own',m',by simp[HR.1],by omega,HP.out⟩
        ·have hcb:(c != 0)=true:=by rw[bne_iff_ne];exact hc0
         have r3:=k3.same (HLO.2.same HR.2.2.r0 id) (fun h=>h (HR.2.2.no q (Nat.le_refl _)));have c0:=za r3;have f0:=zd r3;simp only[m0,M.val]at c0;have c00:=c0 0;have c01:=c0 1;have c02:=c0 2;have c03:=c0 3;have c04:=c0 4;have c05:=c0 5;have c06:=c0 6;have c07:=c0 7;have c08:=c0 8;have c09:=c0 9;have c010:=c0 10;have c011:=c0 11;have c012:=c0 12;have c013:=c0 13;simp at c00 c01 c02 c03 c04 c05 c06 c07 c08 c09 c010 c011 c012 c013;clear c0;have HP:=Qh (z1E (by rw[HN.out];exact HL.out) (HR.2.2.lines.trans (congrArg (pre++·) HX.out)) HR.2.2.read (HLF.trans hr))
         have K3:=Qh (Qa r3 k3);clear r3 k3 hr hc0;go_wp2_with fail;obtain⟨V,hV,b,k⟩:=z9q w3 q (.int .i64 0) (.int .i64 0) (.int .i64 0) (.int .i64 0) (.int .i64 0) (.int .i64 0) (.int .i64 0) (.float .f64 0) (.float .f64 0) (.slice none 0 0) (.slice none 0 0) (.slice none 0 0) (.int .i64 0) (.slice none 0 0) K3.out.1;rw[hV];refine bodyPost_ret (yx _ _ q m0.val ((n:Int)+1) c rfl rfl rfl b rfl) rfl ?_;exact⟨m0,fun _=>none,(n:Int)+1,c,rfl,by rw[HP.out,HR.1];simp[m0,M.play,zX],LAt.zero _,fun g' h=>absurd rfl h,((HR.2.2.k.trans HLO.2).own K3.out.2 fun i hi=>Or.inr (by have:=HLO.1 i hi;omega)).own k fun i hi=>Or.inr (by omega)⟩
      ·skip
       have r2:=k2.same HR.2.2.r0 id;have c0:=za r2;have f0:=zd r2;simp only[m0,M.val]at c0;have c00:=c0 0;have c01:=c0 1;have c02:=c0 2;have c03:=c0 3;have c04:=c0 4;have c05:=c0 5;have c06:=c0 6;have c07:=c0 7;have c08:=c0 8;have c09:=c0 9;have c010:=c0 10;have c011:=c0 11;have c012:=c0 12;have c013:=c0 13;simp at c00 c01 c02 c03 c04 c05 c06 c07 c08 c09 c010 c011 c012 c013;clear c0;have HP:=Qh (z1E (by rw[HN.out];exact HL.out) (HR.2.2.lines.trans (congrArg (pre++·) HX.out)) HR.2.2.read (z6n ho))
       have K2:=Qh (Qa r2 k2);clear r2 k2 ho;go_wp2_with fail;obtain⟨V,hV,b,k⟩:=z9q w2 q (.int .i64 0) (.int .i64 0) (.int .i64 0) (.int .i64 0) (.int .i64 0) (.int .i64 0) (.int .i64 0) (.float .f64 0) (.float .f64 0) (.slice none 0 0) (.slice none 0 0) (.slice none 0 0) (.int .i64 0) (.slice none 0 0) K2.out.1;rw[hV];refine bodyPost_ret (yx _ _ q m0.val ((n:Int)+1) 64 rfl rfl rfl b rfl) rfl ?_;exact⟨m0,fun _=>none,(n:Int)+1,64,rfl,by rw[HP.out,HR.1];simp[m0,M.play,zX],LAt.zero _,fun g h=>absurd rfl h,(HR.2.2.k.trans K2.out.2).own k fun i hi=>Or.inr (by omega)⟩
   ·have haI:¬(a:Int)<(N:Int):=by omega
    have HP:=Qh (show yl s=if m.st<=1 then(zX,0,63)else(m.play,0,0)from by
     have h1:=HR.2.2.lines;have h2:=HR.2.2.read;rw[List.drop_eq_nil_of_le (by rw[HN.out];omega),show zA []=[]from rfl,List.append_nil]at h1;rw[<-h1]at h2;exact zbb (by rw[HN.out];exact HL.out) h2)
    have c14:=za HR.2.2.pat.blk 14;unfold M.rcells at c14;simp at c14;by_cases h1:m.st<=1
    ·have i1:(m.st:Int)<2:=(by omega);have c0:=za HR.2.2.r0;have f0:=zd HR.2.2.r0;simp only[m0,M.val]at c0;have c00:=c0 0;have c01:=c0 1;have c02:=c0 2;have c03:=c0 3;have c04:=c0 4;have c05:=c0 5;have c06:=c0 6;have c07:=c0 7;have c08:=c0 8;have c09:=c0 9;have c010:=c0 10;have c011:=c0 11;have c012:=c0 12;have c013:=c0 13;simp at c00 c01 c02 c03 c04 c05 c06 c07 c08 c09 c010 c011 c012 c013;clear c0;clear HI0;go_wp2_with fail;obtain⟨V,hV,b,k⟩:=z9q wr q (.int .i64 0) (.int .i64 0) (.int .i64 0) (.int .i64 0) (.int .i64 0) (.int .i64 0) (.int .i64 0) (.float .f64 0) (.float .f64 0) (.slice none 0 0) (.slice none 0 0) (.slice none 0 0) (.int .i64 0) (.slice none 0 0) HR.2.2.r0;rw[hV];refine bodyPost_ret (yx _ _ q m0.val 0 63 rfl rfl rfl b rfl) rfl ?_;exact⟨m0,fun _=>none,0,63,rfl,by rw[HP.out,if_pos h1];rfl,LAt.zero _,fun g h=>absurd rfl h,HR.2.2.k.own k fun i hi=>Or.inr (by omega)⟩
    ·have i1:¬(m.st:Int)<2:=by omega
     have c0:=za HR.2.2.r0;have f0:=zd HR.2.2.r0;have d0:=za HR.2.2.pat.blk;simp only[m0,M.val]at c0;simp only[M.rcells]at d0;have c00:=c0 0;have d00:=d0 0;have c01:=c0 1;have d01:=d0 1;have c02:=c0 2;have d02:=d0 2;have c03:=c0 3;have d03:=d0 3;have c04:=c0 4;have d04:=d0 4;have c05:=c0 5;have d05:=d0 5;have c06:=c0 6;have d06:=d0 6;have c07:=c0 7;have d07:=d0 7;have c08:=c0 8;have d08:=d0 8;have c09:=c0 9;have d09:=d0 9;have c010:=c0 10;have d010:=d0 10;have c011:=c0 11;have d011:=d0 11;have c012:=c0 12;have d012:=d0 12;have c013:=c0 13;have d013:=d0 13;simp at c00 d00 c01 d01 c02 d02 c03 d03 c04 d04 c05 d05 c06 d06 c07 d07 c08 d08 c09 d09 c010 d010 c011 d011 c012 d012 c013 d013;clear c0 d0;obtain⟨oF,cF,hF⟩:=HR.2.2.pat.fs.len;obtain⟨oT,cT,hT⟩:=HR.2.2.pat.ts.len;obtain⟨oP,cP,hP⟩:=HR.2.2.pat.ps.len;obtain⟨oE,cE,hE⟩:=HR.2.2.pat.es.len;rw[hF]at d09;rw[hT]at d010;rw[hP]at d011;rw[hE]at d013;have HV:=Qh (Qa hF (Qa hT (Qa hP hE)));clear HI0 hF hT hP hE;go_wp2_with fail;obtain⟨V,hV,b,k⟩:=z9q wr q (.int .i64 m.disk) (.int .i64 m.segMax) (.int .i64 m.base) (.int .i64 m.qcap) (.int .i64 m.qbytes) (.int .i64 m.pmost) (.int .i64 m.pbytes) (.float .f64 m.linger) (.float .f64 m.alpha) (.slice oF m.fs.length cF) (.slice oT m.ts.length cT) (.slice oP m.ps.length cP) (.int .i64 m.most) (.slice oE m.es.length cE) HR.2.2.r0;rw[hV];have b':V.heap[q]?=some (.cells m.val 40 (0,0)):=(by unfold M.val;rw[HV.1,HV.2.1,HV.2.2.1,HV.2.2.2];exact b);refine bodyPost_ret (yx _ _ q m.val 0 0 rfl rfl rfl b' rfl) rfl ?_;exact⟨m,own,0,0,rfl,by rw[HP.out,if_neg h1];rfl,HR.2.2.pat.rows.keep k fun g hg e=>hg (HR.2.2.no g (by omega)),fun g hg=>by
      rcases Nat.lt_or_ge g (q+1)with h|h
      ·exact absurd (HR.2.2.no g (by omega)) hg
      ·omega,HR.2.2.k.own k fun i hi=>Or.inr (by omega)⟩
end Sc
end Go.Proofs.YtkkecpamnnojoaaGreatDoor
namespace Go.Proofs.YtkkecpamnnojoaaGreatDoor
open Go.ChangeShapes Go.WideShapes Go.ChangeAt Go.RowKit Go.Shelf
open Bt Dc By
namespace Sc
theorem z8L(v1 v2:Value)(s:Str)(w:World)(h1:qp w v1 s.length (u8v s))(h2:qp w v2 s.length (u8v s))(hn:s.length<=1099511627776):
  Calls Tryz.prog 25 #[v1,v2] w fun e w'=>e=.returned (.bool true)/\w'=w.drewN s.length:=by
 obtain⟨o1,c1,rfl,-,h1,-⟩:=h1;obtain⟨o2,c2,rfl,-,h2,-⟩:=h2;obtain⟨n,hL⟩:=Qx s.length;have HH:=Qh (Qa h1 (Qa h2 hL));rw[hL]at hn⊢
 clear h1 h2 hL;go_in;go_wp2_with fail;go_loopg[5] n (fun g i wr=>∃k:Nat,g+k=n/\i=.int .i64 (k:Int)/\Hid (wr=w.drewN k))
 case atStart=>exact⟨0,by omega,rfl,rfl⟩
 case round=>
  obtain⟨k,hgk,rfl,hw⟩:=hrel;have hkp:Keep (fun _=>False) w wr:=(by rw[show wr=w.drewN k from hw];exact(Keep.refl _ w).drewN k);have HK:=Qh hw;clear hw;by_cases hk:k<n
  ·have hkI:(k:Int)<(n:Int):=by omega
   have hk0:(0:Int)<=(k:Int):=(by omega);have hks:k<s.length:=(by rw[HH.2.2];exact hk);obtain⟨g1,f1,rfl,hc1,-⟩:=(HH.1.kept hkp) k (by rw[z0e];exact hks);obtain⟨g2,f2,rfl,hc2,-⟩:=(HH.2.1.kept hkp) k (by rw[z0e];exact hks);have hu:(u8v s)[k]?=some (.int .u8 ((s[k]).toNat:Int)):=(by unfold u8v;rw[List.getElem?_map,List.getElem?_eq_getElem hks];rfl);rw[hu]at hc1 hc2;generalize(s[k]).toNat=x at*
   have e1:((x:Int) != (x:Int))=false:=(by simp);clear hkp hks hu;go_wp2_with fail;go_region;go_wp2_with fail;go_roundg(gk-1);all_goals first|omega|skip
   case rel=>exact⟨k+1,by omega,by simp,by rw[show wr=w.drewN k from HK.out];rfl⟩
  ·obtain rfl:k=n:=(by omega);have hkI:¬(k:Int)<(k:Int):=(by omega);clear hkp;go_wp2_with fail;go_ret;exact⟨rfl,HK.out⟩
theorem za3(a b c:Int)(w:World):(binOp BinOp.neq 114 (.agg #[.int .i64 a,.int .i64 b,.int .i64 c]) (.agg #[.int .i64 a,.int .i64 b,.int .i64 c])).run Tryz.prog w=.ok (.bool false) w:=by simp[go_sem]
theorem z8M(v1 v2:Value)(s:List Fault)(w:World)(h1:qp w v1 s.length (fsv s))(h2:qp w v2 s.length (fsv s))(hn:s.length<=1099511627776):
  Calls Tryz.prog 24 #[v1,v2] w fun e w'=>e=.returned (.bool true)/\w'=w.drewN s.length:=by
 obtain⟨o1,c1,rfl,-,h1,-⟩:=h1;obtain⟨o2,c2,rfl,-,h2,-⟩:=h2;obtain⟨n,hL⟩:=Qx s.length;have HH:=Qh (Qa h1 (Qa h2 hL));rw[hL]at hn⊢
 clear h1 h2 hL;go_in;go_wp2_with fail;go_loopg[5] n (fun g i wr=>∃k:Nat,g+k=n/\i=.int .i64 (k:Int)/\Hid (wr=w.drewN k))
 case atStart=>exact⟨0,by omega,rfl,rfl⟩
 case round=>
  obtain⟨k,hgk,rfl,hw⟩:=hrel;have hkp:Keep (fun _=>False) w wr:=(by rw[show wr=w.drewN k from hw];exact(Keep.refl _ w).drewN k);have HK:=Qh hw;clear hw;by_cases hk:k<n
  ·have hkI:(k:Int)<(n:Int):=by omega
   have hk0:(0:Int)<=(k:Int):=(by omega);have hks:k<s.length:=(by rw[HH.2.2];exact hk);obtain⟨g1,f1,rfl,-⟩:=HH.1.some (by unfold fsv;rw[zB _ 3 (fun _=>rfl)];omega);obtain⟨g2,f2,rfl,-⟩:=HH.2.1.some (by unfold fsv;rw[zB _ 3 (fun _=>rfl)];omega);have hcs1:=HH.1.kept hkp;have hcs2:=HH.2.1.kept hkp;unfold fsv at hcs1 hcs2;have d0:=hcs1.get 3 (fun _=>rfl) (List.getElem?_eq_getElem hks) 0 (by omega);have d1:=hcs1.get 3 (fun _=>rfl) (List.getElem?_eq_getElem hks) 1 (by omega);have d2:=hcs1.get 3 (fun _=>rfl) (List.getElem?_eq_getElem hks) 2 (by omega);have e0:=hcs2.get 3 (fun _=>rfl) (List.getElem?_eq_getElem hks) 0 (by omega);have e1:=hcs2.get 3 (fun _=>rfl) (List.getElem?_eq_getElem hks) 1 (by omega);have e2:=hcs2.get 3 (fun _=>rfl) (List.getElem?_eq_getElem hks) 2 (by omega);unfold qH at d0 d1 d2 e0 e1 e2;simp at d0 d1 d2 e0 e1 e2;generalize(s[k]).at_=x0 at*
   generalize(s[k]).kind=x1 at*
   generalize(s[k]).part=x2 at*
   have hq:=za3 x0 x1 x2;clear hkp hks hcs1 hcs2;go_wp2_with fail;go_region;go_wp2_with fail;go_roundg(gk-1);all_goals first|omega|skip
   case rel=>exact⟨k+1,by omega,by simp,by rw[show wr=w.drewN k from HK.out];rfl⟩
  ·obtain rfl:k=n:=(by omega);have hkI:¬(k:Int)<(k:Int):=(by omega);clear hkp;go_wp2_with fail;go_ret;exact⟨rfl,HK.out⟩
theorem z88(a:Nat)(w:World):Calls Tryz.prog 23 #[.float .f64 a] w fun e w'=>e=.returned (.float .f64 (qc a))/\w=w':=by
 have HN:=Qh (z6h a);have f1:∀w:World,(callFunc 58 #[.int .u64 9221120237041090561]).run Tryz.prog w=.ok (.value (.float .f64 9221120237041090561)) w:=fun w=>z1V 9221120237041090561 w;unfold qc;cases hn:Flt.nan a
 ·rw[hn]at HN;go_in;go_wp2_with fail;refine(HN.out _).mono ?_;rintro e w1 ⟨rfl,rfl⟩;go_wp2_with fail;go_ret;exact⟨rfl,rfl⟩
 ·rw[hn]at HN;go_in;go_wp2_with fail;refine(HN.out _).mono ?_;rintro e w1 ⟨rfl,rfl⟩;go_wp2_with fail;go_ret;exact⟨rfl,rfl⟩
end Sc
end Go.Proofs.YtkkecpamnnojoaaGreatDoor
