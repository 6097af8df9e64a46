/- A part of the proof of ScriptParses: nothing is assumed. By an AI agent. -/
import Derived.Test.YtkkecpamnnojoaaGreatDoorBz14
set_option linter.unusedVariables false
set_option linter.unusedSimpArgs false
set_option maxRecDepth 100000
set_option maxHeartbeats 32000000
namespace Go.Proofs.YtkkecpamnnojoaaGreatDoor
open Go.ChangeShapes Go.WideShapes Go.ChangeAt Go.RowKit
open Bt Dc By
namespace Sc
theorem z1j:∀(l1 l2:List Str),zO (l1++l2)=match zO l1 with
  | .error e=>.error e
  | .ok a=>match zO l2 with
   | .error e=>.error e
   | .ok b=>.ok (a++b)
 |[],l2=>by rw[List.nil_append,zO];cases zO l2<;>rfl
 |s::l1,l2=>by
  rw[List.cons_append,zO,z1j l1 l2,zO];cases yS s with
  |error e=>rfl
  |ok k=>
   cases zO l1 with
   |error e=>rfl
   |ok a=>cases zO l2<;>rfl
theorem z1i:∀{l:List Str} {ks:List Kp},zO l=.ok ks->ks.length=l.length
 |[],ks,h=>by simp[zO]at h;subst h;rfl
 |s::l,ks,h=>by
  rw[zO]at h;cases hk:yS s with
  |error e=>rw[hk]at h;cases h
  |ok k=>
   rw[hk]at h;cases hl:zO l with
   |error e=>rw[hl]at h;cases h
   |ok r=>
    rw[hl]at h;simp at h;subst h;simp[z1i hl]
theorem z3o{l:List Str}{k:Nat}{ks:List Kp}{c:Int}(hk:k<l.length)(h1:zO (l.take k)=.ok ks)(h2:yS l[k]=.error c):zO l=.error c:=by rw[<-List.take_append_drop k l,z1j,h1,List.drop_eq_getElem_cons hk];simp only[zO,h2]
theorem z2y{l:List Str}{k:Nat}{ks:List Kp}{kp:Kp}(hk:k<l.length)(h1:zO (l.take k)=.ok ks)(h2:yS l[k]=.ok kp):zO (l.take (k+1))=.ok (ks++[kp]):=by rw[qJ hk,z1j,h1];simp only[zO,h2]
theorem zei:∃i,Tryz.prog.info? 84=some i/\i.zero=some (.agg #[.int .i64 0,.slice none 0 0])/\i.size=2/\i.bytes=32:=by have h:(Tryz.prog.info? 84).map (fun i=>(i.zero,i.size,i.bytes))=some (some (.agg #[.int .i64 0,.slice none 0 0]),2,32):=(by kernel_rfl);exact info_parts h
theorem zbV:∃i,Tryz.prog.info? 82=some i/\i.zero=some (.agg #[.int .i64 0,.slice none 0 0,.slice none 0 0])/\i.size=3/\i.bytes=56:=by have h:(Tryz.prog.info? 82).map (fun i=>(i.zero,i.size,i.bytes))=some (some (.agg #[.int .i64 0,.slice none 0 0,.slice none 0 0]),3,56):=(by kernel_rfl);exact info_parts h
theorem zdP{w:World}{own:Nat->Option T}{pb:Nat}{m:M}(B:Nat)(x:Str)(ws:List Str)(g f cl:Nat)(h:PAt w own pb m)(hE:Ev B w)(hw:qh w (some ⟨g,f,none⟩) (x::ws))(hx:∀i,((x::ws).getD i []).length<=1073741824)
    (hcl:ws.length+1<=cl)(hes:m.es.length<=1048576)(hlw:ws.length<=1048576)(hg:own g=none)(hB:∀q,own q≠none->B<=q):
    Calls Tryz.prog 85 #[.pointer (some ⟨pb,0,none⟩),.slice (some ⟨g,f,none⟩) (ws.length+1) cl] w (Res own pb m.st (z0o m.play (x::ws)) w):=by
  obtain⟨cx,hgl⟩:=hw.at_ (i:=0) (by simp);simp at cx;have HH:=Qh (Qa h (Qa hE (Qa hw (Qa hg hB))));have HX:=Qh hx;have HF:=Qh hes;obtain⟨n,hn⟩:=Qx ws.length;have HN:=Qh hn;rw[hn]at hcl hlw⊢
  have HR:=Qh (show z0o m.play (x::ws)=(match zh x with
    |none=>.error 66
    |some d=>match zO ws with
      | .error e=>.error e
      | .ok ks=>.ok {m.play with ends:=m.play.ends++[⟨d,ks,[]⟩]})from rfl)
  clear h hE hw hg hB hx hes hn;go_in;go_wp2_with fail;obtain⟨W,hW,b0,b1,kW⟩:=two w (.cells #[.int .i64 0,.slice none 0 0,.slice none 0 0] 82) (.cells #[.pointer (some ⟨w.heap.size,0,none⟩)] 108);rw[hW];clear hW;obtain⟨r,hr⟩:=Qx w.heap.size;rw[hr]at b0 b1⊢
  have HW:=Qh (Qa kW (Qa hr b0));have HI:=Qh (z0E (x::ws) (some ⟨g,f,none⟩) cl 1 (r+1) r [0] #[.int .i64 0,.slice none 0 0,.slice none 0 0] 82 B W (HH.2.1.kept kW.none) (HH.2.2.1.kept kW) (by simp) (by simp;have:=HN.out;omega) HX.out b1 b0 (fun i hi=>by
      obtain rfl:i=0:=(by simpa using hi);exact(show 0<3 by decide)) (by omega) (fun g' f' h=>by cases h;omega) (by have:=HH.2.1.le;omega))
  rw[List.length_cons,HN.out]at HI;clear b0 b1 kW;go_wp2_with fail;refine HI.mono ?_;clear HI;rintro e w2 ⟨(⟨ns,hn,rfl,hb⟩|⟨hn,rfl⟩),k2⟩
  · have h1:zh x=some (ns.getD 0 0):=by
      simp only[List.length_singleton,List.take_succ_cons,List.take_zero,zI]at hn;cases hq:zh x with
      |none=>rw[hq]at hn;cases hn
      |some n=>rw[hq]at hn;simp at hn;subst hn;rfl
    have h2:qN #[.int .i64 0,.slice none 0 0,.slice none 0 0] [0] ns=#[.int .i64 (ns.getD 0 0),.slice none 0 0,.slice none 0 0]:=by
      have:=qP hn;cases ns with
      |nil=>simp at this
      |cons n r=>rfl
    rw[h2]at hb;generalize ns.getD 0 0=d at*
    have kk2:Keep (fun _=>False) w w2:=HW.1.own k2 fun i hi=>Or.inr (by omega);have HR2:=Qh (show z0o m.play (x::ws)=(match zO ws with
      | .error e=>.error e
      | .ok ks=>.ok {m.play with ends:=m.play.ends++[⟨d,ks,[]⟩]})from by rw[HR.out,h1])
    have hlt2:=lt_of_block hb;obtain⟨own0,ho⟩:∃own0:Nat->Option T,own0=fun q=>if q=r then some (10,0,0)else own q:=⟨_,rfl⟩;have hor:own r=none:=by
      cases hq:own r with
      |none=>rfl
      |some t=>have:=HH.1.low r (by rw[hq];simp);omega
    have G0:Grown (fun _=>False) w w2 own own0:=⟨kk2.mono fun _ _ h=>h.elim,fun q t hq=>by
        rw[ho];show(if q=r then some (10,0,0)else own q)=some t;rw[if_neg (fun e=>by rw[e,hor]at hq;cases hq)];exact hq,fun q hq=>by
        rw[ho]at hq;by_cases e:q=r
        · rw[e];exact hlt2
        · have hq2:(if q=r then some (10,0,0)else own q)≠none:=hq
          rw[if_neg e]at hq2;exact Nat.lt_of_lt_of_le (HH.1.low q hq2) kk2.size,fun q hq1 hq=>by
        rw[ho]at hq;by_cases e:q=r
        · omega
        · have hq2:(if q=r then some (10,0,0)else own q)≠none:=hq
          rw[if_neg e]at hq2;exact absurd hq1 hq2⟩
    have h0r:own0 r=some (10,0,0):=(by rw[ho];exact if_pos rfl);have HS:=Qh (Qa (HH.1.far G0 fun _ h=>h.elim) (Qa h0r (Qa hb G0.to)));clear hn h1 h2 hb k2 kk2 ho hor G0 h0r HR;have hcase:(cl=1/\n=0)\/1<cl:=(by omega);rcases hcase with⟨rfl,rfl⟩|hc1
    · go_wp2_with fail
      refine wp_loop_rounds 1 ?_;rw[rounds_succ];obtain rfl:ws=[]:=List.length_eq_zero_iff.1 HN.out;obtain⟨wr,hwr⟩:∃wr,wr=w2:=⟨_,rfl⟩;obtain⟨kv,hkv0⟩:∃kv:Value,kv=.slice none 0 0:=⟨_,rfl⟩;obtain⟨ks,hks0⟩:∃ks:List MK,ks=[]:=⟨_,rfl⟩;have HRX:=Qh (show z0o m.play (x::[])=.ok {m.play with ends:=m.play.ends++[⟨d,ks.map (·.k),[]⟩]}from by rw[HR2.out,hks0];rfl)
      have HB:=Qh (show PAt wr own0 pb m/\KsAt wr own0 m.es.length kv ks/\own0 r=some (10,0,0)/\wr.heap[r]?=some (.cells #[.int .i64 d,kv,.slice none 0 0] 82 (0,0))/\To own own0 w wr from by
        subst hwr hkv0 hks0;exact⟨HS.1,⟨RowT.nil _ _ _ _ _,fun j k hk=>by simp at hk⟩,HS.2.1,HS.2.2.1,HS.2.2.2⟩)
      rw[<-hwr];clear hwr hks0 hkv0;have c0:=za HB.2.2.2.1 0;have c1:=za HB.2.2.2.1 1;have c2:=za HB.2.2.2.1 2;simp at c0 c1 c2;have cE:=za HB.1.blk 13;have fE:=zd HB.1.blk 13;simp[M.cells]at cE;obtain⟨oa,pa,hev⟩:=HB.1.es.len;rw[hev]at cE;have HEV:=Qh hev;clear hev;have hpl:pb<wr.heap.size:=lt_of_block HB.1.blk;obtain⟨i0,hi,hz0,hz1,hz2⟩:=zbV;obtain⟨ok2,ck2,hkv⟩:=HB.2.1.keeps.len;have hrow:((wr.drew).alloc (.cells #[.int .i64 d,kv,.slice none 0 0] 82)).ownsRow 0 82 3 (.slice oa m.es.length pa) m.es.length (m.es.flatMap ME.cells):=(by have h:=HB.1.es.row;rw[HEV.out]at h;exact zf h ((Keep.refl (fun _=>False) wr).drew.alloc _) fun _ _=>id);have HROW:=Qh hrow;have hlen:=HF.out;have HGN:=Qh (show ∀q,m.ev.ownBlock=some q->q≠pb from fun q hq e=>by
        have h4:=HB.1.es.tag q hq;rw[e,HB.1.tag]at h4;cases h4)
      have HKV:=Qh hkv;rw[hkv]at c1 HROW;clear hrow hkv;go_wp2_with fail;go_region_law(first
        |(refine zy rfl (.tmp 48) (.tmp 50) 38 rfl 0 82 i0 _ 3 56 Tryz.underlying38 hi hz0 hz1 hz2 rfl (by decide) (.slice oa m.es.length pa) m.es.length (m.es.flatMap ME.cells) rfl HROW.out ⟨wr.heap.size,0,none⟩ 1 1 [.int .i64 d,.slice ok2 ks.length ck2,.slice none 0 0] rfl rfl (zD _ _ _) (by intro u hu;simp at hu;rcases hu with rfl|rfl|rfl<;>rfl) (by unfold maxLen;omega) (by omega) (Nat.zero_le _) ?_;intro v4 w4 hown hgr hblk;obtain⟨g4,c4,rfl⟩:=ownsRow_succ hown;rw[<-HEV.out]at hgr hblk;have k4:Keep (fun q=>m.ev.ownBlock=some q) wr w4:=((Keep.refl (fun q=>m.ev.ownBlock=some q) wr).drew.alloc _).trans (zp hgr);have cE4:=(k4.cell (p:=⟨pb,13,none⟩) hpl (fun h=>HGN.out _ h rfl)).trans cE;have fE4:=(k4.frozen (p:=⟨pb,13,none⟩) hpl (fun h=>HGN.out _ h rfl)).trans fE;have H4:=Qh (Qa hown (Qa hblk k4));clear hown hgr hblk k4))
      (all_goals go_wp2_with fail);all_goals go_ret
      all_goals
        obtain⟨own',hp1,hp2⟩:=HB.1.end_push d HB.2.1 (by rw[HKV.out];exact H4.1) H4.2.2 (by
          rcases H4.2.1 with h|h
          · exact Or.inl h
          · exact Or.inr ⟨_,h,by simp⟩)
        obtain⟨e1,e2⟩:=M.newEnd_play m d kv ks (.slice (some ⟨g4,0,none⟩) (m.es.length+1) c4);exact Or.inl ⟨_,_,_,HRX.out,rfl,hp1,e1,e2,HB.2.2.2.2.trans hp2⟩
    · go_wp2_with fail
      go_loopg[8,9,10,22] n (fun gq s8 s9 s10 s22 wr=>∃k:Nat,gq+k=n/\s22=.int .i64 (k:Int)/\Hid (∃(ks:List MK) (kv:Value) (ownk:Nat->Option T),zO (ws.take k)=.ok (ks.map (·.k))/\PAt wr ownk pb m/\KsAt wr ownk m.es.length kv ks/\ownk r=some (10,0,0)/\wr.heap[r]?=some (.cells #[.int .i64 d,kv,.slice none 0 0] 82 (0,0))/\To own ownk w wr))
      case atStart=>exact⟨0,by omega,rfl,[],.slice none 0 0,own0,rfl,HS.1,⟨RowT.nil _ _ _ _ _,fun j k hk=>by simp at hk⟩,HS.2.1,HS.2.2.1,HS.2.2.2⟩
      case round=>
        obtain⟨k,hgk,rfl,HK⟩:=hrel;obtain⟨ks,kv,ownk,hks,hpk,hka,hrk,hbk,hto⟩:=HK.out;by_cases hk:k<n
        · have hkw:k<ws.length:=by rw[HN.out];exact hk
          have cw0:=(HH.2.2.1.at_ (i:=k+1) (by simp;exact hkw)).1;have cw:wr.cell? ⟨g,f+1+k,none⟩=some (.string (zc (ws.getD k []))):=(by rw[show f+1+k=f+(k+1) by omega];exact(hto.keep.cell (p:=⟨g,f+(k+1),none⟩) hgl (by rw[HH.2.2.2.1];simp)).trans (by simpa using cw0));have hEk:Ev B wr:=HH.2.1.on (hto.keep.below HH.2.1.le HH.2.2.2.2);have hsz:(ws.getD k []).length<=1073741824:=(by have:=HX.out (k+1);simpa using this);have HKP:=Qh (zbQ (ws.getD k []) B wr hEk hsz);have HLK:=Qh (fun c=>@z3o ws k (ks.map (·.k)) c hkw hks)
          have HLM:=Qh (fun kp=>@z2y ws k (ks.map (·.k)) kp hkw hks)
          have hgd:ws.getD k []=ws[k]:=(by rw[List.getD_eq_getElem?_getD,List.getElem?_eq_getElem hkw];rfl);rw[<-hgd]at HLK HLM;have HKL:=Qh (show ks.length=k from by have:=z1i hks;rw[List.length_map,List.length_take]at this;omega);have HB:=Qh (Qa hpk (Qa hka (Qa hrk (Qa hbk hto))));generalize ws.getD k []=y at*
          have hk1:(k:Int)<(n:Int):=(by omega);have hk0:(0:Int)<=(k:Int):=(by omega);clear HK hks hpk hka hrk hbk hto cw0 hEk hsz hgd hkw;go_wp2_with fail;refine HKP.mono ?_;clear HKP;rintro e w3 ⟨(⟨kp,dv,hx,rfl,hrow⟩|⟨c,hx,hc,rfl⟩),k3⟩
          · obtain⟨oo,cc,hv⟩:∃oo cc,dv=.slice oo kp.junk.length cc:=by
              rcases hrow.2 with⟨h1,h2⟩|⟨g,cap,cur,h1, -⟩
              · exact⟨none,0,by rw[h1,h2]⟩
              · exact⟨_,cap,h1⟩
            have hdb:∀q,dv.ownBlock=some q->wr.heap.size<=q/\q<w3.heap.size:=fun q hq=>by
              refine⟨?_,xE hrow hq⟩;rcases hrow.2 with⟨h1,h2⟩|⟨g,cap,cur,h1,h3, -⟩
              · rw[h1]at hq;cases hq
              · rw[h1]at hq;cases hq;exact h3
            obtain⟨ok2,ck2,hkv⟩:=HB.2.1.keeps.len;have b3:=k3.same HB.2.2.2.1 id;have c1:=za b3 1;have f1:=zd b3 1;simp at c1;have hrl:r<w3.heap.size:=lt_of_block b3;have hown3:((w3.alloc (.cells #[.int .i64 kp.n,dv] 84)).alloc (.cells #[.int .i64 kp.n,dv] 84)).ownsRow 0 84 2 kv ks.length (ks.flatMap MK.cells):=zf HB.2.1.keeps.row ((k3.alloc _).alloc _) fun _ _=>id;have H3:=Qh (Qa hx (Qa hrow (Qa k3 (Qa hdb hown3))));have HKV:=Qh hkv;obtain⟨i0,hi,hz0,hz1,hz2⟩:=zei;have hkl:ks.length<=1048576:=(by have:=HKL.out;omega);have hKne:∀q,kv.ownBlock=some q->q≠r:=fun q hq e=>(by have h4:=HB.2.1.keeps.tag q hq;rw[e,HB.2.2.1]at h4;cases h4);have HKN:=Qh hKne;rw[hkv]at c1;subst hv;clear hx hrow k3 hdb b3 hown3 hKne hkv;go_wp2_with(at_builtin;refine wpList_append_own_at _ rfl (.tmp 36) (.tmp 38) 78 rfl 0 84 i0 _ 2 32 Tryz.underlying78 hi hz0 hz1 hz2 rfl (by decide) kv ks.length (ks.flatMap MK.cells) (by rw[HKV.out];rfl) H3.2.2.2.2 ⟨w3.heap.size+1,0,none⟩ 1 1 [.int .i64 kp.n,.slice oo kp.junk.length cc] rfl rfl ?a1 (by intro u hu;simp at hu;rcases hu with rfl|rfl<;>rfl) (by unfold maxLen;omega) (by omega) (Nat.zero_le _) ?a2)
            case a1=>
              have h:=zD (w3.alloc (.cells #[.int .i64 kp.n,.slice oo kp.junk.length cc] 84)) [.int .i64 kp.n,.slice oo kp.junk.length cc] 84;rw[World.size_alloc]at h;exact h
            case a2=>
              intro v4 w4 hown hgr _ hblk;obtain⟨g4,c4,rfl⟩:=ownsRow_succ hown;have k4:Keep (fun q=>kv.ownBlock=some q) w3 w4:=(((Keep.refl (fun q=>kv.ownBlock=some q) w3).alloc _).alloc _).trans (zp hgr);have ca4:=(k4.cell (p:=⟨r,1,none⟩) hrl (fun h=>HKN.out _ h rfl)).trans c1;have fa4:=(k4.frozen (p:=⟨r,1,none⟩) hrl (fun h=>HKN.out _ h rfl)).trans f1;have H4:=Qh (Qa hown (Qa hblk k4));clear hown hgr hblk k4 c1 f1;go_wp2_with fail;go_roundg(gk-1);all_goals first|omega|skip
              case rel=>
                have hsz3:=H3.2.2.1.size;obtain⟨own',hp1,hp2,hp3,hp4⟩:=KsAt.push (i:=0) (o:=1) HB.1 HB.2.1 HB.2.2.1 rfl kp (d:=.slice oo kp.junk.length cc) H4.1 (zf H3.2.1 H4.2.2 fun q hq e=>by
                    have h1:=HB.1.low q (by have h2:=HB.2.1.keeps.tag q e;rw[h2];simp);have:=(H3.2.2.2.1 q hq).1;omega) (fun q hq e=>by
                    have h3:=H3.2.2.2.1 q e;rcases H4.2.1 with h|h
                    · rw[hq]at h
                      have h1:=HB.1.low q (by have h2:=HB.2.1.keeps.tag q h.symm;rw[h2];simp);omega
                    · rw[hq]at h
                      simp at h;omega) ((H3.2.2.1.mono fun _ _ h=>h.elim).trans H4.2.2) (by
                  rcases H4.2.1 with h|h
                  · exact Or.inl h
                  · refine Or.inr ⟨_,h,?_⟩
                    first|(simp;omega)|omega)
                refine⟨k+1,by omega,rfl,ks++[⟨kp,.slice oo kp.junk.length cc⟩],_,own',?_,hp1,hp2,hp3,?_,HB.2.2.2.2.trans hp4⟩
                · rw[HLM.out kp H3.1]
                  simp
                · have hb4:=H4.2.2.same (H3.2.2.1.same HB.2.2.2.1 id) (fun h=>HKN.out _ h rfl)
                  exact zg hb4 1 _
          · have H3:=Qh (Qa hx (Qa hc k3))
            have HRX:=Qh (show z0o m.play (x::ws)=.error c from by rw[HR2.out,HLK.out c hx]);have hcb:(c != 0)=true:=(by rw[bne_iff_ne];exact hc);clear hx hc k3;go_wp2_with fail;go_ret;refine Or.inr ⟨c,HRX.out,H3.2.1,rfl,?_⟩;exact HB.2.2.2.2.keep.own ((H3.2.2.mono fun _ _ h=>h.elim).trans ((Keep.refl (fun q=>q=w3.heap.size) w3).alloc _)) fun i hi=>Or.inr (by
              have:=HB.2.2.2.2.keep.size;have:=H3.2.2.size;omega)
        · obtain rfl:k=n:=by omega
          have hks2:=hks;rw[List.take_of_length_le (by rw[HN.out];exact Nat.le_refl _)]at hks2;have HRX:=Qh (show z0o m.play (x::ws)=.ok {m.play with ends:=m.play.ends++[⟨d,ks.map (·.k),[]⟩]}from by rw[HR2.out,hks2])
          have HB:=Qh (Qa hpk (Qa hka (Qa hrk (Qa hbk hto))));clear HK hks hks2 hpk hka hrk hbk hto hgk;have c0:=za HB.2.2.2.1 0;have c1:=za HB.2.2.2.1 1;have c2:=za HB.2.2.2.1 2;simp at c0 c1 c2;have cE:=za HB.1.blk 13;have fE:=zd HB.1.blk 13;simp[M.cells]at cE;obtain⟨oa,pa,hev⟩:=HB.1.es.len;rw[hev]at cE;have HEV:=Qh hev;clear hev;have hpl:pb<wr.heap.size:=lt_of_block HB.1.blk;obtain⟨i0,hi,hz0,hz1,hz2⟩:=zbV;obtain⟨ok2,ck2,hkv⟩:=HB.2.1.keeps.len;have hrow:((wr.drew).alloc (.cells #[.int .i64 d,kv,.slice none 0 0] 82)).ownsRow 0 82 3 (.slice oa m.es.length pa) m.es.length (m.es.flatMap ME.cells):=(by have h:=HB.1.es.row;rw[HEV.out]at h;exact zf h ((Keep.refl (fun _=>False) wr).drew.alloc _) fun _ _=>id);have HROW:=Qh hrow;have hlen:=HF.out;have HGN:=Qh (show ∀q,m.ev.ownBlock=some q->q≠pb from fun q hq e=>by
            have h4:=HB.1.es.tag q hq;rw[e,HB.1.tag]at h4;cases h4)
          have HKV:=Qh hkv;rw[hkv]at c1 HROW;clear hrow hkv;go_wp2_with fail;go_region_law(first
            |(refine zy rfl (.tmp 48) (.tmp 50) 38 rfl 0 82 i0 _ 3 56 Tryz.underlying38 hi hz0 hz1 hz2 rfl (by decide) (.slice oa m.es.length pa) m.es.length (m.es.flatMap ME.cells) rfl HROW.out ⟨wr.heap.size,0,none⟩ 1 1 [.int .i64 d,.slice ok2 ks.length ck2,.slice none 0 0] rfl rfl (zD _ _ _) (by intro u hu;simp at hu;rcases hu with rfl|rfl|rfl<;>rfl) (by unfold maxLen;omega) (by omega) (Nat.zero_le _) ?_;intro v4 w4 hown hgr hblk;obtain⟨g4,c4,rfl⟩:=ownsRow_succ hown;rw[<-HEV.out]at hgr hblk;have k4:Keep (fun q=>m.ev.ownBlock=some q) wr w4:=((Keep.refl (fun q=>m.ev.ownBlock=some q) wr).drew.alloc _).trans (zp hgr);have cE4:=(k4.cell (p:=⟨pb,13,none⟩) hpl (fun h=>HGN.out _ h rfl)).trans cE;have fE4:=(k4.frozen (p:=⟨pb,13,none⟩) hpl (fun h=>HGN.out _ h rfl)).trans fE;have H4:=Qh (Qa hown (Qa hblk k4));clear hown hgr hblk k4))
          (all_goals go_wp2_with fail);all_goals go_ret
          all_goals
            obtain⟨own',hp1,hp2⟩:=HB.1.end_push d HB.2.1 (by rw[HKV.out];exact H4.1) H4.2.2 (by
              rcases H4.2.1 with h|h
              · exact Or.inl h
              · exact Or.inr ⟨_,h,by simp⟩)
            obtain⟨e1,e2⟩:=M.newEnd_play m d kv ks (.slice (some ⟨g4,0,none⟩) (m.es.length+1) c4);exact Or.inl ⟨_,_,_,HRX.out,rfl,hp1,e1,e2,HB.2.2.2.2.trans hp2⟩
  · have h1:zh x=none:=by
      simp only[List.length_singleton,List.take_succ_cons,List.take_zero,zI]at hn;cases hq:zh x with
      |none=>rfl
      |some n=>rw[hq]at hn;simp at hn
    have HR2:=Qh (show z0o m.play (x::ws)=.error 66 from by rw[HR.out,h1]);have kk2:Keep (fun _=>False) w w2:=HW.1.own k2 fun i hi=>Or.inr (by omega);have H2:=Qh kk2;clear hn h1 k2 kk2 HR;go_wp2_with fail;go_ret;exact Or.inr ⟨66,HR2.out,by decide,rfl,H2.mono fun _ _ h=>h.elim⟩
theorem z07:∀{l:List Str} {s:Str},s∈l->zh s=none->zI l=none
 |[],s,h,_=>by simp at h
 |t::l,s,h,hn=>by
  rw[zI];cases ht:zh t with
  |none=>rfl
  |some n=>
   rcases List.mem_cons.1 h with rfl|h
   ·rw[hn]at ht;cases ht
   ·simp only[z07 h hn,Option.map_none]
theorem yM{s:Str}{l:List Str}{n:Int}{ns:List Int}(h1:zh s=some n)(h2:zI l=some ns):zI (s::l)=some (n::ns):=by rw[zI,h1,h2];rfl
theorem z6g{s t:Str}{ns:List Int}(h:zI [s,t]=some ns):∃a b,ns=[a,b]/\zh s=some a/\zh t=some b:=by
 simp only[zI]at h;cases hs:zh s with
 |none=>rw[hs]at h;cases h
 |some a=>
  cases ht:zh t with
  |none=>rw[hs,ht]at h;cases h
  |some b=>rw[hs,ht]at h;simp at h;exact⟨a,b,h.symm,rfl,rfl⟩
theorem z9L{s t u v:Str}{ns:List Int}(h:zI [s,t,u,v]=some ns):∃a b c d,ns=[a,b,c,d]/\zh s=some a/\zh t=some b/\zh u=some c/\zh v=some d:=by
 rw[show zI [s,t,u,v]=(match zh s with|none=>none|some n=>(zI [t,u,v]).map (n::·))from rfl]at h
 cases hs:zh s with
 |none=>rw[hs]at h;cases h
 |some a=>
  rw[hs]at h;rw[show zI [t,u,v]=(match zh t with|none=>none|some n=>(zI [u,v]).map (n::·))from rfl]at h
  cases ht:zh t with
  |none=>rw[ht]at h;cases h
  |some b=>
   rw[ht]at h;cases hr:zI [u,v]with
   |none=>rw[hr]at h;cases h
   |some r=>
    obtain⟨c,d,rfl,h3,h4⟩:=z6g hr;rw[hr]at h;simp at h;exact⟨a,b,c,d,h.symm,rfl,rfl,h3,h4⟩
theorem zcI.code{ws:List Str}{offs:List Nat}{gb:Nat}{cs:Array Value}{t:TypeId}{w w':World}{e:Ending}(h:zcI ws offs gb cs t w e w'):
  ∃c:Int,e=.returned (.int .i64 c)/\((∃ns,zI (ws.take offs.length)=some ns/\c=0/\w'.heap[gb]?=some (.cells (qN cs offs ns) t (0,0)))\/(zI (ws.take offs.length)=none/\c=66))/\Keep (fun g=>g=gb) w w':=by
 rcases h with⟨(⟨ns,h1,h2,h3⟩|⟨h1,h2⟩),h4⟩
 ·exact⟨0,h2,Or.inl ⟨ns,h1,rfl,h3⟩,h4⟩
 ·exact⟨66,h2,Or.inr ⟨h1,rfl⟩,h4⟩
theorem zbj{w:World}{own:Nat->Option T}{pb:Nat}{m:M}(B:Nat)(ws:List Str)(g f cl:Nat)(h:PAt w own pb m)(hE:Ev B w)(hw:qh w (some ⟨g,f,none⟩) ws)(hx:∀i,(ws.getD i []).length<=1073741824)
  (hl:ws.length=9)(hcl:9<=cl)(hg:own g=none)(hB:∀q,own q≠none->B<=q):
  Calls Tryz.prog 80 #[.pointer (some ⟨pb,0,none⟩),.slice (some ⟨g,f,none⟩) 9 cl] w (Res own pb m.st (qq m.play ws) w):=by
 have hBp:B<=pb:=hB pb (by rw[h.tag];simp);have hgp:g≠pb:=(by intro e;rw[e,h.tag]at hg;cases hg);have hgl:=(hw.at_ (i:=0) (by omega)).2;have hlt:=lt_of_block h.blk;have HH:=Qh (Qa h (Qa hE (Qa hw (Qa hx hl))));have HP:=Qh (Qa hBp (Qa hgp (Qa hgl hlt)));have HB0:=Qh (show zI (ws.take 7)=none->qq m.play ws=.error 66 from fun h=>by unfold qq;rw[h]);clear h hE hw hg hB hx hBp;go_in;go_wp2_with fail;obtain⟨W,hW⟩:∃W,w.drew.alloc (.cells #[.pointer (some ⟨pb,0,none⟩),.pointer (some ⟨pb,1,none⟩)] 108)=W:=⟨_,rfl⟩;have b1:W.heap[w.heap.size]?=some (.cells #[.pointer (some ⟨pb,0,none⟩),.pointer (some ⟨pb,1,none⟩)] 108 (0,0)):=(by rw[<-hW];exact zm _ _);have kW:Keep (fun _=>False) w W:=(by rw[<-hW];exact(Keep.refl _ w).drew.alloc _);have hI:=z0E ws (some ⟨g,f,none⟩) cl 2 w.heap.size pb [0,1] m.cells 61 B W (HH.2.1.kept kW.none) (HH.2.2.1.kept kW) (by simp;omega) (by omega) HH.2.2.2.1 b1 (kW.same HH.1.blk id) (fun i hi=>by
   have:i=0\/i=1:=(by simp at hi;omega);rcases this with rfl|rfl
   ·exact(show 0<15 by decide)
   ·exact(show 1<15 by decide)) (by omega) (fun g' f' h=>by cases h;exact hgp) HP.1
 rw[hl]at hI;change Calls _ _ #[.slice (some ⟨g,f,none⟩) 9 cl,.slice (some ⟨w.heap.size,0,none⟩) 2 2] W _ at hI;rw[<-hW]at hI kW;have HI:=Qh hI;have HW:=Qh (Qa kW True.intro);clear b1 kW hI hW;go_region_with(go_at_call 81;refine HI.mono ?_;intro e w2 hq;obtain⟨code,rfl,hq2,k2⟩:=hq.code;clear hq);clear HI;rcases hq2 with⟨ns,hn,rfl,hb⟩|⟨hn,rfl⟩
 ·obtain⟨s0,s1,s2,s3,s4,s5,s6,s7,s8,rfl⟩:∃s0 s1 s2 s3 s4 s5 s6 s7 s8,ws=[s0,s1,s2,s3,s4,s5,s6,s7,s8]:=by
   match ws,hl with
   |[s0,s1,s2,s3,s4,s5,s6,s7,s8],_=>exact⟨s0,s1,s2,s3,s4,s5,s6,s7,s8,rfl⟩
  obtain⟨a,b,rfl,n0,n1⟩:=z6g hn;have k02:Keep (fun q=>q=pb) w w2:=(HW.1.mono fun _ _ h=>h.elim).trans k2;have hE2:Ev B w2:=HH.2.1.on (k02.below HH.2.1.le fun q hq=>by rw[hq];exact HP.1);have hw2:qh w2 (some ⟨g,f,none⟩) [s0,s1,s2,s3,s4,s5,s6,s7,s8]:=HH.2.2.1.keep k02 fun g' f' h=>(by cases h;exact hgp);have c2:=(hw2.at_ (i:=2) (by simp)).1;simp at c2;have HNUM:=Qh (z0B s2 B w2 hE2 (HH.2.2.2.1 2));have H2:=Qh (Qa n0 (Qa n1 (Qa hb (Qa k02 (Qa hE2 hw2)))));clear hn n0 n1 hb k2 k02 hE2 hw2 hl;go_wp2_with fail;refine HNUM.mono ?_;clear HNUM;rintro e w3 ⟨⟨c,ok,rfl,hq⟩,hb3⟩;obtain⟨q1,q2⟩:=z11 hq;have k3:=Keep.of_below hb3;have b3:=k3.same H2.2.2.1 id;have f3:=zd b3 2;have d3:∃u,w3.cell? ⟨pb,2,none⟩=some u:=⟨_,za b3 2⟩;obtain⟨u3,d3⟩:=d3;have H3:=Qh (Qa q1 (Qa q2 (Qa b3 (Qa (H2.2.2.2.1.trans (k3.mono fun _ _ h=>h.elim)) (H2.2.2.2.2.2.kept k3)))));have HE3:=Qh (H2.2.2.2.2.1.kept hb3);clear hq q1 q2 hb3 k3 b3 c2;cases ok with
  |false=>
   go_wp2_with fail;go_ret;have hbad:qq m.play [s0,s1,s2,s3,s4,s5,s6,s7,s8]=.error 66:=HB0.out (z07 (s:=s2) (by simp) (H3.2.1 (by trivial)));exact Or.inr ⟨66,hbad,by decide,rfl,H3.2.2.2.1.mono fun q _ hq=>by rw[hq,HH.1.tag];simp⟩
  |true=>
   go_wp2_with fail;obtain⟨w4,hw4⟩:∃w4,w3.setCell ⟨pb,2,none⟩ (.int .i64 c)=w4:=⟨_,rfl⟩;have b4:w4.heap[pb]?=some (.cells ((qN m.cells [0,1] [a,b]).setIfInBounds 2 (.int .i64 c)) 61 (0,0)):=(by rw[<-hw4];exact zg H3.2.2.1 2 _);have k4:Keep (fun q=>q=pb) w3 w4:=(by rw[<-hw4];exact(Keep.refl (fun q=>q=pb) w3).setCell (p:=⟨pb,2,none⟩) (Or.inl rfl) _);rw[hw4];clear hw4 d3 f3;have hE4:Ev B w4:=HE3.on (k4.below HE3.le fun q hq=>by rw[hq];exact HP.1);have hw4:qh w4 (some ⟨g,f+3,none⟩) [s3,s4,s5,s6,s7,s8]:=(H3.2.2.2.2.keep k4 fun g' f' h=>by cases h;exact hgp).tail.tail.tail;obtain⟨W,hW⟩:∃W,w4.drew.alloc (.cells #[.pointer (some ⟨pb,3,none⟩),.pointer (some ⟨pb,4,none⟩),.pointer (some ⟨pb,5,none⟩),.pointer (some ⟨pb,6,none⟩)] 108)=W:=⟨_,rfl⟩;have b1:W.heap[w4.heap.size]?=some (.cells #[.pointer (some ⟨pb,3,none⟩),.pointer (some ⟨pb,4,none⟩),.pointer (some ⟨pb,5,none⟩),.pointer (some ⟨pb,6,none⟩)] 108 (0,0)):=(by rw[<-hW];exact zm _ _);have kW:Keep (fun _=>False) w4 W:=(by rw[<-hW];exact(Keep.refl _ w4).drew.alloc _);have hpl4:=lt_of_block b4;have hI:=z0E [s3,s4,s5,s6,s7,s8] (some ⟨g,f+3,none⟩) (cl-3) 4 w4.heap.size pb [3,4,5,6] ((qN m.cells [0,1] [a,b]).setIfInBounds 2 (.int .i64 c)) 61 B W (hE4.kept kW.none) (hw4.kept kW) (by simp) (by simp) (fun i=>by
     have:=HH.2.2.2.1 (i+3);simpa using this) b1 (kW.same b4 id) (fun i hi=>by
    have:i=0\/i=1\/i=2\/i=3:=(by simp at hi;omega);rcases this with rfl|rfl|rfl|rfl
    ·exact(show 3<15 by decide)
    ·exact(show 4<15 by decide)
    ·exact(show 5<15 by decide)
    ·exact(show 6<15 by decide)) (by omega) (fun g' f' h=>by cases h;exact hgp) HP.1
   change Calls _ _ #[.slice (some ⟨g,f+3,none⟩) 6 (cl-3),.slice (some ⟨w4.heap.size,0,none⟩) 4 4] W _ at hI;rw[<-hW]at hI kW;have HI:=Qh hI;have H4:=Qh (Qa kW (Qa (H3.2.2.2.1.trans k4) (Qa hE4 (hw4))));clear b1 kW hI hW b4 k4 hE4 hw4;have hc1:3<cl:=(by omega);have hc2:¬cl-3=0:=(by omega);have hc3:¬cl=3:=(by omega);go_region_with(go_at_call 81;refine HI.mono ?_;intro e w5 hq;obtain⟨code,rfl,hq2,k5⟩:=hq.code;clear hq);clear HI;have k05:Keep (fun q=>q=pb) w w5:=(H4.2.1.trans (H4.1.mono fun _ _ h=>h.elim)).trans k5;rcases hq2 with⟨ns,hn,rfl,hb⟩|⟨hn,rfl⟩
   ·obtain⟨q3,q4,q5,q6,rfl,n3,n4,n5,n6⟩:=z9L hn
    have hE5:Ev B w5:=HH.2.1.on (k05.below HH.2.1.le fun q hq=>by rw[hq];exact HP.1);have hw5:qh w5 (some ⟨g,f,none⟩) [s0,s1,s2,s3,s4,s5,s6,s7,s8]:=HH.2.2.1.keep k05 fun g' f' h=>(by cases h;exact hgp);have HNS:=Qh (show zI ([s0,s1,s2,s3,s4,s5,s6,s7,s8].take 7)=some [a,b,c,q3,q4,q5,q6]from yM H2.1 (yM H2.2.1 (yM (H3.1 (by trivial)) (yM n3 (yM n4 (yM n5 (yM n6 rfl)))))));have hb':w5.heap[pb]?=some (.cells (M.cells {m with disk:=a,segMax:=b,base:=c,qcap:=q3,qbytes:=q4,pmost:=q5,pbytes:=q6}) 61 (0,0)):=hb;have H5:=Qh (Qa hb' (Qa k05 (Qa hE5 hw5)));clear hn n3 n4 n5 n6 hb hb' k5 k05 hE5 hw5;go_wp2_with fail;have HPL:=Qh (show qq m.play [s0,s1,s2,s3,s4,s5,s6,s7,s8]=(if(zJ s7).2≠0 then .error (zJ s7).2 else if(zJ s8).2≠0 then .error (zJ s8).2 else .ok {m.play with disk:=a,segMax:=b,base:=c,qcap:=q3,qbytes:=q4,pmost:=q5,pbytes:=q6,linger:=(zJ s7).1,alpha:=(zJ s8).1})from by unfold qq;rw[HNS.out];rfl);have hl5:=lt_of_block H5.1;clear HNS;go_region_with(fail);obtain⟨W6,hW6⟩:∃W6,(w5.alloc (.cells #[.pointer (some ⟨pb,7,none⟩),.pointer (some ⟨pb,8,none⟩)] 141)).drew=W6:=⟨_,rfl⟩;have b6:W6.heap[w5.heap.size]?=some (.cells #[.pointer (some ⟨pb,7,none⟩),.pointer (some ⟨pb,8,none⟩)] 141 (0,0)):=(by rw[<-hW6];exact zm w5 _);have k6:Keep (fun _=>False) w5 W6:=(by rw[<-hW6];exact((Keep.refl _ w5).alloc _).drew);rw[hW6];obtain⟨q,hq⟩:=Qx w5.heap.size;rw[hq]at b6⊢
    have HPN:=Qh (show q≠pb by omega);have H6:=Qh (Qa b6 (Qa k6 (Qa (k6.same H5.1 id) (H5.2.1.trans (k6.mono fun _ _ h=>h.elim)))));clear hW6 b6 k6 hq;go_wp2_with fail;go_loopg[10,11,12,13,77] 2 (fun gq s10 s11 s12 s13 s77 wr=>∃k:Nat,gq+k=2/\s77=.int .i64 (k:Int)/\Hid (∃li al:Nat,wr.heap[pb]?=some (.cells (M.cells {m with disk:=a,segMax:=b,base:=c,qcap:=q3,qbytes:=q4,pmost:=q5,pbytes:=q6,linger:=li,alpha:=al}) 61 (0,0))/\Keep (fun q=>q=pb) w wr/\wr.heap[q]?=some (.cells #[.pointer (some ⟨pb,7,none⟩),.pointer (some ⟨pb,8,none⟩)] 141 (0,0))/\(k=0->li=m.linger/\al=m.alpha)/\(1<=k->zJ s7=(li,0))/\(k=1->al=m.alpha)/\(2<=k->zJ s8=(al,0))))
    case atStart=>exact⟨0,by omega,rfl,m.linger,m.alpha,H6.2.2.1,H6.2.2.2,H6.1,fun _=>⟨rfl,rfl⟩,fun h=>by omega,fun h=>by omega,fun h=>by omega⟩
    case round=>
     obtain⟨k,hgk,rfl,HK⟩:=hrel;obtain⟨li,al,hbk,hkk,hq6,hr0,hr7,hr1,hr8⟩:=HK.out;have hEk:Ev B wr:=HH.2.1.on (hkk.below HH.2.1.le fun q hq=>by rw[hq];exact HP.1);have hwk:qh wr (some ⟨g,f,none⟩) [s0,s1,s2,s3,s4,s5,s6,s7,s8]:=HH.2.2.1.keep hkk fun g' f' h=>(by cases h;exact hgp);have hk:k=0\/k=1\/k=2:=(by omega);rcases hk with rfl|rfl|rfl
     ·have cw:=(hwk.at_ (i:=7) (by simp)).1
      simp at cw;have cp:=za hq6 0;simp at cp;have HRD:=Qh (hEk.read (zc s7) (by rw[zw];exact HH.2.2.2.1 7));have HV:=Qh (Qa hr0 (Qa hr7 (Qa hr1 hr8)));have HB0:=Qh (Qa hbk (Qa hkk hq6));clear HK hbk hkk hq6 hEk hwk;go_wp2_with fail;refine HRD.mono ?_;clear HRD;rintro e w8 ⟨⟨y,kk,rfl,hrr⟩,hb8⟩;have hrf:zJ s7=(y,kk):=z1F hrr;have k8:=Keep.of_below hb8;have b8:=k8.same HB0.1 id;have f8:=zd b8 7;obtain⟨u8,d8⟩:∃u,w8.cell? ⟨pb,7,none⟩=some u:=⟨_,za b8 7⟩;have HB:=Qh (Qa b8 (Qa (HB0.2.1.trans (k8.mono fun _ _ h=>h.elim)) (k8.same HB0.2.2 id)));clear b8 k8 hb8 cw cp;rcases z57 hrr with rfl|rfl
      ·have HRF:=Qh hrf
       clear hrr hrf hr0 hr7 hr1 hr8;go_wp2_with fail;go_roundg(gk-1);all_goals first|omega|skip
       case rel=>
        refine⟨1,by omega,rfl,y,al,zg HB.1 7 _,?_,?_,fun h=>by omega,fun _=>HRF.out,fun _=>(HV.1 trivial).2,fun h=>by omega⟩
        ·exact HB.2.1.setCell (p:=⟨pb,7,none⟩) (Or.inl rfl) _
        ·exact zS HB.2.2 HPN.out 7 _
      ·have HX:=Qh (show qq m.play [s0,s1,s2,s3,s4,s5,s6,s7,s8]=.error 66 from by rw[HPL.out,show zJ s7=(y,66)from hrf];rfl);clear hrr hrf hr0 hr7 hr1 hr8;go_wp2_with fail;go_ret;exact Or.inr ⟨66,HX.out,by decide,rfl,HB.2.1.mono fun q _ hq=>by rw[hq,HH.1.tag];simp⟩
     ·have cw:=(hwk.at_ (i:=8) (by simp)).1
      simp at cw;have cp:=za hq6 1;simp at cp;have HRD:=Qh (hEk.read (zc s8) (by rw[zw];exact HH.2.2.2.1 8));have HV:=Qh (Qa hr0 (Qa hr7 (Qa hr1 hr8)));have HB0:=Qh (Qa hbk (Qa hkk hq6));clear HK hbk hkk hq6 hEk hwk;go_wp2_with fail;refine HRD.mono ?_;clear HRD;rintro e w8 ⟨⟨y,kk,rfl,hrr⟩,hb8⟩;have hrf:zJ s8=(y,kk):=z1F hrr;have k8:=Keep.of_below hb8;have b8:=k8.same HB0.1 id;have f8:=zd b8 8;obtain⟨u8,d8⟩:∃u,w8.cell? ⟨pb,8,none⟩=some u:=⟨_,za b8 8⟩;have HB:=Qh (Qa b8 (Qa (HB0.2.1.trans (k8.mono fun _ _ h=>h.elim)) (k8.same HB0.2.2 id)));clear b8 k8 hb8 cw cp;rcases z57 hrr with rfl|rfl
      ·have HRF:=Qh hrf
       clear hrr hrf hr0 hr7 hr1 hr8;go_wp2_with fail;go_roundg(gk-1);all_goals first|omega|skip
       case rel=>
        refine⟨2,by omega,rfl,li,y,zg HB.1 8 _,?_,?_,fun h=>by omega,fun _=>HV.2.1 (by omega),fun h=>by omega,fun _=>HRF.out⟩
        ·exact HB.2.1.setCell (p:=⟨pb,8,none⟩) (Or.inl rfl) _
        ·exact zS HB.2.2 HPN.out 8 _
      ·have HX:=Qh (show qq m.play [s0,s1,s2,s3,s4,s5,s6,s7,s8]=.error 66 from by rw[HPL.out,show zJ s7=(li,0)from hr7 (by omega),show zJ s8=(y,66)from hrf];rfl);clear hrr hrf hr0 hr7 hr1 hr8;go_wp2_with fail;go_ret;exact Or.inr ⟨66,HX.out,by decide,rfl,HB.2.1.mono fun q _ hq=>by rw[hq,HH.1.tag];simp⟩
     ·have HX:=Qh (Qa (hr7 (by omega)) (Qa (hr8 (by omega)) (Qa hbk hkk)));clear HK hbk hkk hq6 hEk hwk hr0 hr7 hr1 hr8;go_wp2_with fail;go_ret;obtain⟨hp1,hp2⟩:=PAt.scalars (m':={m with disk:=a,segMax:=b,base:=c,qcap:=q3,qbytes:=q4,pmost:=q5,pbytes:=q6,linger:=li,alpha:=al}) HH.1 HX.2.2.2 HX.2.2.1 rfl rfl rfl rfl rfl rfl rfl rfl;exact Or.inl ⟨_,_,_,by rw[HPL.out,HX.1,HX.2.1];rfl,rfl,hp1,rfl,rfl,hp2⟩
   ·have hbad:qq m.play [s0,s1,s2,s3,s4,s5,s6,s7,s8]=.error 66:=HB0.out (by
     have h1:zI [s3,s4,s5,s6]=none:=hn;by_cases g3:zh s3=none
     ·exact z07 (s:=s3) (by simp) g3
     by_cases g4:zh s4=none
     ·exact z07 (s:=s4) (by simp) g4
     by_cases g5:zh s5=none
     ·exact z07 (s:=s5) (by simp) g5
     by_cases g6:zh s6=none
     ·exact z07 (s:=s6) (by simp) g6
     obtain⟨q3,g3⟩:=Option.ne_none_iff_exists'.1 g3;obtain⟨q4,g4⟩:=Option.ne_none_iff_exists'.1 g4;obtain⟨q5,g5⟩:=Option.ne_none_iff_exists'.1 g5;obtain⟨q6,g6⟩:=Option.ne_none_iff_exists'.1 g6;rw[yM g3 (yM g4 (yM g5 (yM g6 rfl)))]at h1;cases h1)
    have HX:=Qh (Qa hbad k05);clear hbad hn k05 k5;go_wp2_with fail;go_ret;exact Or.inr ⟨66,HX.1,by decide,rfl,HX.2.mono fun q _ hq=>by rw[hq,HH.1.tag];simp⟩
 ·have hbad:qq m.play ws=.error 66:=HB0.out (by
   have h1:=xz (ws.take 7) 2 (by rw[List.take_take];exact hn);exact h1)
  have HX:=Qh hbad;have k02:Keep (fun q=>q=pb) w w2:=(HW.1.mono fun _ _ h=>h.elim).trans k2;have HK:=Qh k02;clear hbad hn k2 k02;go_wp2_with fail;go_ret;exact Or.inr ⟨66,HX.out,by decide,rfl,HK.mono fun q _ hq=>by rw[hq,HH.1.tag];simp⟩
structure TkAt (w:World) (own:Nat->Option T) (pb:Nat) (m:M) (B g f cl:Nat) (x:Str) (ws:List Str):Prop where
 p:PAt w own pb m
 ev:Ev B w
 wat:qh w (some ⟨g,f,none⟩) (x::ws)
 sz:∀i,((x::ws).getD i []).length<=1073741824
 cap:ws.length+1<=cl
 len:ws.length<=1048576
 free:own g=none
 low:∀q,own q≠none->B<=q
 es:m.es.length<=1048576
 ts:m.ts.length<=1048576
 ps:m.ps.length<=1048576
 al:(yb m).length<=1048576
 cl_:(zx m).length<=1048576
theorem TkAt.tail{w:World}{own:Nat->Option T}{pb:Nat}{m:M}{B g f cl:Nat}{x:Str}{ws:List Str}(h:TkAt w own pb m B g f cl x ws):qh w (some ⟨g,f+1,none⟩) ws/\(∀i,(ws.getD i []).length<=1073741824):=
 ⟨h.wat.tail,fun i=>by have:=h.sz (i+1);simpa using this⟩
theorem zbK{w:World}{own:Nat->Option T}{pb:Nat}{m:M}{B g f cl:Nat}{x:Str}{ws:List Str}(h:TkAt w own pb m B g f cl x ws):g<w.heap.size:=(h.wat.at_ (i:=0) (by simp)).2
theorem z96{w:World}{own:Nat->Option T}{pb:Nat}{m:M}{B g f cl:Nat}{x:Str}{ws:List Str}(h:TkAt w own pb m B g f cl x ws)(hn:ws.length=9):
  Calls Tryz.prog 48 #[.pointer (some ⟨pb,0,none⟩),.int .i64 1,.slice (some ⟨g,f,none⟩) (ws.length+1) cl] w (Res own pb m.st (zH m.play 1 x ws) w):=by
 have hcl:=h.cap;have HK:=Qh (zbj B ws g (f+1) (cl-1) h.p h.ev h.tail.1 h.tail.2 hn (by omega) h.free h.low);rw[hn]at hcl⊢
 have hc1:1<cl:=(by omega);have hc2:¬cl-1=0:=(by omega);rw[show zH m.play 1 x ws=qq m.play ws from rfl];clear h hn;generalize qq m.play ws=R at*
 go_in;go_wp2_with fail;refine HK.mono ?_;intro e w' hr;rcases hr with⟨p,own',m',h1,rfl,h2⟩|⟨c,h1,h2,rfl,h3⟩
 ·have HR:=Qh h2;clear h2;go_wp2_with fail;go_ret;exact Or.inl ⟨p,own',m',h1,rfl,HR.out⟩
 ·have HR:=Qh (Qa h2 h3);clear h2 h3;go_wp2_with fail;go_ret;exact Or.inr ⟨c,h1,HR.1,rfl,HR.2⟩
theorem z7c{w:World}{own:Nat->Option T}{pb:Nat}{m:M}{B g f cl:Nat}{x:Str}{ws:List Str}(h:TkAt w own pb m B g f cl x ws)(hn:ws.length=3):
  Calls Tryz.prog 48 #[.pointer (some ⟨pb,0,none⟩),.int .i64 3,.slice (some ⟨g,f,none⟩) (ws.length+1) cl] w (Res own pb m.st (zH m.play 3 x ws) w):=by
 have hcl:=h.cap;obtain⟨a,b,c,rfl⟩:∃a b c,ws=[a,b,c]:=by
  match ws,hn with
  |[a,b,c],_=>exact⟨a,b,c,rfl⟩
 have HK:=Qh (za4 B a b c g (f+1) (cl-1) h.p h.ev h.tail.1 (h.tail.2 0) (h.tail.2 1) (h.tail.2 2) (by simp at hcl;omega) h.free h.es h.al);rw[show[a,b,c].length=3 from rfl]at hcl⊢
 have hc1:1<cl:=(by omega);have hc2:¬cl-1=0:=(by omega);rw[show zH m.play 3 x [a,b,c]=yZ m.play [a,b,c]from rfl];clear h hn;generalize yZ m.play [a,b,c]=R at*
 go_in;go_wp2_with fail;refine HK.mono ?_;intro e w' hr;rcases hr with⟨p,own',m',h1,rfl,h2⟩|⟨c,h1,h2,rfl,h3⟩
 ·have HR:=Qh h2;clear h2;go_wp2_with fail;go_ret;exact Or.inl ⟨p,own',m',h1,rfl,HR.out⟩
 ·have HR:=Qh (Qa h2 h3);clear h2 h3;go_wp2_with fail;go_ret;exact Or.inr ⟨c,h1,HR.1,rfl,HR.2⟩
theorem z98{w:World}{own:Nat->Option T}{pb:Nat}{m:M}{B g f cl:Nat}{x:Str}{ws:List Str}(h:TkAt w own pb m B g f cl x ws)(hne:m.ts≠[])(hk0:zb x≠0)(hct:zF 5 x ws.length=true):
  Calls Tryz.prog 48 #[.pointer (some ⟨pb,0,none⟩),.int .i64 5,.slice (some ⟨g,f,none⟩) (ws.length+1) cl] w (Res own pb m.st (zH m.play 5 x ws) w):=by
 have hcl:=h.cap;have hlw:=h.len;have HK:=Qh (zcB B x ws g f cl h.p h.ev h.wat h.sz hcl hne h.ts h.cl_ hk0 hct (by omega));rw[show zH m.play 5 x ws=qQ m.play x ws from rfl];clear h hct hne;generalize qQ m.play x ws=R at*
 generalize ws.length=n at*
 go_in;go_wp2_with fail;refine HK.mono ?_;intro e w' hr;rcases hr with⟨p,own',m',h1,rfl,h2⟩|⟨c,h1,h2,rfl,h3⟩
 ·have HR:=Qh h2;clear h2;go_wp2_with fail;go_ret;exact Or.inl ⟨p,own',m',h1,rfl,HR.out⟩
 ·have HR:=Qh (Qa h2 h3);clear h2 h3;go_wp2_with fail;go_ret;exact Or.inr ⟨c,h1,HR.1,rfl,HR.2⟩
theorem zaF{w:World}{own:Nat->Option T}{pb:Nat}{m:M}{B g f cl:Nat}{x:Str}{ws:List Str}(h:TkAt w own pb m B g f cl x ws)(hn:1<=ws.length):
  Calls Tryz.prog 48 #[.pointer (some ⟨pb,0,none⟩),.int .i64 7,.slice (some ⟨g,f,none⟩) (ws.length+1) cl] w (Res own pb m.st (zH m.play 7 x ws) w):=by
 have hcl:=h.cap;have hlw:=h.len;obtain⟨y,r,rfl⟩:∃y r,ws=y::r:=by
  cases ws with
  |nil=>simp at hn
  |cons y r=>exact⟨y,r,rfl⟩
 have HK:=Qh (zdP B y r g (f+1) (cl-1) h.p h.ev h.tail.1 h.tail.2 (by simp at hcl;omega) h.es (by simp at hlw;omega) h.free h.low);rw[List.length_cons]at hcl hlw⊢
 have hc1:1<cl:=(by omega);have hc2:¬cl-1=0:=(by omega);rw[show zH m.play 7 x (y::r)=z0o m.play (y::r)from rfl];clear h hn;generalize z0o m.play (y::r)=R at*
 generalize r.length=n at*
 go_in;go_wp2_with fail;refine HK.mono ?_;intro e w' hr;rcases hr with⟨p,own',m',h1,rfl,h2⟩|⟨c,h1,h2,rfl,h3⟩
 ·have HR:=Qh h2;clear h2;go_wp2_with fail;go_ret;exact Or.inl ⟨p,own',m',h1,rfl,HR.out⟩
 ·have HR:=Qh (Qa h2 h3);clear h2 h3;go_wp2_with fail;go_ret;exact Or.inr ⟨c,h1,HR.1,rfl,HR.2⟩
theorem zbr{c:Str}{gb off:Nat}{cs:Array Value}{t:TypeId}{w w':World}{e:Ending}(h:((∃n,zh c=some n/\e=.returned (.int .i64 0)/\w'.heap[gb]?=some (.cells (cs.setIfInBounds off (.int .i64 n)) t (0,0)))\/(zh c=none/\e=.returned (.int .i64 66)))/\Keep (fun q=>q=gb) w w'):
  ∃code:Int,e=.returned (.int .i64 code)/\((∃n,zh c=some n/\code=0/\w'.heap[gb]?=some (.cells (cs.setIfInBounds off (.int .i64 n)) t (0,0)))\/(zh c=none/\code=66))/\Keep (fun q=>q=gb) w w':=by
 rcases h with⟨(⟨n,h1,h2,h3⟩|⟨h1,h2⟩),h4⟩
 ·exact⟨0,h2,Or.inl ⟨n,h1,rfl,h3⟩,h4⟩
 ·exact⟨66,h2,Or.inr ⟨h1,rfl⟩,h4⟩
theorem z97{w:World}{own:Nat->Option T}{pb:Nat}{m:M}{B g f cl:Nat}{x:Str}{ws:List Str}(h:TkAt w own pb m B g f cl x ws)(hn:ws.length=1):
  Calls Tryz.prog 48 #[.pointer (some ⟨pb,0,none⟩),.int .i64 2,.slice (some ⟨g,f,none⟩) (ws.length+1) cl] w (Res own pb m.st (zH m.play 2 x ws) w):=by
 have hcl:=h.cap;obtain⟨y,rfl⟩:∃y,ws=[y]:=List.length_eq_one_iff.1 hn;have cy:=(h.wat.at_ (i:=1) (by simp)).1;simp at cy;have hgp:g≠pb:=(by intro e;have:=h.free;rw[e,h.p.tag]at this;cases this);have hlt:=lt_of_block h.p.blk;have kW:Keep (fun _=>False) w (w.drew.alloc (.cells #[.pointer (some ⟨pb,12,none⟩)] 108)):=(Keep.refl _ w).drew.alloc _;have hI:=z6u y g (f+1) (cl-1) 1 w.heap.size pb 12 m.cells 61 B _ (h.ev.kept kW.none) ((kW.cell (p:=⟨g,f+1,none⟩) (zbK h) id).trans cy) (h.tail.2 0) (zm _ _) (kW.same h.p.blk id) (show 12<15 by decide) (by omega) hgp (h.low pb (by rw[h.p.tag];simp));have HI:=Qh hI;have HR:=Qh (show zH m.play 2 x [y]=(match zh y with|none=>.error 66|some n=>.ok {m.play with most:=n})from rfl);have HP:=Qh (Qa h.p kW);rw[show[y].length=1 from rfl]at hcl⊢
 have hc1:1<cl:=(by omega);have hc2:¬cl-1=0:=(by omega);have hc3:¬cl=1:=(by omega);clear h hn hI kW;go_in;go_wp2_with fail;go_region_with(go_at_call 81;refine HI.mono ?_;intro e w2 hq;obtain⟨code,rfl,hq2,k2⟩:=zbr hq;clear hq);clear HI;have k02:Keep (fun q=>q=pb) w w2:=(HP.2.mono fun _ _ h=>h.elim).trans k2;rcases hq2 with⟨n,hn,rfl,hb⟩|⟨hn,rfl⟩
 ·have HX:=Qh (Qa hn (Qa k02 hb));clear hn k02 hb k2;go_wp2_with fail;go_ret;obtain⟨hp1,hp2⟩:=PAt.scalars (m':={m with most:=n}) HP.1 HX.2.1 HX.2.2 rfl rfl rfl rfl rfl rfl rfl rfl;exact Or.inl ⟨_,_,_,by rw[HR.out,HX.1];rfl,rfl,hp1,rfl,rfl,hp2⟩
 ·have HX:=Qh (Qa hn k02);clear hn k02 k2;go_wp2_with fail;go_ret;exact Or.inr ⟨66,by rw[HR.out,HX.1],by decide,rfl,HX.2.mono fun q _ hq=>by rw[hq,HP.1.tag];simp⟩
theorem zeh:∃i,Tryz.prog.info? 56=some i/\i.zero=some (.slice none 0 0)/\i.size=1/\i.bytes=24:=by have h:(Tryz.prog.info? 56).map (fun i=>(i.zero,i.size,i.bytes))=some (some (.slice none 0 0),1,24):=(by kernel_rfl);exact info_parts h
theorem zej:∃i,Tryz.prog.info? 3=some i/\i.zero=some (.int .i64 0)/\i.size=1/\i.bytes=8:=by have h:(Tryz.prog.info? 3).map (fun i=>(i.zero,i.size,i.bytes))=some (some (.int .i64 0),1,8):=(by kernel_rfl);exact info_parts h
theorem z95{w:World}{own:Nat->Option T}{pb:Nat}{m:M}{B g f cl:Nat}{x:Str}{ws:List Str}(h:TkAt w own pb m B g f cl x ws):
  Calls Tryz.prog 48 #[.pointer (some ⟨pb,0,none⟩),.int .i64 4,.slice (some ⟨g,f,none⟩) (ws.length+1) cl] w (Res own pb m.st (zH m.play 4 x ws) w):=by
 have hts:=h.ts;have hp:=h.p;have HR:=Qh (show zH m.play 4 x ws=.ok {m.play with tasks:=m.play.tasks++[[]]}from rfl);generalize ws.length=n at*
 obtain⟨oa,pa,hv⟩:=hp.ts.len;have c10:=za hp.blk 10;have f10:=zd hp.blk 10;simp[M.cells]at c10;have hlt:=lt_of_block hp.blk;have HP:=Qh (Qa hp hv);rw[hv]at c10;have HN:=Qh (show ∀q,m.tv.ownBlock=some q->q≠pb from fun q hq e=>by
  have h4:=hp.ts.tag q hq;rw[e,hp.tag]at h4;cases h4)
 have hrow:(w.alloc (.cells #[.slice none 0 0] 56)).ownsRow 0 56 1 m.tv m.ts.length (m.ts.map (·.v)):=zf hp.ts.row ((Keep.refl (fun _=>False) w).alloc _) fun _ _=>id
 have HROW:=Qh hrow;obtain⟨i0,hi,hz0,hz1,hz2⟩:=zeh;clear h hp hv hrow;go_in;go_wp2_with(at_builtin;refine wpList_append_own_at _ rfl (.tmp 41) (.tmp 42) 36 rfl 0 56 i0 _ 1 24 Tryz.underlying36 hi hz0 hz1 hz2 rfl (by decide) m.tv m.ts.length (m.ts.map (·.v)) (by rw[HP.2];rfl) HROW.out ⟨w.heap.size,0,none⟩ 1 1 [.slice none 0 0] rfl rfl (zD _ _ _) (by intro u hu;simp at hu;subst hu;rfl) (by unfold maxLen;omega) (by omega) (Nat.zero_le _) ?a2)
 case a2=>
  intro v4 w4 hown hgr _ hblk;obtain⟨g4,c4,rfl⟩:=ownsRow_succ hown;have k4:Keep (fun q=>m.tv.ownBlock=some q) w w4:=((Keep.refl (fun q=>m.tv.ownBlock=some q) w).alloc _).trans (zp hgr);have ca4:=(k4.cell (p:=⟨pb,10,none⟩) hlt (fun h=>HN.out _ h rfl)).trans c10;have fa4:=(k4.frozen (p:=⟨pb,10,none⟩) hlt (fun h=>HN.out _ h rfl)).trans f10;have H4:=Qh (Qa hown (Qa hblk k4));clear hown hgr hblk k4 c10 f10;go_wp2_with fail;go_ret;obtain⟨own',hp1,hp2⟩:=HP.1.task_push H4.1 H4.2.2 (by
   rcases H4.2.1 with h|h
   ·exact Or.inl h
   ·exact Or.inr ⟨_,h,by simp⟩)
  obtain⟨e1,e2⟩:=M.newTask_play m (.slice (some ⟨g4,0,none⟩) (m.ts.length+1) c4);exact Or.inl ⟨_,_,_,HR.out,rfl,hp1,e1,e2,hp2⟩
theorem z7b{w:World}{own:Nat->Option T}{pb:Nat}{m:M}{B g f cl:Nat}{x:Str}{ws:List Str}(h:TkAt w own pb m B g f cl x ws)(hn1:1<=ws.length):
  Calls Tryz.prog 48 #[.pointer (some ⟨pb,0,none⟩),.int .i64 6,.slice (some ⟨g,f,none⟩) (ws.length+1) cl] w (Res own pb m.st (zH m.play 6 x ws) w):=by
 have hcl:=h.cap;have hlw:=h.len;have hgl:=zbK h;have HH:=Qh h;have HR:=Qh (show zH m.play 6 x ws=(match zI ws with|none=>.error 66|some l=>.ok {m.play with picks:=m.play.picks++l})from rfl);obtain⟨n,hn⟩:=Qx ws.length;have HN:=Qh hn;rw[hn]at hcl hlw hn1⊢
 have hc1:1<cl:=(by omega);have hc2:¬cl-1=0:=(by omega);clear h hn;go_in;go_wp2_with fail;go_loopg[8,9,10,57] n (fun gq s8 s9 s10 s57 wr=>∃k:Nat,gq+k=n/\s57=.int .i64 (k:Int)/\Hid (∃(ns:List Int) (m':M) (ownk:Nat->Option T),zI (ws.take k)=some ns/\PAt wr ownk pb m'/\m'.play={m.play with picks:=m.play.picks++ns}/\m'.st=m.st/\m'.ps.length=m.ps.length+k/\To own ownk w wr))
 case atStart=>exact⟨0,by omega,rfl,[],m,own,by simp[zI],HH.p,by simp,rfl,rfl,To.refl _ _⟩
 case round=>
  obtain⟨k,hgk,rfl,HK⟩:=hrel;obtain⟨ns,m',ownk,hns,hpk,hpl,hst,hpsl,hto⟩:=HK.out;by_cases hk:k<n
  ·have hkw:k<ws.length:=by rw[HN.out];exact hk
   have cw0:=(HH.wat.at_ (i:=k+1) (by simp;exact hkw)).1;have cw:wr.cell? ⟨g,f+1+k,none⟩=some (.string (zc (ws.getD k []))):=(by rw[show f+1+k=f+(k+1) by omega];exact(hto.keep.cell (p:=⟨g,f+(k+1),none⟩) hgl (by rw[HH.free];simp)).trans (by simpa using cw0));have hEk:Ev B wr:=HH.ev.on (hto.keep.below HH.ev.le HH.low);have HNUM:=Qh (z0B (ws.getD k []) B wr hEk (HH.tail.2 k));have HS:=Qh (show zI (ws.take (k+1))=(zh (ws.getD k [])).map fun n=>ns++[n]from by
    rw[qJ hkw,z06,hns,List.getD_eq_getElem?_getD,List.getElem?_eq_getElem hkw];rfl)
   have HB:=Qh (Qa hpk (Qa hpl (Qa hst (Qa hpsl hto))));generalize ws.getD k []=y at*
   have hk1:(k:Int)<(n:Int):=(by omega);have hk0:(0:Int)<=(k:Int):=(by omega);clear HK hns hpk hpl hst hpsl hto cw0 hEk hkw;go_wp2_with fail;refine HNUM.mono ?_;clear HNUM;rintro e w2 ⟨⟨z,ok,rfl,hq⟩,hb2⟩;obtain⟨q1,q2⟩:=z11 hq;have k2:=Keep.of_below hb2;cases ok with
   |false=>
    have HX:=Qh (Qa (q2 (by trivial)) k2);clear hq q1 q2 hb2 k2;go_wp2_with fail;go_ret;have h1:zI (ws.take (k+1))=none:=(by rw[HS.out,HX.1];rfl);exact Or.inr ⟨66,by rw[HR.out,xz ws (k+1) h1],by decide,rfl,HB.2.2.2.2.keep.trans (HX.2.mono fun _ _ h=>h.elim)⟩
   |true=>
    have hp2:PAt w2 ownk pb m':=HB.1.kept k2;obtain⟨oa,pa,hv⟩:=hp2.ps.len;have c11:=za hp2.blk 11;have f11:=zd hp2.blk 11;simp[M.cells]at c11;have hlt:=lt_of_block hp2.blk;rw[hv]at c11;have HP:=Qh (Qa hp2 hv);have HNE:=Qh (show ∀q,m'.pv.ownBlock=some q->q≠pb from fun q hq e=>by
     have h4:=hp2.ps.tag q hq;rw[e,hp2.tag]at h4;cases h4)
    have hrow:(w2.alloc (.cells #[.int .i64 z] 3)).ownsRow 0 3 1 m'.pv m'.ps.length (m'.ps.map (Value.int .i64)):=zf hp2.ps.row ((Keep.refl (fun _=>False) w2).alloc _) fun _ _=>id;have HROW:=Qh hrow;have hbl:m'.ps.length<=3000000:=(by have:=HB.2.2.2.1;have:=HH.ps;omega);obtain⟨i0,hi,hz0,hz1,hz2⟩:=zej;have HX:=Qh (Qa (q1 (by trivial)) k2);clear hq q1 q2 hb2 k2 hp2 hv hrow;go_wp2_with(at_builtin;refine wpList_append_own_at _ rfl (.tmp 73) (.tmp 75) 37 rfl 0 3 i0 _ 1 8 Tryz.underlying37 hi hz0 hz1 hz2 rfl (by decide) m'.pv m'.ps.length (m'.ps.map (Value.int .i64)) (by rw[HP.2];rfl) HROW.out ⟨w2.heap.size,0,none⟩ 1 1 [.int .i64 z] rfl rfl (zD _ _ _) (by intro u hu;simp at hu;subst hu;rfl) (by unfold maxLen;omega) (by omega) (Nat.zero_le _) ?a2)
    case a2=>
     intro v4 w4 hown hgr _ hblk;obtain⟨g4,c4,rfl⟩:=ownsRow_succ hown;have k4:Keep (fun q=>m'.pv.ownBlock=some q) w2 w4:=((Keep.refl (fun q=>m'.pv.ownBlock=some q) w2).alloc _).trans (zp hgr);have ca4:=(k4.cell (p:=⟨pb,11,none⟩) hlt (fun h=>HNE.out _ h rfl)).trans c11;have fa4:=(k4.frozen (p:=⟨pb,11,none⟩) hlt (fun h=>HNE.out _ h rfl)).trans f11;have H4:=Qh (Qa hown (Qa hblk k4));clear hown hgr hblk k4 c11 f11;go_wp2_with fail;go_roundg(gk-1);all_goals first|omega|skip
     case rel=>
      obtain⟨own',hp1,hp2⟩:=HP.1.pick_push z H4.1 H4.2.2 (by
       rcases H4.2.1 with h|h
       ·exact Or.inl h
       ·exact Or.inr ⟨_,h,by simp⟩)
      refine⟨k+1,by omega,rfl,ns++[z],_,own',?_,hp1,?_,HB.2.2.1,?_,(HB.2.2.2.2.trans (To.kept HX.2)).trans hp2⟩
      ·rw[HS.out,HX.1];rfl
      ·have h1:=HB.2.1;show({m'.play with picks:=m'.ps++[z]}:Play)=_;rw[show m'.ps=m'.play.picks from rfl,h1];simp
      ·show(m'.ps++[z]).length=_;rw[List.length_append,HB.2.2.2.1];simp;omega
  ·obtain rfl:k=n:=(by omega);have hns2:=hns;rw[List.take_of_length_le (by rw[HN.out];exact Nat.le_refl _)]at hns2;have HX:=Qh (Qa hns2 (Qa hpk (Qa hpl (Qa hst hto))));clear HK hns hns2 hpk hpl hst hpsl hto hgk;go_wp2_with fail;go_ret;exact Or.inl ⟨_,_,_,by rw[HR.out,HX.1],rfl,HX.2.1,HX.2.2.1,HX.2.2.2.1,HX.2.2.2.2⟩
structure Few (p:Play):Prop where
 ends:p.ends.length<=16
 tasks:p.tasks.length<=16
 picks:p.picks.length<=65536
 armed:(Sc.armed p).length<=64
 last:(p.tasks.getLastD []).length<=256
theorem zfv:Few zX:=⟨by decide,by decide,by decide,by decide,by decide⟩
theorem zan(p:Play)(f:Fault):(Sc.armed (Sc.arm p f)).length=(Sc.armed p).length+1/\(Sc.arm p f).ends.length=p.ends.length/\(Sc.arm p f).tasks=p.tasks/\(Sc.arm p f).picks=p.picks:=by
 unfold Sc.arm;cases hl:p.ends.getLast? with
 |none=>
  have he:p.ends=[]:=List.getLast?_eq_none_iff.1 hl;refine⟨?_,rfl,rfl,rfl⟩;have e1:Sc.armed {p with faults:=p.faults++[f]}=p.faults++[f]:=(by unfold Sc.armed;show(match p.ends.getLast? with|some r=>r.faults|none=>p.faults++[f])=_;rw[hl]);have e2:Sc.armed p=p.faults:=(by unfold Sc.armed;rw[hl]);show(Sc.armed {p with faults:=p.faults++[f]}).length=_;rw[e1,e2];simp
 |some r=>
  obtain⟨pre,hpre⟩:∃pre,p.ends=pre++[r]:=List.getLast?_eq_some_iff.1 hl;refine⟨?_,?_,rfl,rfl⟩
  ·unfold Sc.armed;rw[hl];simp
  ·rw[hpre];simp
theorem zch{p q:Play}{k:Int}{x:Str}{ws:List Str}(h:Few p)(hk1:1<=k)(hk2:k<=7)(hf:full p k ws.length=false)(ht:zH p k x ws=.ok q):Few q:=by
 unfold zH at ht;by_cases h1:k=1
 ·rw[if_pos h1]at ht
  unfold qq at ht;split at ht
  ·split at ht
   ·cases ht
   ·split at ht
    ·cases ht
    ·cases ht;exact⟨h.ends,h.tasks,h.picks,h.armed,h.last⟩
  ·cases ht
 rw[if_neg h1]at ht;by_cases h2:k=2
 ·rw[if_pos h2]at ht
  split at ht
  ·cases ht
  ·cases ht;exact⟨h.ends,h.tasks,h.picks,h.armed,h.last⟩
 rw[if_neg h2]at ht;by_cases h3:k=3
 ·rw[if_pos h3]at ht
  have hf2:¬64<=(Sc.armed p).length:=(by unfold full at hf;rw[if_pos h3]at hf;simpa using hf);have key:∀f,Few (Sc.arm p f):=fun f=>(by obtain⟨e1,e2,e3,e4⟩:=zan p f;exact⟨by rw[e2];exact h.ends,by rw[e3];exact h.tasks,by rw[e4];exact h.picks,by rw[e1];omega,by rw[e3];exact h.last⟩);unfold yZ at ht;split at ht
  ·cases ht
  ·split at ht
   ·cases ht
   ·split at ht
    ·cases ht
    ·cases ht;exact key _
 rw[if_neg h3]at ht;by_cases h4:k=4
 ·rw[if_pos h4]at ht;have hf2:¬16<=p.tasks.length:=(by unfold full at hf;rw[if_neg h3,if_pos h4]at hf;simpa using hf);cases ht;exact⟨h.ends,by simp;omega,h.picks,h.armed,by simp[List.getLastD_eq_getLast?]⟩
 rw[if_neg h4]at ht;by_cases h5:k=5
 ·rw[if_pos h5]at ht
  have hf2:¬256<=(p.tasks.getLastD []).length:=(by unfold full at hf;rw[if_neg h3,if_neg h4,if_pos h5]at hf;simpa using hf);have key:∀c,Few (callTo p c)\/p.tasks=[]:=fun c=>by
   by_cases he:p.tasks=[]
   ·exact Or.inr he
   ·left
    obtain⟨t,hl⟩:∃t,p.tasks.getLast? =some t:=⟨_,List.getLast?_eq_some_getLast he⟩;obtain⟨pre,hpre⟩:∃pre,p.tasks=pre++[t]:=List.getLast?_eq_some_iff.1 hl;refine⟨h.ends,?_,h.picks,h.armed,?_⟩
    ·have:=h.tasks
     unfold callTo;rw[hpre]at this⊢
     simpa using this
    ·unfold callTo
     simp[List.getLastD_eq_getLast?]at hf2⊢
     omega
  have key2:∀c,Few (callTo p c):=fun c=>by
   rcases key c with h|he
   ·exact h
   ·refine⟨h.ends,?_,h.picks,h.armed,?_⟩<;>unfold callTo<;>simp[he]
  unfold qQ at ht;split at ht
  ·split at ht
   ·cases ht
   ·cases ht;exact key2 _
  ·split at ht
   ·split at ht
    ·cases ht
    ·cases ht;exact key2 _
   ·cases ht;exact key2 _
 rw[if_neg h5]at ht;by_cases h6:k=6
 ·rw[if_pos h6]at ht
  have hf2:¬65536<p.picks.length+ws.length:=(by unfold full at hf;rw[if_neg h3,if_neg h4,if_neg h5,if_pos h6]at hf;simpa using hf);split at ht
  ·cases ht
  ·rename_i l hl;cases ht;have:=qP hl;exact⟨h.ends,h.tasks,by simp;omega,h.armed,h.last⟩
 rw[if_neg h6]at ht;unfold z0o at ht;split at ht
 ·cases ht
 ·split at ht
  ·cases ht
  ·cases ht
   by_cases h7:k=7
   ·have hf2:¬16<=p.ends.length:=by
     unfold full at hf;rw[if_neg h3,if_neg h4,if_neg h5,if_neg h6,if_pos h7]at hf;simp at hf;omega
    exact⟨by simp;omega,h.tasks,h.picks,by unfold Sc.armed;simp,h.last⟩
   ·omega
theorem z1h(x:Str):0<=zk x/\zk x<=7:=by
 (unfold zk;repeat' split);all_goals omega
theorem z4C{x:Str}(h:zk x=5):zb x≠0:=by
 (unfold zk at h;repeat' split at h);all_goals first|omega|assumption
theorem Few.mem{m:M}(h:Few m.play):m.es.length<=16/\m.ts.length<=16/\m.ps.length<=65536/\(yb m).length<=64/\(zx m).length<=256:=by
 refine⟨?_,?_,h.picks,?_,?_⟩
 ·have:=h.ends;unfold M.play at this;simpa using this
 ·have:=h.tasks;unfold M.play at this;simpa using this
 ·rw[z2L];exact h.armed
 ·rw[z2p];exact h.last
def zfF(own:Nat->Option T)(pb:Nat)(r:Except Int PS)(w:World)(e:Ending)(w':World):Prop:=
 (∃own' m',r=.ok m'.ps_/\e=.returned (.int .i64 0)/\PAt w' own' pb m'/\To own own' w w')\/(∃c,r=.error c/\c≠0/\e=.returned (.int .i64 c)/\Keep (fun g=>own g≠none) w w')
theorem z4N{st:Nat}(h:st<=5):∀args w,(callFunc (stF st) args).run Tryz.prog w=.ok (.enter (stF st) args) w:=by
 obtain rfl|rfl|rfl|rfl|rfl|rfl:st=0\/st=1\/st=2\/st=3\/st=4\/st=5:=by omega
 ·exact enters_of Tryz.func17 (by kernel_rfl) rfl
 ·exact enters_of Tryz.func39 (by kernel_rfl) rfl
 ·exact enters_of Tryz.func72 (by kernel_rfl) rfl
 ·exact enters_of Tryz.func96 (by kernel_rfl) rfl
 ·exact enters_of Tryz.func109 (by kernel_rfl) rfl
 ·exact enters_of Tryz.func137 (by kernel_rfl) rfl
theorem zaG{w:World}{own:Nat->Option T}{pb:Nat}{m:M}{B g f cl:Nat}{x:Str}{ws:List Str}(k:Int)(h:TkAt w own pb m B g f cl x ws)(hk1:1<=k)(hk2:k<=7)(hk:zk x=k)(hne:k=5->m.ts≠[])(hct:zF k x ws.length=true):
  Calls Tryz.prog 48 #[.pointer (some ⟨pb,0,none⟩),.int .i64 k,.slice (some ⟨g,f,none⟩) (ws.length+1) cl] w (Res own pb m.st (zH m.play k x ws) w):=by
 obtain rfl|rfl|rfl|rfl|rfl|rfl|rfl:k=1\/k=2\/k=3\/k=4\/k=5\/k=6\/k=7:=by omega
 ·exact z96 h (by simpa[zF]using hct)
 ·exact z97 h (by simpa[zF]using hct)
 ·exact z7c h (by simpa[zF]using hct)
 ·exact z95 h
 ·exact z98 h (hne rfl) (z4C hk) hct
 ·exact z7b h (by simpa[zF]using hct)
 ·exact zaF h (by simpa[zF]using hct)
end Sc
end Go.Proofs.YtkkecpamnnojoaaGreatDoor
