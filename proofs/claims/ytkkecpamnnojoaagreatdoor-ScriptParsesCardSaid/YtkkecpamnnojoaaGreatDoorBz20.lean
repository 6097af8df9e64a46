/- A part of the proof of ScriptParses: nothing is assumed. By an AI agent. -/
import Derived.Test.YtkkecpamnnojoaaGreatDoorBz19
set_option linter.unusedVariables false
set_option linter.unusedSimpArgs false
set_option maxRecDepth 100000
set_option maxHeartbeats 32000000
namespace Go.Proofs.YtkkecpamnnojoaaGreatDoor
open Go.ChangeShapes Go.WideShapes Go.ChangeAt Go.RowKit
namespace Sc
def xH(f:Fault):List Str:=[[102,97,117,108,116],zl f.at_,zn f.kind,zl f.part]
def z14(c:Call):List Str:=if c.kind=1\/c.kind=2 then[zo c.kind,yB c.data]else if c.kind=3\/c.kind=7 then[zo c.kind]else[zo c.kind,zl c.lsn]
def z1v(l:List Call):List (List Str):=[[116,97,115,107]]::l.map z14
def z2b(l:List Int):List (List Str):=if l=[]then[]else[[112,105,99,107,115]::l.map zl]
def z6J(r:Reopen):List (List Str):=([101,110,100]::zl r.dir::r.keeps.map yH)::r.faults.map xH
def z6c(p:Play):List Str:=[[112,108,97,121],zl p.disk,zl p.segMax,zl p.base,zl p.qcap,zl p.qbytes,zl p.pmost,zl p.pbytes,yo p.linger,yo p.alpha]
def z4w(p:Play):List Str:=[[109,111,115,116],zl p.most]
def z8e(p:Play):List (List Str):=[z6c p,z4w p]++p.faults.map xH++p.tasks.flatMap z1v++z2b p.picks++p.ends.flatMap z6J
theorem z6F(l:List Fault):(l.map xH).flatMap ye=zM l:=by unfold zM;rw[List.flatMap_map];rfl
theorem zf8{c:Call}(h:c.data.length<=65536):yV c=ye (z14 c):=by
 unfold yV z14;split
 ·rw[if_neg (by omega)]
 ·split<;>rfl
theorem zet{l:List Call}(h:∀c∈l,c.data.length<=65536):(z1v l).flatMap ye=qU l:=by
 unfold z1v qU;rw[List.flatMap_cons,List.flatMap_map]
 congr 1
 induction l with
 |nil=>rfl
 |cons c l ih=>
  rw[List.flatMap_cons,List.flatMap_cons,ih fun x hx=>h x (List.mem_cons_of_mem _ hx),zf8 (h c (by simp))]
theorem zfx(r:Reopen):(z6J r).flatMap ye=xI r:=by unfold z6J xI;rw[List.flatMap_cons,z6F]
theorem zd9(l:List Int):(z2b l).flatMap ye=qt l:=by
 unfold z2b qt;split
 ·rfl
 ·simp
theorem zfC{p:Play}(h:∀l∈p.tasks,∀c∈l,c.data.length<=65536):(z8e p).flatMap ye=zT p:=by
 unfold z8e zT;simp only[List.flatMap_append,z6F,zd9];have e1:(p.tasks.flatMap z1v).flatMap ye=p.tasks.flatMap qU:=by
  rw[List.flatMap_assoc];have:∀L:List (List Call),(∀l∈L,∀c∈l,c.data.length<=65536)->L.flatMap (fun x=>(z1v x).flatMap ye)=L.flatMap qU:=by
   intro L hL
   induction L with
   |nil=>rfl
   |cons x L ih=>rw[List.flatMap_cons,List.flatMap_cons,ih fun y hy=>hL y (List.mem_cons_of_mem _ hy),zet (hL x (by simp))]
  exact this p.tasks h
 have e2:(p.ends.flatMap z6J).flatMap ye=p.ends.flatMap xI:=by
  rw[List.flatMap_assoc]
  congr 1
  funext r;exact zfx r
 rw[e1,e2];unfold z1R;simp only[List.flatMap_cons,List.flatMap_nil,List.append_nil,z6c,z4w]
structure Pt (p:Play):Prop where
 ok:PlayOk p
 faults:p.faults.length<=64/\∀f∈p.faults,1<=f.kind/\f.kind<=4
 tasks:p.tasks.length<=16/\∀l∈p.tasks,l.length<=256/\∀c∈l,zE c=true
 picks:p.picks.length<=65536
 ends:p.ends.length<=16/\∀r∈p.ends,r.faults.length<=64/\r.keeps.length<=256/\∀f∈r.faults,1<=f.kind/\f.kind<=4
theorem Pt.many{p:Play}(h:Pt p):qr p=false:=by
 unfold qr;rw[Bool.or_eq_false_iff,Bool.or_eq_false_iff];refine⟨⟨?_,?_⟩,?_⟩
 ·rw[decide_eq_false_iff_not];have:=h.faults.1;have:=h.tasks.1;have:=h.picks;have:=h.ends.1;omega
 ·rw[List.any_eq_false];intro l hl;have:=(h.tasks.2 l hl).1;simp;omega
 ·rw[List.any_eq_false];intro r hr;have:=h.ends.2 r hr;simp;omega
theorem Pt.known{p:Play}(h:Pt p):yY p=true:=by
 unfold yY;rw[Bool.and_eq_true,List.all_eq_true,List.all_eq_true];constructor
 ·intro f hf
  rw[decide_eq_true_eq];rcases List.mem_append.1 hf with hf|hf
  ·exact xR.2 (h.faults.2 f hf)
  ·obtain⟨r,hr,hf⟩:=List.mem_flatMap.1 hf;exact xR.2 ((h.ends.2 r hr).2.2 f hf)
 ·intro l hl;rw[List.all_eq_true];exact(h.tasks.2 l hl).2
theorem Pt.of{p:Play}(ok:PlayOk p)(hm:qr p=false)(hk:yY p=true):Pt p:=by
 unfold qr at hm;rw[Bool.or_eq_false_iff,Bool.or_eq_false_iff,decide_eq_false_iff_not,List.any_eq_false,List.any_eq_false]at hm;unfold yY at hk;rw[Bool.and_eq_true,List.all_eq_true,List.all_eq_true]at hk;obtain⟨⟨m1,m2⟩,m3⟩:=hm;obtain⟨k1,k2⟩:=hk;refine⟨ok,⟨by omega,fun f hf=>xR.1 (by simpa using k1 f (List.mem_append_left _ hf))⟩,⟨by omega,fun l hl=>⟨by have:=m2 l hl;simp at this;omega,?_⟩⟩,by omega,by omega,fun r hr=>?_⟩
 ·have:=k2 l hl;rw[List.all_eq_true]at this;exact this
 ·have h1:=m3 r hr;simp at h1;exact⟨by omega,by omega,fun f hf=>xR.1 (by simpa using k1 f (List.mem_append_right _ (List.mem_flatMap.2 ⟨r,hr,hf⟩)))⟩
def z0I(p:Play):Play:={p with linger:=qc p.linger,alpha:=qc p.alpha}
theorem z36{c:Call}(h:zE c=true):1<=c.kind/\c.kind<=7:=by
 (unfold zE at h;repeat' split at h);all_goals first|omega|cases h
theorem z6z{f:Fault}(hk:1<=f.kind/\f.kind<=4):∀x∈xH f,gw x=true:=by
 intro x hx;unfold xH at hx;simp at hx;rcases hx with rfl|rfl|rfl|rfl
 ·decide
 ·exact yP _
 ·exact(z1U hk).1
 ·exact yP _
theorem zdB{c:Call}(h:zE c=true):∀x∈z14 c,gw x=true:=by
 have hk:=z2z (z36 h);intro x hx;unfold z14 at hx;split at hx
 ·simp at hx
  rcases hx with rfl|rfl
  ·exact hk.1
  ·exact z4u _
 ·split at hx
  ·simp at hx;subst hx;exact hk.1
  ·simp at hx
   rcases hx with rfl|rfl
   ·exact hk.1
   ·exact yP _
theorem z2T{σ:PS}{f:Fault}(hk:1<=f.kind/\f.kind<=4)(hok:xu f)(hst:σ.st=2\/σ.st=5)(hf:(armed σ.p).length<64):z0u σ [102,97,117,108,116] [zl f.at_,zn f.kind,zl f.part]=.ok ⟨arm σ.p f,σ.st⟩:=by
 have hn:nxt σ.st 3=σ.st:=(by rcases hst with h|h<;>rw[h]<;>decide);have h:=z0h (σ:=σ) (w:=[102,97,117,108,116]) (ws:=[zl f.at_,zn f.kind,zl f.part]) (p:=arm σ.p f) 3 (by decide) (by decide) (by rw[hn];omega) (fun h=>absurd h (by decide)) (by unfold full;rw[if_pos rfl,decide_eq_false_iff_not];omega) (by simp[zF]) (by
  unfold zH;rw[if_neg (by decide),if_neg (by decide),if_pos rfl];unfold yZ;have e1:zh ([zl f.at_,zn f.kind,zl f.part].getD 0 [])=some f.at_:=xr hok.1;have e2:zq ([zl f.at_,zn f.kind,zl f.part].getD 1 [])=f.kind:=(z1U hk).2;have e3:zh ([zl f.at_,zn f.kind,zl f.part].getD 2 [])=some f.part:=xr hok.2;rw[e1,e2,e3];simp only[];rw[if_neg (by omega)])
 rw[h,hn]
theorem xg{σ σ':PS}{w:Str}{ws:List Str}{L:List (List Str)}(h:z0u σ w ws=.ok σ'):qs σ ((w::ws)::L)=qs σ' L:=by rw[qs,h]
theorem z33:∀(fs:List Fault) (p:Play),p.ends=[]->p.faults.length+fs.length<=64->(∀f∈fs,(1<=f.kind/\f.kind<=4)/\xu f)->qs ⟨p,2⟩ (fs.map xH)=.ok ⟨{p with faults:=p.faults++fs},2⟩
 |[],p,_,_,_=>by rw[List.map_nil,qs,List.append_nil]
 |f::fs,p,he,hn,hf=>by obtain⟨h1,h2⟩:=hf f (by simp);rw[List.length_cons]at hn;have ha:armed p=p.faults:=(by unfold armed;rw[he];rfl);have ha2:arm p f={p with faults:=p.faults++[f]}:=(by unfold arm;rw[he];rfl);rw[List.map_cons];unfold xH;rw[xg (z2T (σ:=⟨p,2⟩) h1 h2 (Or.inl rfl) (by show(armed p).length<64;rw[ha];omega))];show qs ⟨arm p f,2⟩ _=_;rw[ha2];have ih:=z33 fs {p with faults:=p.faults++[f]} he (by simp;omega) fun x hx=>hf x (List.mem_cons_of_mem _ hx);unfold xH at ih;rw[ih];simp
theorem z2w:∀(fs:List Fault) (p:Play) (es:List Reopen) (r:Reopen),p.ends=es++[r]->r.faults.length+fs.length<=64->(∀f∈fs,(1<=f.kind/\f.kind<=4)/\xu f)->qs ⟨p,5⟩ (fs.map xH)=.ok ⟨{p with ends:=es++[{r with faults:=r.faults++fs}]},5⟩
 |[],p,es,r,he,_,_=>by rw[List.map_nil,qs,List.append_nil,<-he]
 |f::fs,p,es,r,he,hn,hf=>by obtain⟨h1,h2⟩:=hf f (by simp);rw[List.length_cons]at hn;have ha:armed p=r.faults:=(by unfold armed;rw[he];simp);have ha2:arm p f={p with ends:=es++[{r with faults:=r.faults++[f]}]}:=(by unfold arm;rw[he];simp);rw[List.map_cons];unfold xH;rw[xg (z2T (σ:=⟨p,5⟩) h1 h2 (Or.inr rfl) (by show(armed p).length<64;rw[ha];omega))];show qs ⟨arm p f,5⟩ _=_;rw[ha2];have ih:=z2w fs {p with ends:=es++[{r with faults:=r.faults++[f]}]} es {r with faults:=r.faults++[f]} rfl (by simp;omega) fun x hx=>hf x (List.mem_cons_of_mem _ hx);unfold xH at ih;rw[ih];simp
theorem z4Q{p:Play}{ts:List (List Call)}{l:List Call}(h:p.tasks=ts++[l])(c:Call):callTo p c={p with tasks:=ts++[l++[c]]}:=by unfold callTo;rw[h];simp[List.getLastD_eq_getLast?]
theorem z9b{p:Play}{ts:List (List Call)}{l:List Call}(h:p.tasks=ts++[l])(hl:l.length<256){c:Call}(hr:zE c=true)(hi:IsI c.lsn){w:Str}{ws:List Str}(hw:z14 c=w::ws):z0u ⟨p,3⟩ w ws=.ok ⟨{p with tasks:=ts++[l++[c]]},3⟩:=by
 obtain⟨h1,h2,h3⟩:=z2z (z36 hr);have hfull:∀n,full p 5 n=false:=fun n=>(by unfold full;rw[if_neg (by decide),if_neg (by decide),if_pos rfl,decide_eq_false_iff_not,h];simp[List.getLastD_eq_getLast?];exact hl);have hne:p.tasks≠[]:=(by rw[h];simp);have hn:nxt 3 5=3:=(by decide);have key:∀ws,zF 5 (zo c.kind) ws.length=true->qQ p (zo c.kind) ws=.ok (callTo p c)->z0u ⟨p,3⟩ (zo c.kind) ws=.ok ⟨{p with tasks:=ts++[l++[c]]},3⟩:=by
  intro ws hc ht;have:=z0h (σ:=⟨p,3⟩) (w:=zo c.kind) (ws:=ws) (p:=callTo p c) 5 h2 (by decide) (by show nxt 3 5≠6;rw[hn];decide) (fun _=>hne) (hfull _) hc (by
   unfold zH;rw[if_neg (by decide),if_neg (by decide),if_neg (by decide),if_neg (by decide),if_pos rfl];exact ht)
  rw[this,z4Q h];rfl
 have hct:∀n,zF 5 (zo c.kind) n=if c.kind=3\/c.kind=7 then decide (n=0)else decide (n=1):=fun n=>(by unfold zF;rw[if_neg (by decide),if_neg (by decide),if_neg (by decide),if_neg (by decide),if_pos rfl,h3]);have hcf:∀ws,qQ p (zo c.kind) ws=(if c.kind=1\/c.kind=2 then match y9 (ws.getD 0 []) true with
  |none=>.error 64
  |some b=>.ok (callTo p ⟨c.kind,0,b⟩)
 else if c.kind=4\/c.kind=5\/c.kind=6 then match zh (ws.getD 0 [])with
  |none=>.error 66
  |some n=>.ok (callTo p ⟨c.kind,n,[]⟩)
 else .ok (callTo p ⟨c.kind,0,[]⟩)):=fun ws=>by unfold qQ;rw[h3];all_goals rfl
 obtain⟨kind,lsn,data⟩:=c;simp only[]at hcf hct h1 h2 h3 hi key;unfold z14 at hw;simp only[]at hw;unfold zE at hr;simp only[]at hr;by_cases k1:kind=1\/kind=2
 ·rw[if_pos k1]at hw hr
  cases hw;refine key _ ?_ ?_
  ·rw[hct,if_neg (by omega)];rfl
  ·rw[hcf,if_pos k1];have e:y9 ([yB data].getD 0 []) true=some data:=z6x data true (Or.inr rfl);rw[e];have:lsn=0:=(by simpa using hr);rw[this]
 ·rw[if_neg k1]at hw hr
  by_cases k2:kind=3\/kind=7
  ·rw[if_pos k2]at hw hr
   cases hw;refine key _ ?_ ?_
   ·rw[hct,if_pos k2];rfl
   ·rw[hcf,if_neg k1,if_neg (by omega)];have:lsn=0/\data=[]:=(by simpa using hr);rw[this.1,this.2]
  ·rw[if_neg k2]at hw hr
   cases hw;have k3:kind=4\/kind=5\/kind=6:=(by apply Classical.byContradiction;intro k3;rw[if_neg k3]at hr;cases hr);rw[if_pos k3]at hr;refine key _ ?_ ?_
   ·rw[hct,if_neg k2];rfl
   ·rw[hcf,if_neg k1,if_pos k3];have e:zh ([zl lsn].getD 0 [])=some lsn:=xr hi;rw[e];have:data=[]:=(by simpa using hr);rw[this]
theorem z89(c:Call):∃w ws,z14 c=w::ws:=by
 unfold z14;split
 ·exact⟨_,_,rfl⟩
 ·split<;>exact⟨_,_,rfl⟩
theorem z4i:∀(cs:List Call) (p:Play) (ts:List (List Call)) (l:List Call),p.tasks=ts++[l]->l.length+cs.length<=256->(∀c∈cs,zE c=true/\IsI c.lsn)->qs ⟨p,3⟩ (cs.map z14)=.ok ⟨{p with tasks:=ts++[l++cs]},3⟩
 |[],p,ts,l,h,_,_=>by rw[List.map_nil,qs,List.append_nil,<-h]
 |c::cs,p,ts,l,h,hn,hc=>by obtain⟨h1,h2⟩:=hc c (by simp);rw[List.length_cons]at hn;obtain⟨w,ws,hw⟩:=z89 c;rw[List.map_cons,hw,xg (z9b h (by omega) h1 h2 hw)];rw[z4i cs {p with tasks:=ts++[l++[c]]} ts (l++[c]) rfl (by simp;omega) fun x hx=>hc x (List.mem_cons_of_mem _ hx)];simp
theorem zaX{p:Play}{st:Nat}(hst:st=2\/st=3)(hp:p.tasks.length<16){l:List Call}(hl:l.length<=256)(hc:∀c∈l,zE c=true/\IsI c.lsn):qs ⟨p,st⟩ (z1v l)=.ok ⟨{p with tasks:=p.tasks++[l]},3⟩:=by
 unfold z1v;have hn:nxt st 4=3:=(by rcases hst with h|h<;>rw[h]<;>decide);have h:=z0h (σ:=⟨p,st⟩) (w:=[116,97,115,107]) (ws:=[]) (p:={p with tasks:=p.tasks++[[]]}) 4 (by decide) (by decide) (by show nxt st 4≠6;rw[hn];decide) (fun h=>absurd h (by decide)) (by unfold full;rw[if_neg (by decide),if_pos rfl,decide_eq_false_iff_not];show¬16<=p.tasks.length;omega) (by simp[zF]) (by
  unfold zH;rw[if_neg (by decide),if_neg (by decide),if_neg (by decide),if_pos rfl])
 rw[xg h];show qs ⟨_,nxt st 4⟩ _=_;rw[hn,z4i l {p with tasks:=p.tasks++[[]]} p.tasks [] rfl (by simpa using hl) hc];simp
theorem z4h:∀(ts:List (List Call)) (p:Play) (st:Nat),(st=2\/st=3)->p.tasks.length+ts.length<=16->(∀l∈ts,l.length<=256/\∀c∈l,zE c=true/\IsI c.lsn)->∃st',(st'=2\/st'=3)/\qs ⟨p,st⟩ (ts.flatMap z1v)=.ok ⟨{p with tasks:=p.tasks++ts},st'⟩
 |[],p,st,hst,_,_=>⟨st,hst,by rw[List.flatMap_nil,qs,List.append_nil]⟩
 |l::ts,p,st,hst,hn,h=>by obtain⟨h1,h2⟩:=h l (by simp);rw[List.length_cons]at hn;obtain⟨st',h3,h4⟩:=z4h ts {p with tasks:=p.tasks++[l]} 3 (Or.inr rfl) (by simp;omega) fun x hx=>h x (List.mem_cons_of_mem _ hx);refine⟨st',h3,?_⟩;rw[List.flatMap_cons,z02 _ _ _ _ (zaX hst (by omega) h1 h2),h4];simp
theorem z2d:∀l:List Int,(∀n∈l,IsI n)->zI (l.map zl)=some l
 |[],_=>rfl
 |n::l,h=>by rw[List.map_cons,zI,xr (h n (by simp)),z2d l fun x hx=>h x (List.mem_cons_of_mem _ hx)];rfl
theorem z9h{p:Play}{st:Nat}(hst:st=2\/st=3){l:List Int}(hp:p.picks=[])(hl:l.length<=65536)(h:∀n∈l,IsI n):∃st',(st'=2\/st'=3\/st'=4)/\qs ⟨p,st⟩ (z2b l)=.ok ⟨{p with picks:=l},st'⟩:=by
 unfold z2b;by_cases h0:l=[]
 ·rw[if_pos h0];refine⟨st,by omega,?_⟩;rw[qs,h0,<-hp]
 ·rw[if_neg h0]
  have hn:nxt st 6=4:=(by rcases hst with h|h<;>rw[h]<;>decide);have hpos:0<l.length:=List.length_pos_iff.2 h0;have h:=z0h (σ:=⟨p,st⟩) (w:=[112,105,99,107,115]) (ws:=l.map zl) (p:={p with picks:=p.picks++l}) 6 (by decide) (by decide) (by show nxt st 6≠6;rw[hn];decide) (fun h=>absurd h (by decide)) (by
    unfold full;rw[if_neg (by decide),if_neg (by decide),if_neg (by decide),if_pos rfl,decide_eq_false_iff_not,List.length_map];show¬65536<p.picks.length+l.length;rw[hp];simp;omega) (by
    unfold zF;rw[if_neg (by decide),if_neg (by decide),if_neg (by decide),if_neg (by decide),if_neg (by decide),decide_eq_true_eq,List.length_map];omega) (by
    unfold zH;rw[if_neg (by decide),if_neg (by decide),if_neg (by decide),if_neg (by decide),if_neg (by decide),if_pos rfl,z2d l h])
  rw[xg h];refine⟨4,by omega,?_⟩;show qs ⟨_,nxt st 6⟩ []=_;rw[hn,hp];rfl
theorem z3n:∀l:List Kp,(∀k∈l,IsI k.n/\k.junk.length<=65536)->zO (l.map yH)=.ok l
 |[],_=>rfl
 |k::l,h=>by obtain⟨h1,h2⟩:=h k (by simp);rw[List.map_cons,zO,z9U k h1 h2];simp only[];rw[z3n l fun x hx=>h x (List.mem_cons_of_mem _ hx)]
theorem zcY{p:Play}{st:Nat}(hst:2<=st/\st<=5)(hp:p.ends.length<16){r:Reopen}(hr:z3Q r)(h1:r.faults.length<=64)(h2:r.keeps.length<=256)(h3:∀f∈r.faults,1<=f.kind/\f.kind<=4)(h4:∀k∈r.keeps,k.junk.length<=65536):qs ⟨p,st⟩ (z6J r)=.ok ⟨{p with ends:=p.ends++[r]},5⟩:=by
 obtain⟨dir,keeps,faults⟩:=r;simp only[]at h1 h2 h3 h4;unfold z6J;simp only[];have hn:nxt st 7=5:=(by have:st=2\/st=3\/st=4\/st=5:=(by omega);rcases this with h|h|h|h<;>rw[h]<;>decide);have h:=z0h (σ:=⟨p,st⟩) (w:=[101,110,100]) (ws:=zl dir::keeps.map yH) (p:={p with ends:=p.ends++[⟨dir,keeps,[]⟩]}) 7 (by decide) (by decide) (by show nxt st 7≠6;rw[hn];decide) (fun h=>absurd h (by decide)) (by
   unfold full;rw[if_neg (by decide),if_neg (by decide),if_neg (by decide),if_neg (by decide),if_pos rfl,List.length_cons,List.length_map];have e1:decide (16<=p.ends.length)=false:=(by rw[decide_eq_false_iff_not];omega);have e2:decide (257<keeps.length+1)=false:=(by rw[decide_eq_false_iff_not];omega);show(decide (16<=p.ends.length)||_)=false;rw[e1,e2];rfl) (by
   unfold zF;rw[if_neg (by decide),if_neg (by decide),if_neg (by decide),if_neg (by decide),if_neg (by decide),decide_eq_true_eq,List.length_cons];omega) (by
   unfold zH;rw[if_neg (by decide),if_neg (by decide),if_neg (by decide),if_neg (by decide),if_neg (by decide),if_neg (by decide)];unfold z0o;have e1:zh ((zl dir::keeps.map yH).getD 0 [])=some dir:=xr hr.1;have e2:(zl dir::keeps.map yH).drop 1=keeps.map yH:=rfl;rw[e1,e2,z3n keeps fun k hk=>⟨hr.2.1 k hk,h4 k hk⟩])
 rw[xg h];show qs ⟨_,nxt st 7⟩ _=_;rw[hn,z2w faults {p with ends:=p.ends++[⟨dir,keeps,[]⟩]} p.ends ⟨dir,keeps,[]⟩ rfl (by simpa using h1) fun f hf=>⟨h3 f hf,hr.2.2 f hf⟩];rfl
theorem z5X:∀(es:List Reopen) (p:Play) (st:Nat),(2<=st/\st<=5)->p.ends.length+es.length<=16->(∀r∈es,z3Q r/\r.faults.length<=64/\r.keeps.length<=256/\(∀f∈r.faults,1<=f.kind/\f.kind<=4)/\∀k∈r.keeps,k.junk.length<=65536)->∃st',(2<=st'/\st'<=5)/\qs ⟨p,st⟩ (es.flatMap z6J)=.ok ⟨{p with ends:=p.ends++es},st'⟩
 |[],p,st,hst,_,_=>⟨st,hst,by rw[List.flatMap_nil,qs,List.append_nil]⟩
 |r::es,p,st,hst,hn,h=>by obtain⟨h1,h2,h3,h4,h5⟩:=h r (by simp);rw[List.length_cons]at hn;obtain⟨st',h6,h7⟩:=z5X es {p with ends:=p.ends++[r]} 5 (by omega) (by simp;omega) fun x hx=>h x (List.mem_cons_of_mem _ hx);refine⟨st',h6,?_⟩;rw[List.flatMap_cons,z02 _ _ _ _ (zcY hst (by omega) h1 h2 h3 h4 h5),h7];simp
theorem zaY{p:Play}(hok:PlayOk p)(hR:∀u,u<18446744073709551616->zJ (yo u)=(qc u,0)):
  qs ⟨zX,0⟩ [z6c p,z4w p]=.ok ⟨{z0I p with faults:=[],tasks:=[],picks:=[],ends:=[]},2⟩:=by
 obtain⟨disk,segMax,base,qcap,qbytes,pmost,pbytes,linger,alpha,faults,tasks,picks,most,ends⟩:=p;have k0:=hok.disk;have k1:=hok.segMax;have k2:=hok.base;have k3:=hok.qcap;have k4:=hok.qbytes;have k5:=hok.pmost;have k6:=hok.pbytes;have k7:=hok.linger;have k8:=hok.alpha;have k9:=hok.most;simp only[]at k0 k1 k2 k3 k4 k5 k6 k7 k8 k9;unfold z6c z4w;simp only[]
 have h:=z0h (σ:=⟨zX,0⟩) (w:=[112,108,97,121]) (ws:=[zl disk,zl segMax,zl base,zl qcap,zl qbytes,zl pmost,zl pbytes,yo linger,yo alpha])
  (p:={zX with disk:=disk,segMax:=segMax,base:=base,qcap:=qcap,qbytes:=qbytes,pmost:=pmost,pbytes:=pbytes,linger:=qc linger,alpha:=qc alpha}) 1 (by decide) (by decide) (by decide) (fun h=>absurd h (by decide)) (by simp[full]) (by simp[zF]) (by
   unfold zH;rw[if_pos rfl];unfold qq;have e1:zI ([zl disk,zl segMax,zl base,zl qcap,zl qbytes,zl pmost,zl pbytes,yo linger,yo alpha].take 7)=some [disk,segMax,base,qcap,qbytes,pmost,pbytes]:=z2d [disk,segMax,base,qcap,qbytes,pmost,pbytes] (by
    intro n hn;simp at hn;rcases hn with rfl|rfl|rfl|rfl|rfl|rfl|rfl<;>assumption)
   have e2:zJ ([zl disk,zl segMax,zl base,zl qcap,zl qbytes,zl pmost,zl pbytes,yo linger,yo alpha].getD 7 [])=(qc linger,0):=hR _ k7;have e3:zJ ([zl disk,zl segMax,zl base,zl qcap,zl qbytes,zl pmost,zl pbytes,yo linger,yo alpha].getD 8 [])=(qc alpha,0):=hR _ k8;rw[e1,e2,e3];rfl)
 rw[xg h]
 have h2:=z0h (σ:=⟨{zX with disk:=disk,segMax:=segMax,base:=base,qcap:=qcap,qbytes:=qbytes,pmost:=pmost,pbytes:=pbytes,linger:=qc linger,alpha:=qc alpha},1⟩) (w:=[109,111,115,116]) (ws:=[zl most])
  (p:={zX with disk:=disk,segMax:=segMax,base:=base,qcap:=qcap,qbytes:=qbytes,pmost:=pmost,pbytes:=pbytes,linger:=qc linger,alpha:=qc alpha,most:=most}) 2 (by decide) (by decide) (by show nxt 1 2≠6;decide) (fun h=>absurd h (by decide)) (by simp[full]) (by simp[zF]) (by
   unfold zH;rw[if_neg (by decide),if_pos rfl];have e1:zh ([zl most].getD 0 [])=some most:=xr k9;rw[e1])
 show qs ⟨_,1⟩ _=_;rw[xg h2];rfl
theorem z1T{α:Type}(f:α->Str):∀(l:List α) (x:α),x∈l->(f x).length<=(l.flatMap f).length
 |[],x,h=>by simp at h
 |y::l,x,h=>by
  rw[List.flatMap_cons,List.length_append];rcases List.mem_cons.1 h with rfl|h
  ·omega
  ·have:=z1T f l x h;omega
theorem ze0:∀(ws:List Str) (x:Str),x∈ws->x.length<=(bod ws).length
 |[],x,h=>by simp at h
 |w::ws,x,h=>by
  unfold bod;rw[List.length_append];rcases List.mem_cons.1 h with rfl|h
  ·omega
  ·have:=z1T (fun x=>32::x) ws x h;simp only[List.length_cons]at this;omega
theorem z9W{p:Play}(hn:(zT p).length<=65536)(hr:∀l∈p.tasks,∀c∈l,zE c=true):(∀l∈p.tasks,∀c∈l,c.data.length<=65536)/\∀r∈p.ends,∀k∈r.keeps,k.junk.length<=65536:=by
 unfold zT at hn;simp only[List.length_append]at hn;constructor
 ·intro l hl c hc
  have h1:=z1T qU p.tasks l hl;unfold qU at h1;rw[List.length_append]at h1;have h2:=z1T yV l c hc;have h3:(yV c).length<=65536:=(by unfold qU at hn;omega);apply Classical.byContradiction;intro h4;have hk:=hr l hl c hc;unfold zE at hk;unfold yV at h3;by_cases k1:c.kind=1\/c.kind=2
  ·rw[if_pos k1,if_pos (by omega)]at h3;omega
  ·rw[if_neg k1]at hk
   by_cases k2:c.kind=3\/c.kind=7
   ·rw[if_pos k2]at hk;simp at hk;rw[hk.2]at h4;simp at h4
   ·rw[if_neg k2]at hk
    split at hk
    ·simp at hk;rw[hk]at h4;simp at h4
    ·cases hk
 ·intro r hr k hk
  have h1:=z1T xI p.ends r hr;unfold xI ye at h1;simp only[List.length_append]at h1;have h2:=ze0 ([101,110,100]::zl r.dir::r.keeps.map yH) (yH k) (by simp;exact Or.inr (Or.inr ⟨k,hk,rfl⟩));have h3:(yH k).length<=65536:=(by unfold xI ye at hn;omega);apply Classical.byContradiction;intro h4;have hj:k.junk≠[]:=(by intro e;rw[e]at h4;simp at h4);unfold yH at h3;rw[if_neg hj,List.length_append,List.length_cons]at h3;have h5:k.junk.take 65536≠[]:=by
   intro e;rcases List.take_eq_nil_iff.1 e with e|e
   ·omega
   ·exact hj e
  rw[z9H h5,z2G,List.length_take]at h3;omega
theorem z8b{p:Play}(h:Pt p)(hn:(zT p).length<=65536)(hR:∀u,u<18446744073709551616->zJ (yo u)=(qc u,0))(hG:∀u,u<18446744073709551616->gw (yo u)=true):yl (zT p)=(z0I p,0,0):=by
 obtain⟨hd,hj⟩:=z9W hn fun l hl c hc=>(h.tasks.2 l hl).2 c hc;have hgood:∀ws∈z8e p,∀x∈ws,gw x=true:=by
  intro ws hws x hx;unfold z8e at hws;simp only[List.mem_append]at hws;rcases hws with(((hws|hws)|hws)|hws)|hws
  ·rcases List.mem_cons.1 hws with rfl|hws
   ·unfold z6c at hx
    simp at hx;rcases hx with rfl|rfl|rfl|rfl|rfl|rfl|rfl|rfl|rfl|rfl
    ·decide
    ·exact yP _
    ·exact yP _
    ·exact yP _
    ·exact yP _
    ·exact yP _
    ·exact yP _
    ·exact yP _
    ·exact hG _ h.ok.linger
    ·exact hG _ h.ok.alpha
   ·obtain rfl:ws=z4w p:=by simpa using hws
    unfold z4w at hx;simp at hx;rcases hx with rfl|rfl
    ·decide
    ·exact yP _
  ·obtain⟨f,hf,rfl⟩:=List.mem_map.1 hws;exact z6z (h.faults.2 f hf) x hx
  ·obtain⟨l,hl,hws⟩:=List.mem_flatMap.1 hws
   unfold z1v at hws;rcases List.mem_cons.1 hws with rfl|hws
   ·obtain rfl:x=[116,97,115,107]:=(by simpa using hx);decide
   ·obtain⟨c,hc,rfl⟩:=List.mem_map.1 hws;exact zdB ((h.tasks.2 l hl).2 c hc) x hx
  ·unfold z2b at hws
   split at hws
   ·simp at hws
   ·obtain rfl:ws=_:=by simpa using hws
    rcases List.mem_cons.1 hx with rfl|hx
    ·decide
    ·obtain⟨n,-,rfl⟩:=List.mem_map.1 hx;exact yP _
  ·obtain⟨r,hr,hws⟩:=List.mem_flatMap.1 hws
   unfold z6J at hws;rcases List.mem_cons.1 hws with rfl|hws
   ·rcases List.mem_cons.1 hx with rfl|hx
    ·decide
    ·rcases List.mem_cons.1 hx with rfl|hx
     ·exact yP _
     ·obtain⟨k,-,rfl⟩:=List.mem_map.1 hx;exact zbR _
   ·obtain⟨f,hf,rfl⟩:=List.mem_map.1 hws;exact z6z ((h.ends.2 r hr).2.2 f hf) x hx
 have hrun:∃st,2<=st/\qs ⟨zX,0⟩ (z8e p)=.ok ⟨z0I p,st⟩:=(by unfold z8e;have e1:=zaY h.ok hR;have e2:=z33 p.faults {z0I p with faults:=[],tasks:=[],picks:=[],ends:=[]} rfl (by simpa using h.faults.1) fun f hf=>⟨h.faults.2 f hf,h.ok.faults f hf⟩;obtain⟨s1,hs1,e3⟩:=z4h p.tasks {z0I p with tasks:=[],picks:=[],ends:=[]} 2 (Or.inl rfl) (by simpa using h.tasks.1) fun l hl=>⟨(h.tasks.2 l hl).1,fun c hc=>⟨(h.tasks.2 l hl).2 c hc,h.ok.calls l hl c hc⟩⟩;obtain⟨s2,hs2,e4⟩:=z9h (p:={z0I p with picks:=[],ends:=[]}) hs1 (l:=p.picks) rfl h.picks h.ok.picks;obtain⟨s3,hs3,e5⟩:=z5X p.ends {z0I p with ends:=[]} s2 (by omega) (by simpa using h.ends.1) fun r hr=>⟨h.ok.ends r hr,(h.ends.2 r hr).1,(h.ends.2 r hr).2.1,(h.ends.2 r hr).2.2,hj r hr⟩;refine⟨s3,hs3.1,?_⟩;rw[List.append_assoc,List.append_assoc,List.append_assoc];exact(z02 _ _ _ _ e1).trans ((z02 _ _ _ _ e2).trans ((z02 _ _ _ _ e3).trans ((z02 _ _ _ _ e4).trans e5))));obtain⟨st,hst,hr⟩:=hrun;have:=z9E (z8e p) hgood ⟨zX,0⟩ ⟨z0I p,st⟩ 0 hr;rw[zfC hd]at this;unfold yl;rw[if_neg (by omega),this];simp only[];rw[if_neg (by omega)]
structure Sml (N:Nat) (p:Play):Prop where
 data:∀l∈p.tasks,∀c∈l,c.data.length<=N
 junk:∀r∈p.ends,∀k∈r.keeps,k.junk.length<=N
structure Inv (p:Play):Prop where
 pt:Pt p
 sm:Sml 65536 p
theorem zdv:Inv zX:=by refine⟨⟨⟨?_,?_,?_,?_,?_,?_,?_,by decide,by decide,?_,?_,?_,?_,?_⟩,?_,?_,?_,?_⟩,?_,?_⟩<;>simp[zX,IsI]
theorem z4s:∀(n:Nat) (s b:Str),s.length<=n->zL s=some b->b.length<=s.length
 |_,[],b,_,h=>by rw[zL]at h;cases h;exact Nat.le_refl _
 |_,[_],b,_,h=>by rw[zL]at h;cases h
 |0,x::y::s,b,hn,h=>by simp at hn
 |n+1,x::y::s,b,hn,h=>by
  rw[zL]at h;split at h
  ·cases h
  ·cases hp:zL s with
   |none=>rw[hp]at h;cases h
   |some r=>
    rw[hp]at h;cases h;have:=z4s n s r (by simp at hn;omega) hp;simp;omega
theorem z8J{s b:Str}{d:Bool}(h:y9 s d=some b):b.length<=s.length:=by
 unfold y9 at h;split at h
 ·cases h;simp
 ·split at h
  ·cases h
  ·exact z4s _ s b (Nat.le_refl _) h
theorem z68(s:Str):(zJ s).1<18446744073709551616:=by
 unfold zJ;split
 ·rename_i h;exact h.choose_spec.lt
 ·show(0:Nat)<_;decide
theorem z1e:∀(ws:List Str) (l:List Int),zI ws=some l->l.length=ws.length/\∀n∈l,IsI n
 |[],l,h=>by rw[zI]at h;cases h;exact⟨rfl,fun n hn=>by simp at hn⟩
 |s::ws,l,h=>by
  rw[zI]at h;cases hs:zh s with
  |none=>rw[hs]at h;cases h
  |some n=>
   rw[hs]at h;cases hr:zI ws with
   |none=>rw[hr]at h;cases h
   |some r=>
    rw[hr]at h;cases h;obtain⟨h1,h2⟩:=z1e ws r hr;refine⟨by simp[h1],fun x hx=>?_⟩;rcases List.mem_cons.1 hx with rfl|hx
    ·exact qk hs
    ·exact h2 x hx
theorem zal(n:Nat)(s:Str):(yt n s).length<=s.length:=by
 cases s with
 |nil=>simp[yt]
 |cons c s=>exact Nat.le_of_lt (z0r n (c::s) (by simp))
theorem z6s{s:Str}{k:Kp}(h:yS s=.ok k):IsI k.n/\k.junk.length<=s.length:=by
 unfold yS at h;split at h
 ·cases h
 ·rename_i n hn
  split at h
  ·split at h
   ·cases h
   ·rename_i b hb;cases h;refine⟨qk hn,?_⟩;have h1:=z8J hb;have h2:=zal 58 s;unfold yt at h2;exact Nat.le_trans h1 h2
  ·cases h;exact⟨qk hn,Nat.zero_le _⟩
theorem z4D:∀(ws:List Str) (l:List Kp),zO ws=.ok l->l.length=ws.length/\∀k∈l,IsI k.n/\∃s∈ws,k.junk.length<=s.length
 |[],l,h=>by rw[zO]at h;cases h;exact⟨rfl,fun n hn=>by simp at hn⟩
 |s::ws,l,h=>by
  rw[zO]at h;cases hs:yS s with
  |error e=>rw[hs]at h;cases h
  |ok k=>
   rw[hs]at h;simp only[]at h;cases hr:zO ws with
   |error e=>rw[hr]at h;cases h
   |ok r=>
    rw[hr]at h;cases h;obtain⟨h1,h2⟩:=z4D ws r hr;refine⟨by simp[h1],fun x hx=>?_⟩;rcases List.mem_cons.1 hx with rfl|hx
    ·exact⟨(z6s hs).1,s,by simp,(z6s hs).2⟩
    ·obtain⟨h3,t,h4,h5⟩:=h2 x hx;exact⟨h3,t,List.mem_cons_of_mem _ h4,h5⟩
theorem z2C(s:Str):0<=zq s/\zq s<=4:=by
 (unfold zq;repeat' split);all_goals omega
theorem z3H(s:Str):0<=zb s/\zb s<=7:=by
 (unfold zb;repeat' split);all_goals omega
theorem zdu{p:Play}{f:Fault}(h:Inv p)(hf:xu f)(hk:1<=f.kind/\f.kind<=4)(hl:(armed p).length<64):Inv (arm p f):=by
 unfold arm;unfold armed at hl;cases he:p.ends.getLast? with
 |none=>
  rw[he]at hl;simp only[]at hl⊢
  refine⟨⟨{h.pt.ok with faults:=?_},⟨?_,?_⟩,h.pt.tasks,h.pt.picks,h.pt.ends⟩,h.sm.data,h.sm.junk⟩
  ·intro x hx
   rcases List.mem_append.1 hx with hx|hx
   ·exact h.pt.ok.faults x hx
   ·obtain rfl:x=f:=(by simpa using hx);exact hf
  ·simp;omega
  ·intro x hx
   rcases List.mem_append.1 hx with hx|hx
   ·exact h.pt.faults.2 x hx
   ·obtain rfl:x=f:=(by simpa using hx);exact hk
 |some r=>
  rw[he]at hl;simp only[]at hl⊢
  obtain⟨pre,hpre⟩:∃pre,p.ends=pre++[r]:=List.getLast?_eq_some_iff.1 he;have hd:p.ends.dropLast=pre:=(by rw[hpre];simp);rw[hd];have hr:r∈p.ends:=(by rw[hpre];simp);have hpm:∀x∈pre,x∈p.ends:=fun x hx=>(by rw[hpre];simp[hx]);have hE:=h.pt.ends;have hrE:=hE.2 r hr;have hlen:pre.length+1<=16:=(by have:=hE.1;rw[hpre]at this;simpa using this);refine⟨⟨{h.pt.ok with ends:=?_},h.pt.faults,h.pt.tasks,h.pt.picks,⟨?_,?_⟩⟩,h.sm.data,?_⟩
  ·intro x hx
   rcases List.mem_append.1 hx with hx|hx
   ·exact h.pt.ok.ends x (hpm x hx)
   ·obtain rfl:x={r with faults:=r.faults++[f]}:=by simpa using hx
    have:=h.pt.ok.ends r hr;refine⟨this.1,this.2.1,fun y hy=>?_⟩;rcases List.mem_append.1 hy with hy|hy
    ·exact this.2.2 y hy
    ·obtain rfl:y=f:=(by simpa using hy);exact hf
  ·simp;omega
  ·intro x hx
   rcases List.mem_append.1 hx with hx|hx
   ·exact hE.2 x (hpm x hx)
   ·obtain rfl:x={r with faults:=r.faults++[f]}:=by simpa using hx
    refine⟨by simp;omega,hrE.2.1,fun y hy=>?_⟩;rcases List.mem_append.1 hy with hy|hy
    ·exact hrE.2.2 y hy
    ·obtain rfl:y=f:=(by simpa using hy);exact hk
  ·intro x hx
   rcases List.mem_append.1 hx with hx|hx
   ·exact h.sm.junk x (hpm x hx)
   ·obtain rfl:x={r with faults:=r.faults++[f]}:=(by simpa using hx);exact h.sm.junk r hr
theorem z3p{p:Play}{c:Call}(h:Inv p)(hne:p.tasks≠[])(hr:zE c=true)(hi:IsI c.lsn)(hd:c.data.length<=65536)(hl:(p.tasks.getLastD []).length<256):Inv (callTo p c):=by
 obtain⟨t,ht⟩:∃t,p.tasks.getLast? =some t:=⟨_,List.getLast?_eq_some_getLast hne⟩;obtain⟨pre,hpre⟩:∃pre,p.tasks=pre++[t]:=List.getLast?_eq_some_iff.1 ht;have hl':t.length<256:=(by rw[hpre]at hl;simpa[List.getLastD_eq_getLast?]using hl);rw[z4Q hpre];have htm:t∈p.tasks:=(by rw[hpre];simp);have hpm:∀x∈pre,x∈p.tasks:=fun x hx=>(by rw[hpre];simp[hx]);have hlen:pre.length+1<=16:=(by have:=h.pt.tasks.1;rw[hpre]at this;simpa using this);have key:∀(Q:Call->Prop),(∀l∈p.tasks,∀x∈l,Q x)->Q c->∀l∈pre++[t++[c]],∀x∈l,Q x:=by
  intro Q h1 h2 l hl x hx;rcases List.mem_append.1 hl with hl|hl
  ·exact h1 l (hpm l hl) x hx
  ·obtain rfl:l=t++[c]:=by simpa using hl
   rcases List.mem_append.1 hx with hx|hx
   ·exact h1 t htm x hx
   ·obtain rfl:x=c:=(by simpa using hx);exact h2
 refine⟨⟨{h.pt.ok with calls:=key (fun x=>IsI x.lsn) h.pt.ok.calls hi},h.pt.faults,⟨by simp;omega,fun l hl=>⟨?_,key (fun x=>zE x=true) (fun l hl=>(h.pt.tasks.2 l hl).2) hr l hl⟩⟩,h.pt.picks,h.pt.ends⟩,key (fun x=>x.data.length<=65536) h.sm.data hd,h.sm.junk⟩;rcases List.mem_append.1 hl with hl|hl
 ·exact(h.pt.tasks.2 l (hpm l hl)).1
 ·obtain rfl:l=t++[c]:=(by simpa using hl);simp;omega
theorem zc6{ws:List Str}{N:Nat}(h:∀x∈ws,x.length<=N)(i:Nat):(ws.getD i []).length<=N:=by
 rcases Nat.lt_or_ge i ws.length with hi|hi
 ·rw[List.getD_eq_getElem?_getD,List.getElem?_eq_getElem hi];exact h _ (List.getElem_mem hi)
 ·rw[List.getD_eq_getElem?_getD,List.getElem?_eq_none hi];simp
theorem zbS{p q:Play}{k:Int}{x:Str}{ws:List Str}(h:Inv p)(hk1:1<=k)(hk2:k<=7)(hkx:zk x=k)(hne:k=5->p.tasks≠[])(hws:∀s∈ws,s.length<=65536)(hf:full p k ws.length=false)(ht:zH p k x ws=.ok q):Inv q:=by
 unfold zH at ht;by_cases h1:k=1
 ·rw[if_pos h1]at ht
  unfold qq at ht;split at ht
  ·rename_i a b c d e f g hl
   have hr:=(z1e _ _ hl).2;split at ht
   ·cases ht
   ·split at ht
    ·cases ht
    ·cases ht;exact⟨⟨{h.pt.ok with disk:=hr a (by simp),segMax:=hr b (by simp),base:=hr c (by simp),qcap:=hr d (by simp),qbytes:=hr e (by simp),pmost:=hr f (by simp),pbytes:=hr g (by simp),linger:=z68 _,alpha:=z68 _},h.pt.faults,h.pt.tasks,h.pt.picks,h.pt.ends⟩,h.sm.data,h.sm.junk⟩
  ·cases ht
 rw[if_neg h1]at ht;by_cases h2:k=2
 ·rw[if_pos h2]at ht
  split at ht
  ·cases ht
  ·rename_i n hn;cases ht;exact⟨⟨{h.pt.ok with most:=qk hn},h.pt.faults,h.pt.tasks,h.pt.picks,h.pt.ends⟩,h.sm.data,h.sm.junk⟩
 rw[if_neg h2]at ht;by_cases h3:k=3
 ·rw[if_pos h3]at ht
  have hf2:¬64<=(Sc.armed p).length:=(by unfold full at hf;rw[if_pos h3]at hf;simpa using hf);unfold yZ at ht;split at ht
  ·cases ht
  ·rename_i a ha
   split at ht
   ·cases ht
   ·rename_i hk
    split at ht
    ·cases ht
    ·rename_i n hn;cases ht;have hr:=z2C (ws.getD 1 []);exact zdu h ⟨qk ha,qk hn⟩ ⟨by show 1<=zq (ws.getD 1 []);omega,hr.2⟩ (by omega)
 rw[if_neg h3]at ht;by_cases h4:k=4
 ·rw[if_pos h4]at ht
  have hf2:¬16<=p.tasks.length:=(by unfold full at hf;rw[if_neg h3,if_pos h4]at hf;simpa using hf);cases ht;have key:∀(Q:Call->Prop),(∀l∈p.tasks,∀x∈l,Q x)->∀l∈p.tasks++[[]],∀x∈l,Q x:=by
   intro Q h1 l hl x hx;rcases List.mem_append.1 hl with hl|hl
   ·exact h1 l hl x hx
   ·obtain rfl:l=[]:=(by simpa using hl);simp at hx
  refine⟨⟨{h.pt.ok with calls:=key _ h.pt.ok.calls},h.pt.faults,⟨by simp;omega,fun l hl=>⟨?_,key (fun x=>zE x=true) (fun l hl=>(h.pt.tasks.2 l hl).2) l hl⟩⟩,h.pt.picks,h.pt.ends⟩,key _ h.sm.data,h.sm.junk⟩;rcases List.mem_append.1 hl with hl|hl
  ·exact(h.pt.tasks.2 l hl).1
  ·obtain rfl:l=[]:=(by simpa using hl);simp
 rw[if_neg h4]at ht;by_cases h5:k=5
 ·rw[if_pos h5]at ht
  have hf2:¬256<=(p.tasks.getLastD []).length:=(by unfold full at hf;rw[if_neg h3,if_neg h4,if_pos h5]at hf;simpa using hf);have hn0:=z4C (hkx.trans h5);have hcr:=z3H x;have hi0:IsI 0:=⟨by decide,by decide⟩;unfold qQ at ht;split at ht
  ·rename_i k1
   split at ht
   ·cases ht
   ·rename_i b hb;cases ht;exact z3p h (hne h5) (by unfold zE;rw[if_pos k1];rfl) hi0 (Nat.le_trans (z8J hb) (zc6 hws 0)) (by omega)
  ·rename_i k1
   split at ht
   ·rename_i k2
    split at ht
    ·cases ht
    ·rename_i n hn;cases ht;exact z3p h (hne h5) (by unfold zE;rw[if_neg k1,if_neg (by show¬(zb x=3\/zb x=7);omega),if_pos k2];rfl) (qk hn) (Nat.zero_le _) (by omega)
   ·rename_i k2;cases ht;exact z3p h (hne h5) (by unfold zE;rw[if_neg k1,if_pos (by show zb x=3\/zb x=7;omega)];rfl) hi0 (Nat.zero_le _) (by omega)
 rw[if_neg h5]at ht;by_cases h6:k=6
 ·rw[if_pos h6]at ht
  have hf2:¬65536<p.picks.length+ws.length:=(by unfold full at hf;rw[if_neg h3,if_neg h4,if_neg h5,if_pos h6]at hf;simpa using hf);split at ht
  ·cases ht
  ·rename_i l hl
   cases ht;obtain⟨hn,hr⟩:=z1e _ _ hl;refine⟨⟨{h.pt.ok with picks:=fun n hn=>?_},h.pt.faults,h.pt.tasks,by simp;omega,h.pt.ends⟩,h.sm.data,h.sm.junk⟩;rcases List.mem_append.1 hn with hn|hn
   ·exact h.pt.ok.picks n hn
   ·exact hr n hn
 rw[if_neg h6]at ht;have h7:k=7:=(by omega);have hf2:¬(16<=p.ends.length\/257<ws.length):=(by unfold full at hf;rw[if_neg h3,if_neg h4,if_neg h5,if_neg h6,if_pos h7]at hf;simp at hf;omega);unfold z0o at ht;split at ht
 ·cases ht
 ·rename_i d hd
  split at ht
  ·cases ht
  ·rename_i ks hks
   cases ht;obtain⟨hl,hk⟩:=z4D _ _ hks;rw[List.length_drop]at hl;refine⟨⟨{h.pt.ok with ends:=?_},h.pt.faults,h.pt.tasks,h.pt.picks,⟨by simp;omega,?_⟩⟩,h.sm.data,?_⟩
   ·intro r hr
    rcases List.mem_append.1 hr with hr|hr
    ·exact h.pt.ok.ends r hr
    ·obtain rfl:r=⟨d,ks,[]⟩:=(by simpa using hr);exact⟨qk hd,fun y hy=>(hk y hy).1,fun y hy=>by simp at hy⟩
   ·intro r hr
    rcases List.mem_append.1 hr with hr|hr
    ·exact h.pt.ends.2 r hr
    ·obtain rfl:r=⟨d,ks,[]⟩:=(by simpa using hr);exact⟨Nat.zero_le _,by show ks.length<=256;omega,fun y hy=>by simp at hy⟩
   ·intro r hr
    rcases List.mem_append.1 hr with hr|hr
    ·exact h.sm.junk r hr
    ·obtain rfl:r=⟨d,ks,[]⟩:=(by simpa using hr);intro y hy;obtain⟨-,s,hs,hle⟩:=hk y hy;exact Nat.le_trans hle (hws s (List.mem_of_mem_drop hs))
theorem z4U:∀(s cur:Str) (x:Str),x∈wsp cur s->x.length<=cur.length+s.length
 |[],cur,x,h=>by
  rw[wsp]at h;split at h
  ·simp at h
  ·simp at h;subst h;simp
 |c::s,cur,x,h=>by
  rw[wsp]at h;split at h
  ·split at h
   ·have:=z4U s [] x h;simp at this⊢;omega
   ·rcases List.mem_cons.1 h with rfl|h
    ·simp
    ·have:=z4U s [] x h;simp at this⊢;omega
  ·have:=z4U s (cur++[c]) x h;simp at this⊢;omega
theorem zbT{σ σ':PS}{s:Str}(h:Inv σ.p)(hs:s.length<=65536)(hl:yd σ s=.ok σ'):Inv σ'.p:=by
 unfold yd at hl;have hal:=xB 35 s;rw[<-z8S]at hal;by_cases h1:(yn s).all okB=false
 ·rw[if_pos h1]at hl;cases hl
 rw[if_neg h1]at hl;cases hw:zu (yn s)with
 |nil=>rw[hw]at hl;cases hl;exact h
 |cons x ws=>
  rw[hw]at hl;simp only[]at hl;have hws:∀y∈ws,y.length<=65536:=fun y hy=>(by have:=z4U (yn s) [] y (by unfold zu at hw;rw[hw];exact List.mem_cons_of_mem _ hy);simp at this;omega);by_cases h2:zk x=0
  ·rw[if_pos h2]at hl;cases hl
  rw[if_neg h2]at hl;by_cases h3:nxt σ.st (zk x)=6\/(zk x=5/\σ.p.tasks=[])
  ·rw[if_pos h3]at hl;cases hl
  rw[if_neg h3]at hl;by_cases h4:full σ.p (zk x) ws.length=true
  ·rw[if_pos h4]at hl;cases hl
  rw[if_neg h4]at hl;by_cases h5:zF (zk x) x ws.length=false
  ·rw[if_pos h5]at hl;cases hl
  rw[if_neg h5]at hl;cases ht:zH σ.p (zk x) x ws with
  |error e=>rw[ht]at hl;cases hl
  |ok p=>
   rw[ht]at hl;cases hl;have hr:=z1h x;exact zbS h (by omega) hr.2 rfl (fun h5 e=>h3 (Or.inr ⟨h5,e⟩)) hws (by simpa using h4) ht
theorem z1O:∀(s:Str) (x:Str),x∈zA s->x.length<=s.length
 |[],x,h=>by simp[zA]at h
 |c::s,x,h=>by
  rw[z0l]at h;split at h
  ·rcases List.mem_cons.1 h with rfl|h
   ·simp
   ·have:=z1O s x h;simp;omega
  ·split at h
   ·simp at h;subst h;simp
   ·rename_i l ls hl
    rcases List.mem_cons.1 h with rfl|h
    ·have:=z1O s l (by rw[hl];simp);simp;omega
    ·have:=z1O s x (by rw[hl];simp[h]);simp;omega
theorem z6t:∀(l:List Str) (σ σ':PS) (n:Nat),Inv σ.p->(∀s∈l,s.length<=65536)->zC σ n l=.ok σ'->Inv σ'.p
 |[],σ,σ',n,h,_,hp=>by rw[zC]at hp;cases hp;exact h
 |s::l,σ,σ',n,h,hs,hp=>by
  rw[zC]at hp;cases hl:yd σ s with
  |error e=>rw[hl]at hp;cases hp
  |ok σ2=>
   rw[hl]at hp;exact z6t l σ2 σ' (n+1) (zbT h (hs s (by simp)) hl) (fun x hx=>hs x (List.mem_cons_of_mem _ hx)) hp
theorem z4H(s:Str):Inv (yl s).1:=by
 unfold yl;split
 ·exact zdv
 ·rename_i hs
  cases h:zC ⟨zX,0⟩ 0 (zA s)with
  |error p=>exact zdv
  |ok σ=>
   simp only[];split
   ·exact zdv
   ·exact z6t _ _ _ _ zdv (fun x hx=>by have:=z1O s x hx;omega) h
theorem z09{α:Type}(f:α->Str)(M:Nat):∀(l:List α),(∀x∈l,(f x).length<=M)->(l.flatMap f).length<=l.length*M
 |[],_=>by simp
 |x::l,h=>by have h1:=h x (by simp);have h2:=z09 f M l fun y hy=>h y (List.mem_cons_of_mem _ hy);rw[List.flatMap_cons,List.length_append,List.length_cons,Nat.succ_mul];omega
theorem z1I(M:Nat):∀(ws:List Str),(∀x∈ws,x.length<=M)->(ye ws).length<=ws.length*(M+1)+1
 |[],_=>by simp[ye,bod]
 |w::ws,h=>by have h1:=h w (by simp);have h2:=z09 (fun x=>32::x) (M+1) ws fun y hy=>(by have:=h y (List.mem_cons_of_mem _ hy);simpa using this);unfold ye bod;rw[show(w::ws).length=ws.length+1 from rfl,Nat.succ_mul,List.length_append,List.length_append,List.length_singleton];omega
theorem xS{n:Int}(h:IsI n):(zl n).length<=21:=Lib.itoa_length_le n h.1 h.2
theorem z5C(k:Int):(zo k).length<=8/\(zn k).length<=5:=by
 constructor
 ·unfold zo
  (repeat' split);all_goals decide
 ·unfold zn
  (repeat' split);all_goals decide
theorem z3u{l:List Fault}(h:∀f∈l,xu f):(zM l).length<=l.length*89:=by
 unfold zM;refine z09 _ _ _ fun f hf=>?_;obtain⟨h1,h2⟩:=h f hf;have:=z1I 21 [[102,97,117,108,116],zl f.at_,zn f.kind,zl f.part] (by
  intro x hx;simp at hx;rcases hx with rfl|rfl|rfl|rfl
  ·decide
  ·exact xS h1
  ·have:=(z5C f.kind).2;omega
  ·exact xS h2)
 simpa[z5p]using this
theorem z4r(b:Str):(yB b).length<=2*b.length+1:=by
 unfold yB;split
 ·simp
 ·rw[z2G];omega
theorem zcA{c:Call}{N:Nat}(hd:c.data.length<=N)(hi:IsI c.lsn):(yV c).length<=4*N+100:=by
 have hw:=(z5C c.kind).1;have hp:=z4r c.data;have hn:=xS hi;unfold yV;repeat' split
 ·omega
 all_goals
  unfold ye bod;simp;omega
theorem zbP{k:Kp}{N:Nat}(hd:k.junk.length<=N)(hi:IsI k.n):(yH k).length<=2*N+30:=by
 have hn:=xS hi;have hp:=z4r (k.junk.take 65536);rw[List.length_take]at hp;unfold yH;rw[List.length_append];split
 ·simp;omega
 ·rw[List.length_cons];omega
theorem zc3{p:Play}(hok:PlayOk p)(hT:(yo p.linger).length<=1073741824/\(yo p.alpha).length<=1073741824):(z1R p).length<=21474836480:=by
 have h1:=z1I 1073741824 [[112,108,97,121],zl p.disk,zl p.segMax,zl p.base,zl p.qcap,zl p.qbytes,zl p.pmost,zl p.pbytes,yo p.linger,yo p.alpha] (by
  have key:∀{n:Int},IsI n->(zl n).length<=1073741824:=fun h=>Nat.le_trans (xS h) (by decide);intro x hx;simp only[List.mem_cons,List.not_mem_nil,or_false]at hx;rcases hx with rfl|rfl|rfl|rfl|rfl|rfl|rfl|rfl|rfl|rfl
  ·exact Nat.le_of_ble_eq_true rfl
  ·exact key hok.disk
  ·exact key hok.segMax
  ·exact key hok.base
  ·exact key hok.qcap
  ·exact key hok.qbytes
  ·exact key hok.pmost
  ·exact key hok.pbytes
  ·exact hT.1
  ·exact hT.2)
 have h2:=z1I 21 [[109,111,115,116],zl p.most] (by
  intro x hx;simp only[List.mem_cons,List.not_mem_nil,or_false]at hx;rcases hx with rfl|rfl
  ·decide
  ·exact xS hok.most)
 unfold z1R;rw[List.length_append];simp only[List.length_cons,List.length_nil]at h1 h2;exact Nat.le_trans (Nat.add_le_add h1 h2) (by omega)
theorem zaE{l:List Call}{N:Nat}(hl:l.length<=256)(hs:∀c∈l,c.data.length<=N)(hi:∀c∈l,IsI c.lsn):(qU l).length<=5+256*(4*N+100):=by have h1:=z09 yV (4*N+100) l fun c hc=>zcA (hs c hc) (hi c hc);have h3:=Nat.mul_le_mul_right (4*N+100) hl;unfold qU;rw[List.length_append];exact Nat.add_le_add (by decide) (Nat.le_trans h1 h3)
theorem z9C{l:List Int}(hl:l.length<=65536)(h:∀n∈l,IsI n):(qt l).length<=65537*22+1:=by
 unfold qt;split
 ·exact Nat.zero_le _
 ·have h1:=z1I 21 ([112,105,99,107,115]::l.map zl) (by
   intro x hx;rcases List.mem_cons.1 hx with rfl|hx
   ·decide
   ·obtain⟨n,hn,rfl⟩:=List.mem_map.1 hx
    exact xS (h n hn))
  rw[List.length_cons,List.length_map]at h1;exact Nat.le_trans h1 (Nat.add_le_add_right (Nat.mul_le_mul_right _ (show l.length+1<=65537 by omega)) 1)
theorem zdO{r:Reopen}{N:Nat}(h1:r.faults.length<=64)(h2:r.keeps.length<=256)(hr:z3Q r)(hs:∀k∈r.keeps,k.junk.length<=N):(xI r).length<=258*(2*N+31)+1+64*89:=by
 obtain⟨h4,h5,h6⟩:=hr;have h7:=z1I (2*N+30) ([101,110,100]::zl r.dir::r.keeps.map yH) (by
  intro x hx;rcases List.mem_cons.1 hx with rfl|hx
  ·show 3<=_;omega
  ·rcases List.mem_cons.1 hx with rfl|hx
   ·exact Nat.le_trans (xS h4) (by omega)
   ·obtain⟨k,hk,rfl⟩:=List.mem_map.1 hx
    exact zbP (hs k hk) (h5 k hk))
 have h8:=z3u h6;rw[List.length_cons,List.length_cons,List.length_map]at h7;have h9:(r.keeps.length+1+1)*(2*N+30+1)<=258*(2*N+31):=Nat.mul_le_mul_right _ (by omega);have h10:r.faults.length*89<=64*89:=Nat.mul_le_mul_right _ h1;unfold xI;rw[List.length_append];exact Nat.add_le_add (Nat.le_trans h7 (Nat.add_le_add_right h9 1)) (Nat.le_trans h8 h10)
theorem zc7{p:Play}{N:Nat}(h:Pt p)(hs:Sml N p)(hN:N<=1048576)(hT:(yo p.linger).length<=1073741824/\(yo p.alpha).length<=1073741824):(zT p).length<=1099511627776:=by
 have hok:=h.ok;have e1:=zc3 hok hT;have e2:=z3u hok.faults;have e3:=z09 qU (5+256*(4*N+100)) p.tasks fun l hl=>zaE (h.tasks.2 l hl).1 (hs.data l hl) (hok.calls l hl);have e4:=z9C h.picks hok.picks;have e5:=z09 xI (258*(2*N+31)+1+64*89) p.ends fun r hr=>zdO (h.ends.2 r hr).1 (h.ends.2 r hr).2.1 (hok.ends r hr) (hs.junk r hr);have m0:p.faults.length*89<=64*89:=Nat.mul_le_mul_right _ h.faults.1;have m1:p.tasks.length*(5+256*(4*N+100))<=16*(5+256*(4*N+100)):=Nat.mul_le_mul_right _ h.tasks.1;have m2:p.ends.length*(258*(2*N+31)+1+64*89)<=16*(258*(2*N+31)+1+64*89):=Nat.mul_le_mul_right _ h.ends.1;have e2:=Nat.le_trans e2 m0;have e3:=Nat.le_trans e3 m1;have e5:=Nat.le_trans e5 m2;unfold zT;simp only[List.length_append];generalize(z1R p).length=a1 at*
 generalize(zM p.faults).length=a2 at*
 generalize(p.tasks.flatMap qU).length=a3 at*
 generalize(qt p.picks).length=a4 at*
 generalize(p.ends.flatMap xI).length=a5 at*
 clear hs hok h hT m0 m1 m2;omega
def bg1:Str:=[112,108,97,121,32,49,48,48,48,32,54,52,32,49,32,52,32,49,48,48,32,52,32,49,48,48,32,48,32,48,46,53,10,109,111,115,116,32,53,48,10,116,97,115,107,10,97,112,112,101,110,100,32,54,49,10,115,121,110,99,10,112,105,99,107,115,32,48,32,49,10,101,110,100,32,48,32,51,32,48,58,102,102,10]
def bg2:Str:=[109,111,115,116,32,53]
def bgP:Play:=⟨1000,64,1,4,100,4,100,0,4602678819172646912,[],[[⟨1,0,[97]⟩,⟨3,0,[]⟩]],[0,1],50,[⟨0,[⟨3,[]⟩,⟨0,[255]⟩],[]⟩]⟩
def z3T:Play:=⟨1048576,4096,1,4,1000,8,1000,0,4602678819172646912,[],[[⟨1,0,[97]⟩]],[],1000,[]⟩
theorem xJ(n:Nat):zl (n:Int)=Lib.decDigits n:=by unfold zl Lib.itoa;rw[if_neg (by omega)];rfl
theorem d0:zl 0=[48]:=by have:=xJ 0;simpa[Lib.decDigits]using this
theorem d1:zl 1=[49]:=by have:=xJ 1;simpa[Lib.decDigits]using this
theorem d3:zl 3=[51]:=by have:=xJ 3;simpa[Lib.decDigits]using this
theorem d4:zl 4=[52]:=by have:=xJ 4;simpa[Lib.decDigits]using this
theorem d8:zl 8=[56]:=by have:=xJ 8;simpa[Lib.decDigits]using this
theorem d50:zl 50=[53,48]:=by have:=xJ 50;simpa[Lib.decDigits]using this
theorem d64:zl 64=[54,52]:=by have:=xJ 64;simpa[Lib.decDigits]using this
theorem zfN:zl 100=[49,48,48]:=by have:=xJ 100;simpa[Lib.decDigits]using this
theorem zel:zl 1000=[49,48,48,48]:=by have:=xJ 1000;simpa[Lib.decDigits]using this
theorem zfy:zl 4096=[52,48,57,54]:=by have:=xJ 4096;simpa[Lib.decDigits]using this
theorem zct:zl 1048576=[49,48,52,56,53,55,54]:=by have:=xJ 1048576;simpa[Lib.decDigits]using this
theorem z8Q(t0:yo 0=[48])(th:yo 4602678819172646912=[48,46,53]):zT bgP=bg1:=by unfold zT z1R zM qt bgP;simp only[d0,d1,d3,d4,d50,d64,zfN,zel,t0,th,List.flatMap_cons,List.flatMap_nil,List.append_nil,qU,yV,xI,yH,zM,List.map_cons,List.map_nil];rfl
theorem z6f(t0:yo 0=[48])(th:yo 4602678819172646912=[48,46,53]):(zT z3T).length=65:=by unfold zT z1R zM qt z3T;simp only[d0,d1,d4,d8,zel,zfy,zct,t0,th,List.flatMap_cons,List.flatMap_nil,List.append_nil,qU,yV];rfl
theorem zfA:Pt bgP:=by refine⟨⟨?_,?_,?_,?_,?_,?_,?_,by decide,by decide,?_,?_,?_,?_,?_⟩,?_,?_,?_,?_⟩;all_goals simp[bgP,IsI,z3Q,zE]
theorem z5c:Inv z3T:=by refine⟨⟨⟨?_,?_,?_,?_,?_,?_,?_,by decide,by decide,?_,?_,?_,?_,?_⟩,?_,?_,?_,?_⟩,?_,?_⟩;all_goals simp[z3T,IsI,z3Q,zE]
theorem zak:yl bg2=(zX,1,63):=by have hl:zA bg2=[bod [[109,111,115,116],[53]]]:=(by decide);have hs:yd ⟨zX,0⟩ (bod [[109,111,115,116],[53]])=.error 63:=(by rw[z6p _ _ _ (by decide)];unfold z0u;rw[if_neg (by decide),if_pos (Or.inl (by decide))]);unfold yl;rw[if_neg (by decide),hl,zC,hs]
end Sc
end Go.Proofs.YtkkecpamnnojoaaGreatDoor
namespace Go.Proofs.YtkkecpamnnojoaaGreatDoor
open Go.ChangeShapes Go.WideShapes Go.ChangeAt Go.RowKit
open Bt Dc
namespace Sc
theorem zeq{B:Nat}{w:World}(hE:Ev B w)(u:Nat)(hu:u<18446744073709551616):RrOk (txt u) (qc u) 0:=by obtain⟨e,w',fr,hr,-⟩:=hE.read (txt u) (z5H hu) [];obtain⟨⟨y,k,-,hrr⟩,-⟩:=hr;obtain⟨rfl,rfl⟩:=hrr.yes u hu rfl;exact hrr
theorem zaz{B:Nat}{w:World}(hE:Ev B w)(u:Nat)(hu:u<18446744073709551616):zJ (yo u)=(qc u,0):=z1F (by rw[zaB];exact zeq hE u hu)
theorem zer(u:Nat)(hu:u<18446744073709551616):gw (yo u)=true:=by
 unfold yo;rcases z2t hu with⟨h1,h2⟩|⟨h1,h2⟩|⟨h1,h2⟩|⟨h1,h2,h3⟩
 ·rw[h2];decide
 ·rw[h2];decide
 ·rw[h2];decide
 ·rw[h3]
  obtain⟨hc,-⟩:=Us.z01 h1;have hp:=z4b u;have e:(yQ (Us.zQ u)).data.toList=(Us.zQ u).map (fun n=>UInt8.ofNat n):=(by unfold yQ strOfNums;simp);rw[e];refine z6y (fun h=>?_) fun c hcm=>?_
  ·have:=congrArg List.length h;simp at this;rw[this]at hp;simp at hp
  ·obtain⟨n,hn,rfl⟩:=List.mem_map.1 hcm;have h:=hc n hn;have h256:=Us.z3E h;have:(UInt8.ofNat n).toNat=n:=(by rw[UInt8.toNat_ofNat'];omega);rw[this];unfold Us.Chr at h;omega
theorem z1s:yo 0=[48]:=by unfold yo;rw[show txt 0=⟨#[48]⟩ by decide+kernel]
theorem z50:yo 4602678819172646912=[48,46,53]:=by unfold yo;rw[zaA]
theorem z5I{u:Nat}(hu:u<18446744073709551616):(yo u).length<=1073741824:=by have h:=z5H hu;have:(yo u).length=(txt u).size:=(by unfold yo;rw[Array.length_toList];rfl);rw[this];exact h
end Sc
end Go.Proofs.YtkkecpamnnojoaaGreatDoor
