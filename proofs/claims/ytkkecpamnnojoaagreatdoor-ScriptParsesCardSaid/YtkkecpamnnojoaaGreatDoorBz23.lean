/- A part of the proof of ScriptParses: nothing is assumed. By an AI agent. -/
import Derived.Test.YtkkecpamnnojoaaGreatDoorBz22
set_option linter.unusedVariables false
set_option linter.unusedSimpArgs false
set_option maxRecDepth 100000
set_option maxHeartbeats 32000000
namespace Go.Proofs.YtkkecpamnnojoaaGreatDoor
open Go.ChangeShapes Go.WideShapes Go.ChangeAt Go.RowKit
open Bt Dc By
namespace Sc
def M.rcells(m:M):Array Value:=
 #[.int .i64 m.disk,.int .i64 m.segMax,.int .i64 m.base,.int .i64 m.qcap,.int .i64 m.qbytes,.int .i64 m.pmost,.int .i64 m.pbytes,.float .f64 m.linger,.float .f64 m.alpha,
  m.fv,m.tv,m.pv,.int .i64 m.most,m.ev,.int .i64 (m.st:Int)]
structure RAt (w:World) (own:Nat->Option T) (pb:Nat) (m:M):Prop where
 low:∀g,own g≠none->g<w.heap.size
 blk:w.heap[pb]?=some (.cells m.rcells 68 (0,0))
 tag:own pb=some (0,0,0)
 fs:RowT w own (1,0,0) 114 3 m.fv m.fs.length (fsv m.fs)
 ts:RowT w own (2,0,0) 56 1 m.tv m.ts.length (m.ts.map (·.v))
 calls:∀i t,m.ts[i]?=some t->CallsAt w own i t
 ps:RowT w own (5,0,0) 3 1 m.pv m.ps.length (m.ps.map (Value.int .i64))
 es:RowT w own (6,0,0) 82 3 m.ev m.es.length (m.es.flatMap ME.cells)
 ends:∀i e,m.es[i]?=some e->EndAt w own i e
theorem RAt.keep{w w':World}{own:Nat->Option T}{pb:Nat}{m:M}{bs:Nat->Prop}(h:RAt w own pb m)(k:Keep bs w w')(hn:∀g,own g≠none->¬bs g):RAt w' own pb m where
 low:=fun g hg=>Nat.lt_of_lt_of_le (h.low g hg) k.size
 blk:=k.same h.blk (hn pb (by rw[h.tag];simp))
 tag:=h.tag
 fs:=h.fs.move k (fun g hg=>hn g (by rw[hg];simp)) (fun g hg=>hg)
 ts:=h.ts.move k (fun g hg=>hn g (by rw[hg];simp)) (fun g hg=>hg)
 calls:=fun i t ht=>(h.calls i t ht).move k (fun g n j _ hg=>hn g (by rw[hg];simp)) (fun g n j _ hg=>hg)
 ps:=h.ps.move k (fun g hg=>hn g (by rw[hg];simp)) (fun g hg=>hg)
 es:=h.es.move k (fun g hg=>hn g (by rw[hg];simp)) (fun g hg=>hg)
 ends:=fun i e he=>(h.ends i e he).move k (fun g n j _ hg=>hn g (by rw[hg];simp)) (fun g n j _ hg=>hg)
theorem RAt.kept{w w':World}{own:Nat->Option T}{pb:Nat}{m:M}(h:RAt w own pb m)(k:Keep (fun _=>False) w w'):RAt w' own pb m:=h.keep k fun _ _=>id
theorem RAt.shape_es{w:World}{own:Nat->Option T}{pb:Nat}{m:M}(h:RAt w own pb m)(hne:m.es≠[]):∃g cap,m.ev=.slice (some ⟨g,0,none⟩) m.es.length cap/\m.es.length<=cap/\own g=some (6,0,0)/\∀i e,m.es[i]?=some e->w.cell? ⟨g,i*3,none⟩=some (.int .i64 e.dir)/\w.cell? ⟨g,i*3+1,none⟩=some e.kv/\w.cell? ⟨g,i*3+2,none⟩=some e.fv/\w.frozen? ⟨g,i*3+2,none⟩=false:=by have hl:(0:Nat)<m.es.length:=List.length_pos_iff.2 hne;have get:∀i e j u,m.es[i]?=some e->j<3->(ME.cells e)[j]?=some u->(m.es.flatMap ME.cells)[i*3+j]?=some u:=fun i e j u hi hj hu=>(xG ME.cells 3 (fun _=>rfl) m.es i j e hi hj).trans hu;obtain⟨g,cap,e1,-,-,-,hcap⟩:=yp h.es.row (get 0 m.es[0] 0 _ (by simp[hl]) (by omega) rfl);refine⟨g,cap,e1,hcap,h.es.tag g (by rw[e1];rfl),fun i e hi=>?_⟩;have c:=fun j u hj hu=>yp h.es.row (get i e j u hi hj hu);obtain⟨g0,cp0,e2,c0,-⟩:=c 0 _ (by omega) rfl;obtain⟨g1,cp1,e3,c1,-⟩:=c 1 _ (by omega) rfl;obtain⟨g2,cp2,e4,c2,f2,-⟩:=c 2 _ (by omega) rfl;rw[e1]at e2 e3 e4;cases e2;cases e3;cases e4;exact⟨c0,c1,c2,f2⟩
theorem RAt.shape_ts{w:World}{own:Nat->Option T}{pb:Nat}{m:M}(h:RAt w own pb m)(hne:m.ts≠[]):∃g cap,m.tv=.slice (some ⟨g,0,none⟩) m.ts.length cap/\m.ts.length<=cap/\own g=some (2,0,0)/\∀i t,m.ts[i]?=some t->w.cell? ⟨g,i,none⟩=some t.v/\w.frozen? ⟨g,i,none⟩=false:=by
 have hl:(0:Nat)<m.ts.length:=List.length_pos_iff.2 hne;have get:∀i (t:MT),m.ts[i]?=some t->(m.ts.map (·.v))[i]?=some t.v:=fun i (t:MT) hi=>by rw[List.getElem?_map,hi];rfl
 obtain⟨g,cap,e1,-,-,-,hcap⟩:=yp h.ts.row (get 0 m.ts[0] (by simp[hl]));refine⟨g,cap,e1,hcap,h.ts.tag g (by rw[e1];rfl),fun i t hi=>?_⟩;obtain⟨g0,cp0,e2,c0,f0,-⟩:=yp h.ts.row (get i t hi);rw[e1]at e2;cases e2;exact⟨c0,f0⟩
theorem RAt.arm_cell{w:World}{own:Nat->Option T}{pb:Nat}{m:M}(h:RAt w own pb m):w.cell? (yu m pb)=some (qv m)/\w.frozen? (yu m pb)=false/\∃o cap,qv m=.slice o (yb m).length cap:=by
 unfold yu qv yb;cases hl:m.es.getLast? with
 |none=>
  have he:m.es=[]:=List.getLast?_eq_none_iff.1 hl;rw[if_pos he];exact⟨za h.blk 9,zd h.blk 9,h.fs.len⟩
 |some e=>
  obtain⟨hne,hg⟩:=yR hl;rw[if_neg hne];obtain⟨g,cap,hv,-,-,hc⟩:=h.shape_es hne;obtain⟨-,-,c2,f2⟩:=hc _ e hg;rw[hv];exact⟨c2,f2,(h.ends _ e hg).faults.len⟩
theorem RAt.call_cell{w:World}{own:Nat->Option T}{pb:Nat}{m:M}(h:RAt w own pb m)(hne:m.ts≠[]):w.cell? (yz m)=some (zK m)/\w.frozen? (yz m)=false/\∃o cap,zK m=.slice o (zx m).length cap:=by
 unfold yz zK zx;cases hl:m.ts.getLast? with
 |none=>exact absurd (List.getLast?_eq_none_iff.1 hl) hne
 |some t=>
  obtain⟨-,hg⟩:=yR hl;obtain⟨g,cap,hv,-,-,hc⟩:=h.shape_ts hne;obtain⟨c0,f0⟩:=hc _ t hg;rw[hv];exact⟨c0,f0,(h.calls _ t hg).row.len⟩
theorem RAt.arm_row{w:World}{own:Nat->Option T}{pb:Nat}{m:M}(h:RAt w own pb m):RowT w own (xh m) 114 3 (qv m) (yb m).length (fsv (yb m))/\∃t,own (yu m pb).block=some t/\(t=(0,0,0)\/t=(6,0,0))/\t≠xh m:=by
 unfold xh qv yb yu;cases hl:m.es.getLast? with
 |none=>
  have he:m.es=[]:=List.getLast?_eq_none_iff.1 hl;rw[if_pos he,if_pos he];exact⟨h.fs,_,h.tag,Or.inl rfl,by decide⟩
 |some e=>
  obtain⟨hne,hg⟩:=yR hl;rw[if_neg hne,if_neg hne];obtain⟨g,cap,hv,-,ht,-⟩:=h.shape_es hne;refine⟨(h.ends _ e hg).faults,(6,0,0),?_,Or.inr rfl,by simp⟩;rw[hv];exact ht
theorem RAt.arm_push{w w4:World}{own:Nat->Option T}{pb:Nat}{m:M}(h:RAt w own pb m)(f:Fault){v':Value}(h':w4.ownsRow 0 114 3 v' ((yb m).length+1) (fsv (yb m)++qH f))
  (k:Keep (fun g=>(qv m).ownBlock=some g) w w4)(hb:v'.ownBlock=(qv m).ownBlock\/∃g,v'.ownBlock=some g/\w.heap.size<=g):
  RAt (w4.setCell (yu m pb) v') (put own v' (xh m)) pb (m.arm f v')/\To own (put own v' (xh m)) w (w4.setCell (yu m pb) v'):=by
 obtain⟨hrow,t2,ht2,ht3,ht4⟩:=h.arm_row;have hsp:(yu m pb)=⟨(yu m pb).block,(yu m pb).off,none⟩:=(by unfold yu;split<;>rfl);have G:Grown (fun t=>t=xh m\/t=t2) w (w4.setCell (yu m pb) v') own (put own v' (xh m)):=(by rw[hsp];exact qm v' h.low hrow h' k hb ht2);have hne:v'.ownBlock≠some (yu m pb).block:=by
  intro e;rcases hb with hb|⟨g,hb,hl⟩
  ·rw[hb]at e;rw[hrow.tag _ e]at ht2;cases ht2;exact ht4 rfl
  ·rw[hb]at e;cases e;have:=h.low _ (by rw[ht2];simp);omega
 have hrow':RowT (w4.setCell (yu m pb) v') (put own v' (xh m)) (xh m) 114 3 v' ((yb m).length+1) (fsv (yb m)++qH f):=(by rw[hsp];exact xO v' h' hne);refine⟨?_,G.to⟩;cases hl:m.es.getLast? with
 |none=>
  have he:m.es=[]:=List.getLast?_eq_none_iff.1 hl;have e1:xh m=(1,0,0):=(by unfold xh;rw[if_pos he]);have e2:yu m pb=⟨pb,9,none⟩:=(by unfold yu;rw[if_pos he]);have e3:yb m=m.fs:=(by unfold yb;rw[hl]);have e4:qv m=m.fv:=(by unfold qv;rw[hl]);have e5:m.arm f v'={m with fv:=v',fs:=m.fs++[f]}:=(by unfold M.arm;rw[hl]);have e6:t2=(0,0,0):=(by rw[e2]at ht2;have:=h.tag;rw[show(⟨pb,9,none⟩:Addr).block=pb from rfl,this]at ht2;cases ht2;rfl);rw[e5];rw[e1,e2,e3]at hrow';rw[e1,e2,e6]at G;rw[e1,e2];rw[e4]at k
  exact{
   low:=G.low
   blk:=by have hpb:=k.same h.blk (fun e=>by have:=h.fs.tag pb e;rw[h.tag]at this;cases this);exact zg hpb 9 v'
   tag:=G.old _ _ h.tag
   fs:=by rw[show(m.fs++[f]).length=m.fs.length+1 by simp,show fsv (m.fs++[f])=fsv m.fs++qH f by simp[fsv]];exact hrow'
   ts:=h.ts.far G (by simp)
   calls:=fun i t ht=>(h.calls i t ht).far G (fun n j hn=>by rcases hn with rfl|rfl<;>simp)
   ps:=h.ps.far G (by simp)
   es:=h.es.far G (by simp)
   ends:=fun i e he=>(h.ends i e he).far G (fun n j hn=>by rcases hn with rfl|rfl|rfl<;>simp)}
 |some e=>
  obtain⟨hne2,hg⟩:=yR hl;obtain⟨pre,hpre⟩:∃pre,m.es=pre++[e]:=List.getLast?_eq_some_iff.1 hl;have hlen:m.es.length-1=pre.length:=(by rw[hpre];simp);obtain⟨g6,cap,hv,hcap,h6,-⟩:=h.shape_es hne2;have e1:xh m=(9,pre.length,0):=(by unfold xh;rw[if_neg hne2,hlen]);have e2:yu m pb=⟨g6,pre.length*3+2,none⟩:=(by unfold yu;rw[if_neg hne2,hv,hlen];rfl);have e3:yb m=e.fs:=(by unfold yb;rw[hl]);have e4:qv m=e.fv:=(by unfold qv;rw[hl]);have e5:m.arm f v'={m with es:=pre++[{e with fv:=v',fs:=e.fs++[f]}]}:=(by unfold M.arm;rw[hl,hpre,List.dropLast_concat]);have e6:t2=(6,0,0):=(by rw[e2,show(⟨g6,pre.length*3+2,none⟩:Addr).block=g6 from rfl,h6]at ht2;cases ht2;rfl);rw[e5];rw[e1,e2,e3]at hrow';rw[e1,e2,e6]at G;rw[e1]at hrow;rw[e1,e2];rw[e4]at k hrow;have hgp:g6≠pb:=(by intro e;rw[e,h.tag]at h6;cases h6);have hend:=h.ends pre.length e (by rw[<-hlen];exact hg)
  exact{
   low:=G.low
   blk:=by have hpb:=k.same h.blk (fun e=>by have:=hrow.tag pb e;rw[h.tag]at this;cases this);exact zS hpb (fun e=>hgp e.symm) _ v'
   tag:=G.old _ _ h.tag
   fs:=h.fs.far G (by simp)
   ts:=h.ts.far G (by simp)
   calls:=fun i t ht=>(h.calls i t ht).far G (fun n j hn=>by rcases hn with rfl|rfl<;>simp)
   ps:=h.ps.far G (by simp)
   es:=by have hr:=zf h.es.row k fun g hg e=>(by have a:=hrow.tag g e;have b:=h.es.tag g hg;rw[b]at a;cases a);rw[hv]at hr;have hs:=z0P hr (j:=pre.length*3+2) (by rw[hpre];simp;omega) v';refine⟨?_,fun g hg=>G.old _ _ (h.es.tag g hg)⟩;show(w4.setCell ⟨g6,pre.length*3+2,none⟩ v').ownsRow 0 82 3 m.ev (pre++[{e with fv:=v',fs:=e.fs++[f]}]).length ((pre++[{e with fv:=v',fs:=e.fs++[f]}]).flatMap ME.cells);rw[z5U ME.cells 3 (fun _=>rfl) pre e _ 2 v' (by omega) rfl,hv];rw[show m.es.length=pre.length+1 from by rw[hpre];simp];rw[hpre]at hs;simpa using hs
   ends:=fun i e0 he0=>by
    by_cases hi:i=pre.length
    ·subst hi;obtain rfl:e0={e with fv:=v',fs:=e.fs++[f]}:=(by simpa using he0.symm);refine⟨hend.keeps.far G (by simp),fun j kk hk=>(hend.junk j kk hk).far G (by simp),?_⟩;show RowT _ _ _ _ _ v' (e.fs++[f]).length (fsv (e.fs++[f]));rw[show(e.fs++[f]).length=e.fs.length+1 by simp,show fsv (e.fs++[f])=fsv e.fs++qH f by simp[fsv]];exact hrow'
    ·have hlt:i<pre.length:=by
      rcases Nat.lt_or_ge i pre.length with h|h
      ·exact h
      ·rw[List.getElem?_append_right h]at he0
       have:i-pre.length≠0:=(by omega);cases hq:i-pre.length with
       |zero=>omega
       |succ z=>rw[hq]at he0;simp at he0
     have he1:m.es[i]?=some e0:=(by rw[hpre,List.getElem?_append_left hlt];rw[List.getElem?_append_left hlt]at he0;exact he0);exact(h.ends i e0 he1).far G (fun n j hn=>by
      rcases hn with rfl|rfl|rfl<;>simp;intro e;exact absurd e hi)}
theorem RAt.scalars{w w':World}{own:Nat->Option T}{pb:Nat}{m m':M}(h:RAt w own pb m)(k:Keep (fun g=>g=pb) w w')(hb:w'.heap[pb]?=some (.cells m'.rcells 68 (0,0)))
  (h1:m'.fv=m.fv)(h2:m'.fs=m.fs)(h3:m'.tv=m.tv)(h4:m'.ts=m.ts)(h5:m'.pv=m.pv)(h6:m'.ps=m.ps)(h7:m'.ev=m.ev)(h8:m'.es=m.es):RAt w' own pb m'/\To own own w w':=by
 have kn:∀g t,own g=some t->t≠(0,0,0)->¬g=pb:=fun g t hg ht e=>(by rw[e,h.tag]at hg;cases hg;exact ht rfl);refine⟨?_,To.of_own (k.mono fun g _ hg=>by rw[hg,h.tag];simp)⟩
 exact{
  low:=fun g hg=>Nat.lt_of_lt_of_le (h.low g hg) k.size
  blk:=hb
  tag:=h.tag
  fs:=by rw[h1,h2];exact h.fs.move k (fun g hg=>kn g _ hg (by decide)) (fun g hg=>hg)
  ts:=by rw[h3,h4];exact h.ts.move k (fun g hg=>kn g _ hg (by decide)) (fun g hg=>hg)
  calls:=fun i t ht=>by rw[h4]at ht;exact(h.calls i t ht).move k (fun g n j hn hg=>kn g _ hg (by rcases hn with rfl|rfl<;>simp)) (fun g n j hn hg=>hg)
  ps:=by rw[h5,h6];exact h.ps.move k (fun g hg=>kn g _ hg (by decide)) (fun g hg=>hg)
  es:=by rw[h7,h8];exact h.es.move k (fun g hg=>kn g _ hg (by decide)) (fun g hg=>hg)
  ends:=fun i e he=>by
   rw[h8]at he;exact(h.ends i e he).move k (fun g n j hn hg=>kn g _ hg (by rcases hn with rfl|rfl|rfl<;>simp)) (fun g n j hn hg=>hg)}
theorem RAt.far{S:T->Prop}{w w':World}{own own':Nat->Option T}{pb:Nat}{m:M}(h:RAt w own pb m)(G:Grown S w w' own own')(hS:∀t,S t->zea m t):RAt w' own' pb m where
 low:=G.low
 blk:=G.keep.same h.blk fun⟨t,ht,hs⟩=>by rw[h.tag]at ht;cases ht;exact(hS _ hs).1 rfl
 tag:=G.old _ _ h.tag
 fs:=h.fs.far G fun hs=>(hS _ hs).2.1 rfl
 ts:=h.ts.far G fun hs=>(hS _ hs).2.2.1 rfl
 calls:=fun i t ht=>(h.calls i t ht).far G fun n j hn hs=>by have h1:m.ts.length<=i:=(hS _ hs).2.2.2.2.2.1 hn;have:=yk ht;omega
 ps:=h.ps.far G fun hs=>(hS _ hs).2.2.2.1 rfl
 es:=h.es.far G fun hs=>(hS _ hs).2.2.2.2.1 rfl
 ends:=fun i e he=>(h.ends i e he).far G fun n j hn hs=>by have h1:m.es.length<=i:=(hS _ hs).2.2.2.2.2.2 hn;have:=yk he;omega
theorem RAt.call_push{w w4:World}{own:Nat->Option T}{pb:Nat}{m:M}(h:RAt w own pb m)(hne:m.ts≠[])(c:Call){d v':Value}(h':w4.ownsRow 0 76 3 v' ((zx m).length+1) ((zx m).flatMap MC.cells++MC.cells ⟨c,d⟩))
  (hd:w4.ownsRow w.heap.size 5 1 d c.data.length (u8v c.data))(hdv:∀g,v'.ownBlock=some g->d.ownBlock≠some g)
  (k:Keep (fun g=>(zK m).ownBlock=some g) w w4)(hb:v'.ownBlock=(zK m).ownBlock\/∃g,v'.ownBlock=some g/\w.heap.size<=g):
  ∃own',RAt (w4.setCell (yz m) v') own' pb (m.callTo c d v')/\To own own' w (w4.setCell (yz m) v'):=by
 obtain⟨t,hl⟩:∃t,m.ts.getLast? =some t:=⟨_,List.getLast?_eq_some_getLast hne⟩;obtain⟨-,hg⟩:=yR hl;obtain⟨pre,hpre⟩:∃pre,m.ts=pre++[t]:=List.getLast?_eq_some_iff.1 hl;have hlen:m.ts.length-1=pre.length:=(by rw[hpre];simp);obtain⟨g2,cap,hv,hcap,hg2,-⟩:=h.shape_ts hne;have e2:yz m=⟨g2,pre.length,none⟩:=(by unfold yz;rw[hv,hlen];rfl);have e3:zx m=t.l:=(by unfold zx;rw[hl]);have e4:zK m=t.v:=(by unfold zK;rw[hl]);have e5:m.callTo c d v'={m with ts:=pre++[⟨v',t.l++[⟨c,d⟩]⟩]}:=(by unfold M.callTo;rw[hpre,List.dropLast_concat,e3]);have hcall:=h.calls pre.length t (by rw[<-hlen];exact hg);have hrow:=hcall.row;rw[e3]at h';rw[e4]at k hb;have G1:Grown (fun x=>x=(3,pre.length,0)\/x=(2,0,0)) w (w4.setCell ⟨g2,pre.length,none⟩ v') own (put own v' (3,pre.length,0)):=qm v' h.low hrow h' k hb hg2;have kset:Keep (fun g=>g=g2) w4 (w4.setCell ⟨g2,pre.length,none⟩ v'):=(Keep.refl (fun g=>g=g2) w4).setCell (p:=⟨g2,pre.length,none⟩) (Or.inl rfl) v';have hdg:∀g,d.ownBlock=some g->w.heap.size<=g:=fun g hg=>by
  rcases hd.2 with⟨h2,-⟩|⟨g3,cap,cur,h2,h3,-⟩
  ·rw[h2]at hg;cases hg
  ·rw[h2]at hg;cases hg;exact h3
 have hg2l:=h.low g2 (by rw[hg2];simp);have hd5:(w4.setCell ⟨g2,pre.length,none⟩ v').ownsRow w.heap.size 5 1 d c.data.length (u8v c.data):=zf hd kset fun g hg e=>(by have:=hdg g hg;omega);have G:=G1.also (t:=(4,pre.length,t.l.length)) h.low hd5;have hv2:v'.ownBlock≠some g2:=by
  intro e;rcases hb with hb|⟨g,hb,hlb⟩
  ·rw[hb]at e;have:=hrow.tag g2 e;rw[hg2]at this;cases this
  ·rw[hb]at e;cases e;omega
 have hrow':RowT (w4.setCell ⟨g2,pre.length,none⟩ v') (put (put own v' (3,pre.length,0)) d (4,pre.length,t.l.length)) (3,pre.length,0) 76 3 v' (t.l.length+1) (t.l.flatMap MC.cells++MC.cells ⟨c,d⟩):=
  (xO v' h' hv2).also hdv
 have hgp:g2≠pb:=(by intro e;rw[e,h.tag]at hg2;cases hg2);rw[e5,e2];refine⟨_,?_,G.to⟩
 exact{
  low:=G.low
  blk:=by have hpb:=k.same h.blk (fun e=>by have:=hrow.tag pb e;rw[h.tag]at this;cases this);exact zS hpb (fun e=>hgp e.symm) _ v'
  tag:=G.old _ _ h.tag
  fs:=h.fs.far G (by simp)
  ts:=by
   have hr:=zf h.ts.row k fun g hg e=>(by have a:=hrow.tag g e;have b:=h.ts.tag g hg;rw[b]at a;cases a);rw[hv]at hr;have hs:=z0P hr (j:=pre.length) (by rw[hpre];simp) v';refine⟨?_,fun g hg=>G.old _ _ (h.ts.tag g hg)⟩;show(w4.setCell ⟨g2,pre.length,none⟩ v').ownsRow 0 56 1 m.tv (pre++[(⟨v',t.l++[⟨c,d⟩]⟩:MT)]).length ((pre++[⟨v',t.l++[⟨c,d⟩]⟩]:List MT).map (·.v))
   rw[hv];rw[show m.ts.length=pre.length+1 from by rw[hpre];simp]at hs⊢
   rw[hpre]at hs;simpa using hs
  calls:=fun i t0 ht0=>by
   by_cases hi:i=pre.length
   ·subst hi
    obtain rfl:t0=⟨v',t.l++[⟨c,d⟩]⟩:=(by simpa using ht0.symm);refine⟨?_,fun j x hx=>?_⟩
    ·show RowT _ _ _ _ _ v' (t.l++[(⟨c,d⟩:MC)]).length ((t.l++[(⟨c,d⟩:MC)]).flatMap MC.cells);rw[show(t.l++[(⟨c,d⟩:MC)]).length=t.l.length+1 by simp,show(t.l++[(⟨c,d⟩:MC)]).flatMap MC.cells=t.l.flatMap MC.cells++MC.cells ⟨c,d⟩ by simp];exact hrow'
    ·by_cases hj:j=t.l.length
     ·subst hj;obtain rfl:x=⟨c,d⟩:=(by simpa using hx.symm);exact⟨qx hd5 fun g hg=>Nat.zero_le _,z1H _ _ _⟩
     ·have hlt:j<t.l.length:=by
       have:=yk hx;simp at this;omega
      rw[show({v:=v',l:=t.l++[⟨c,d⟩]}:MT).l=t.l++[⟨c,d⟩]from rfl,List.getElem?_append_left hlt]at hx;exact(hcall.data j x hx).far G (by simp)
   ·have hlt:i<pre.length:=by
     have:=yk ht0;simp at this;omega
    have he1:m.ts[i]?=some t0:=(by rw[hpre,List.getElem?_append_left hlt];rw[List.getElem?_append_left hlt]at ht0;exact ht0);exact(h.calls i t0 he1).far G (fun n j hn=>by
     rcases hn with rfl|rfl<;>simp;intro e;exact absurd e hi)
  ps:=h.ps.far G (by simp)
  es:=h.es.far G (by simp)
  ends:=fun i e he=>(h.ends i e he).far G (fun n j hn=>by rcases hn with rfl|rfl|rfl<;>simp)}
theorem z27{w w4:World}{own:Nat->Option T}{pb i:Nat}{m:M}{v v':Value}{tag:T}{e sz n n':Nat}{xs ys:List Value}(h:RAt w own pb m)(hrow:RowT w own tag e sz v n xs)(ht:tag≠(0,0,0))
  (h':w4.ownsRow 0 e sz v' n' ys)(k:Keep (fun g=>v.ownBlock=some g) w w4)(hb:v'.ownBlock=v.ownBlock\/∃g,v'.ownBlock=some g/\w.heap.size<=g):
  Grown (fun t=>t=tag\/t=(0,0,0)) w (w4.setCell ⟨pb,i,none⟩ v') own (put own v' tag)/\RowT (w4.setCell ⟨pb,i,none⟩ v') (put own v' tag) tag e sz v' n' ys/\
   (w4.setCell ⟨pb,i,none⟩ v').heap[pb]?=some (.cells (m.rcells.setIfInBounds i v') 68 (0,0)):=by
 have hpl:=h.low pb (by rw[h.tag];simp);have hne:v'.ownBlock≠some pb:=by
  intro e;rcases hb with hb|⟨g,hb,hl⟩
  ·rw[hb]at e;have:=hrow.tag pb e;rw[h.tag]at this;exact ht (Option.some.inj this).symm
  ·rw[hb]at e;cases e;omega
 have hpb:=k.same h.blk (fun e=>by have:=hrow.tag pb e;rw[h.tag]at this;exact ht (Option.some.inj this).symm);exact⟨qm v' h.low hrow h' k hb h.tag,xO v' h' hne,zg hpb i v'⟩
theorem RAt.task_push{w w4:World}{own:Nat->Option T}{pb:Nat}{m:M}(h:RAt w own pb m){v':Value}(h':w4.ownsRow 0 56 1 v' (m.ts.length+1) (m.ts.map (·.v)++[.slice none 0 0]))
  (k:Keep (fun g=>m.tv.ownBlock=some g) w w4)(hb:v'.ownBlock=m.tv.ownBlock\/∃g,v'.ownBlock=some g/\w.heap.size<=g):
  ∃own',RAt (w4.setCell ⟨pb,10,none⟩ v') own' pb (m.newTask v')/\To own own' w (w4.setCell ⟨pb,10,none⟩ v'):=by
 obtain⟨G,hr,hbk⟩:=z27 (i:=10) h h.ts (by decide) h' k hb;refine⟨_,?_,G.to⟩
 exact{
  low:=G.low
  blk:=hbk
  tag:=G.old _ _ h.tag
  fs:=h.fs.far G (by simp)
  ts:=by
   show RowT _ _ _ _ _ v' (m.ts++[(⟨.slice none 0 0,[]⟩:MT)]).length ((m.ts++[(⟨.slice none 0 0,[]⟩:MT)]).map (·.v))
   rw[List.length_append,List.map_append];exact hr
  calls:=fun i t ht=>by
   by_cases hi:i=m.ts.length
   ·subst hi;obtain rfl:t=⟨.slice none 0 0,[]⟩:=(by simpa[M.newTask]using ht.symm);exact⟨RowT.nil _ _ _ _ _,fun j c hc=>by simp at hc⟩
   ·have hlt:i<m.ts.length:=by
     have:=yk ht;simp[M.newTask]at this;omega
    rw[show(m.newTask v').ts=m.ts++[⟨.slice none 0 0,[]⟩]from rfl,List.getElem?_append_left hlt]at ht;exact(h.calls i t ht).far G (fun n j hn=>by rcases hn with rfl|rfl<;>simp)
  ps:=h.ps.far G (by simp)
  es:=h.es.far G (by simp)
  ends:=fun i e he=>(h.ends i e he).far G (fun n j hn=>by rcases hn with rfl|rfl|rfl<;>simp)}
theorem RAt.pick_push{w w4:World}{own:Nat->Option T}{pb:Nat}{m:M}(h:RAt w own pb m)(n:Int){v':Value}(h':w4.ownsRow 0 3 1 v' (m.ps.length+1) (m.ps.map (Value.int .i64)++[.int .i64 n]))
  (k:Keep (fun g=>m.pv.ownBlock=some g) w w4)(hb:v'.ownBlock=m.pv.ownBlock\/∃g,v'.ownBlock=some g/\w.heap.size<=g):
  ∃own',RAt (w4.setCell ⟨pb,11,none⟩ v') own' pb (m.pick n v')/\To own own' w (w4.setCell ⟨pb,11,none⟩ v'):=by
 obtain⟨G,hr,hbk⟩:=z27 (i:=11) h h.ps (by decide) h' k hb;refine⟨_,?_,G.to⟩
 exact{
  low:=G.low
  blk:=hbk
  tag:=G.old _ _ h.tag
  fs:=h.fs.far G (by simp)
  ts:=h.ts.far G (by simp)
  calls:=fun i t ht=>(h.calls i t ht).far G (fun n j hn=>by rcases hn with rfl|rfl<;>simp)
  ps:=by show RowT _ _ _ _ _ v' (m.ps++[n]).length ((m.ps++[n]).map (Value.int .i64));rw[List.length_append,List.map_append];exact hr
  es:=h.es.far G (by simp)
  ends:=fun i e he=>(h.ends i e he).far G (fun n j hn=>by rcases hn with rfl|rfl|rfl<;>simp)}
theorem RAt.end_push{w w4:World}{own:Nat->Option T}{pb:Nat}{m:M}(h:RAt w own pb m)(dir:Int){kv:Value}{ks:List MK}(hk:KsAt w own m.es.length kv ks){v':Value}(h':w4.ownsRow 0 82 3 v' (m.es.length+1) (m.es.flatMap ME.cells++[.int .i64 dir,kv,.slice none 0 0]))
  (k:Keep (fun g=>m.ev.ownBlock=some g) w w4)(hb:v'.ownBlock=m.ev.ownBlock\/∃g,v'.ownBlock=some g/\w.heap.size<=g):
  ∃own',RAt (w4.setCell ⟨pb,13,none⟩ v') own' pb (m.newEnd dir kv ks v')/\To own own' w (w4.setCell ⟨pb,13,none⟩ v'):=by
 obtain⟨G,hr,hbk⟩:=z27 (i:=13) h h.es (by decide) h' k hb;refine⟨_,?_,G.to⟩
 exact{
  low:=G.low
  blk:=hbk
  tag:=G.old _ _ h.tag
  fs:=h.fs.far G (by simp)
  ts:=h.ts.far G (by simp)
  calls:=fun i t ht=>(h.calls i t ht).far G (fun n j hn=>by rcases hn with rfl|rfl<;>simp)
  ps:=h.ps.far G (by simp)
  es:=by show RowT _ _ _ _ _ v' (m.es++[(⟨dir,kv,ks,.slice none 0 0,[]⟩:ME)]).length ((m.es++[(⟨dir,kv,ks,.slice none 0 0,[]⟩:ME)]).flatMap ME.cells);rw[List.length_append,List.flatMap_append];exact hr
  ends:=fun i e he=>by
   by_cases hi:i=m.es.length
   ·subst hi;obtain rfl:e=⟨dir,kv,ks,.slice none 0 0,[]⟩:=(by simpa[M.newEnd]using he.symm);exact⟨hk.keeps.far G (by simp),fun j kk hj=>(hk.junk j kk hj).far G (by simp),RowT.nil _ _ _ _ _⟩
   ·have hlt:i<m.es.length:=by
     have:=yk he;simp[M.newEnd]at this;omega
    rw[show(m.newEnd dir kv ks v').es=m.es++[⟨dir,kv,ks,.slice none 0 0,[]⟩]from rfl,List.getElem?_append_left hlt]at he;exact(h.ends i e he).far G (fun n j hn=>by rcases hn with rfl|rfl|rfl<;>simp)}
theorem KsAt.rpush{w w4:World}{own:Nat->Option T}{pb i b o:Nat}{m:M}{tb:T}{kv:Value}{ks:List MK}(h:RAt w own pb m)(hk:KsAt w own m.es.length kv ks)(hbt:own b=some tb)(htb:tb.1=10)(kp:Kp){d v':Value}
  (h':w4.ownsRow 0 84 2 v' (ks.length+1) (ks.flatMap MK.cells++MK.cells ⟨kp,d⟩))(hd:w4.ownsRow w.heap.size 5 1 d kp.junk.length (u8v kp.junk))(hdv:∀g,v'.ownBlock=some g->d.ownBlock≠some g)
  (k:Keep (fun g=>kv.ownBlock=some g) w w4)(hb:v'.ownBlock=kv.ownBlock\/∃g,v'.ownBlock=some g/\w.heap.size<=g):
  ∃own',RAt (w4.setCell ⟨b,o,none⟩ v') own' pb m/\KsAt (w4.setCell ⟨b,o,none⟩ v') own' m.es.length v' (ks++[⟨kp,d⟩])/\own' b=some tb/\To own own' w (w4.setCell ⟨b,o,none⟩ v'):=by
 have hrow:=hk.keeps;have G1:Grown (fun x=>x=(7,m.es.length,0)\/x=tb) w (w4.setCell ⟨b,o,none⟩ v') own (put own v' (7,m.es.length,0)):=qm v' h.low hrow h' k hb hbt;have kset:Keep (fun g=>g=b) w4 (w4.setCell ⟨b,o,none⟩ v'):=(Keep.refl (fun g=>g=b) w4).setCell (p:=⟨b,o,none⟩) (Or.inl rfl) v';have hdg:∀g,d.ownBlock=some g->w.heap.size<=g:=fun g hg=>by
  rcases hd.2 with⟨h2,-⟩|⟨g3,cap,cur,h2,h3,-⟩
  ·rw[h2]at hg;cases hg
  ·rw[h2]at hg;cases hg;exact h3
 have hbl:=h.low b (by rw[hbt];simp);have hd5:(w4.setCell ⟨b,o,none⟩ v').ownsRow w.heap.size 5 1 d kp.junk.length (u8v kp.junk):=zf hd kset fun g hg e=>(by have:=hdg g hg;omega);have G:=G1.also (t:=(8,m.es.length,ks.length)) h.low hd5;have htb7:∀x y,tb≠(7,x,y):=fun x y e=>(by rw[e]at htb;simp at htb);have hv2:v'.ownBlock≠some b:=by
  intro e;rcases hb with hb|⟨g,hb,hlb⟩
  ·rw[hb]at e;have:=hrow.tag b e;rw[hbt]at this;exact htb7 _ _ (Option.some.inj this)
  ·rw[hb]at e;cases e;omega
 have hrow':=(xO (own:=own) (tag:=(7,m.es.length,0)) (i:=o) v' h' hv2).also (t:=(8,m.es.length,ks.length)) hdv;refine⟨_,h.far G ?_,⟨?_,fun j x hx=>?_⟩,?_,G.to⟩
 ·rintro t (rfl|rfl)
  ·exact⟨by simp,by simp,by simp,by simp,by simp,by simp,fun _=>Nat.le_refl _⟩
  ·unfold zea;rw[htb];simp
 ·rw[List.length_append,show(ks++[(⟨kp,d⟩:MK)]).flatMap MK.cells=ks.flatMap MK.cells++MK.cells ⟨kp,d⟩ by simp];exact hrow'
 ·by_cases hj:j=ks.length
  ·subst hj;obtain rfl:x=⟨kp,d⟩:=(by simpa using hx.symm);exact⟨qx hd5 fun g hg=>Nat.zero_le _,z1H _ _ _⟩
  ·have hlt:j<ks.length:=by
    have:=yk hx;simp at this;omega
   rw[List.getElem?_append_left hlt]at hx;refine(hk.junk j x hx).far G ?_;rintro(e|e)
   ·cases e
   ·rw[<-e]at htb;simp at htb
 ·exact G.old _ _ hbt
theorem RAt.rows{w:World}{own:Nat->Option T}{pb:Nat}{m:M}(h:RAt w own pb m):LAt w own m:=⟨h.low,h.fs,h.ts,h.calls,h.ps,h.es,h.ends⟩
structure Wr (w0 W:World) (v:Value) (l:List Str):Prop where
 k:Keep (fun _=>False) w0 W
 t:W.ownsRow w0.heap.size 9 1 v l.length (l.map qE)
theorem xL{w:World}{base sz n:Nat}{e:TypeId}{v:Value}{xs:List Value}(h:w.ownsRow base e sz v n xs){g:Nat}(hg:v.ownBlock=some g):base<=g:=by
 rcases h.2 with⟨h1,-⟩|⟨g2,c2,cur,h1,h2,-⟩
 ·rw[h1]at hg;cases hg
 ·rw[h1]at hg;cases hg;exact h2
theorem Wr.kept{w0 W W':World}{v:Value}{l:List Str}(h:Wr w0 W v l)(k:Keep (fun _=>False) W W'):Wr w0 W' v l:=⟨h.k.trans k,zf h.t k fun _ _=>id⟩
theorem xM{w0 W:World}{v:Value}{l:List Str}(h:Wr w0 W v l)(s:Str){ops:Array Oper}{rest:List Oper}{o:Oper}{a:Act}{Q:Exit->Act->World->Prop}(hgd:o.guard=none)(sl x:Operand)
  (ho:o.op=.call {callee:=.builtin .append,args:=#[sl,x],argTypes:=#[22,22]})(hs:a.eval sl=v)(hx:a.eval x=.slice (some ⟨W.heap.size,0,none⟩) 1 1)(hn:l.length<=1073741824)
  (hk:∀v' W',Wr w0 W' v' (l++[s])->wpList Tryz.prog ops Q rest (a.put o.dst v') W'):wpList Tryz.prog ops Q (o::rest) a (W.alloc (.cells #[.string (zc s)] 9 (0,0))):=by
 have h2:=h.kept ((Keep.refl _ W).alloc (.cells #[.string (zc s)] 9 (0,0)));obtain⟨i0,hi0,hz0,hz1,hz2⟩:=z8G;refine wpList_append_own_at _ hgd sl x 22 ho w0.heap.size 9 i0 _ 1 16 Tryz.underlying22 hi0 hz0 hz1 hz2 rfl (by decide) v l.length (l.map qE) hs h2.t ⟨W.heap.size,0,none⟩ 1 1 [.string (zc s)] hx rfl (cell_one_new _ _ _) (by simp[Value.oneCell']) (by unfold maxLen;omega) (by omega) h2.k.size ?_;intro v2 w5 hrow hgr _ hblk;refine hk _ _ ⟨h2.k.own (zp hgr) fun i hi=>Or.inr (xL h2.t hi),?_⟩;rw[List.length_append,List.map_append];exact hrow
theorem z0Y{s:Str}{i:Nat}(h:i<s.length):yn (s.drop i)=if(s[i]).toNat=35 then[]else s[i]::yn (s.drop (i+1)):=by
 rw[List.drop_eq_getElem_cons h];unfold yn;rw[List.takeWhile_cons];by_cases hc:(s[i]).toNat=35
 ·rw[if_pos hc,decide_eq_false (by simpa using hc)];rfl
 ·rw[if_neg hc,decide_eq_true hc];rfl
theorem zdd{s:Str}{i:Nat}(h:i<s.length):(zc s).extract i (i+1)=zc [s[i]]:=by have h1:=z0p (s:=s) (fr:=i) (k:=i+1) (by omega) h;rw[h1];unfold cur;rw[show i+1-i=1 by omega,List.drop_eq_getElem_cons h];rfl
def zff(s:Str)(w:World)(e:Ending)(w':World):Prop:=
 (((yn s).all okB=true/\∃v,e=.returned (.tuple #[v,.bool true])/\w'.ownsRow w.heap.size 9 1 v (zu (yn s)).length ((zu (yn s)).map qE))\/((yn s).all okB=false/\e=.returned (.tuple #[.slice none 0 0,.bool false])))/\Keep (fun _=>False) w w'
theorem z30(s:Str)(w:World)(hs:s.length<=1073741824):Calls Tryz.prog 20 #[.string (zc s)] w (zff s w):=by
 obtain⟨N,hN⟩:=Qx s.length;have hZ:((zc s).size:Int)=(N:Int):=(by rw[zw s,hN]);have HCH:=Qh (qu s);have HEX:=Qh (fun(i:Nat) (h:i<s.length)=>zdd (s:=s) h);have HN:=Qh hN;rw[hN]at hs;generalize hS:zc s=S at*
 clear hN hS;go_in;go_wp2_with fail;go_loopg[4,5,6] N (fun gq s4 s5 s6 wr=>∃(i:Nat) (l:List Str) (cur:Str) (cw:ByteArray),gq+i=N/\s6=.int .i64 (i:Int)/\s5=.string cw/\Hid (cw=zc cur/\Wr w wr s4 l/\zu (yn s)=l++wsp cur (yn (s.drop i))/\(yn s).all okB=(yn (s.drop i)).all okB/\cur.length<=i/\l.length<=i))
 case atStart=>exact⟨0,[],[],⟨#[]⟩,by omega,rfl,rfl,rfl,⟨Keep.refl _ _,yi _ _ _ _⟩,by simp[zu],by simp,Nat.le_refl _,Nat.le_refl _⟩
 case round=>
  obtain⟨i,l,cur,cw,hgi,rfl,rfl,HK⟩:=hrel;have hi0:(0:Int)<=(i:Int):=(by omega);have hle:(i:Int)<=(N:Int):=(by omega);have hlb:l.length<=1073741824:=(by have:=HK.2.2.2.2.2;omega);have HLB:=Qh hlb;clear hlb;have hem:cw.toList.isEmpty=decide (cur=[]):=(by rw[HK.1,ByteArray.toList_eq,ze];cases cur<;>rfl);by_cases hiN:i=N
  ·subst hiN
   have hb0:yn (s.drop i)=[]:=(by rw[List.drop_of_length_le (by rw[HN.out];exact Nat.le_refl _)];rfl);have hall:(yn s).all okB=true:=(by rw[HK.2.2.2.1,hb0];rfl);have hwd:=HK.2.2.1;rw[hb0]at hwd;by_cases hcu:cur=[]
   ·rw[decide_eq_true hcu]at hem;have HW:=Qh (Qa hall (show zu (yn s)=l from by rw[hwd,hcu];simp[wsp]));have HG:=Qh HK.2.1;clear hwd hall hb0 hcu;go_wp2_with fail;go_ret2;exact⟨Or.inl ⟨HW.1,_,rfl,by rw[HW.2];exact HG.t⟩,HG.k⟩
   ·rw[decide_eq_false hcu]at hem;have HW:=Qh (Qa hall (show zu (yn s)=l++[cur]from by rw[hwd];simp[wsp,hcu]));obtain⟨e1,hk1⟩:=(show cw=zc cur/\Wr w wr u4 l from⟨HK.1,HK.2.1⟩);subst e1;clear hwd hall hb0 hcu;go_wp2_with(at_builtin;refine xM HK.2.1 cur rfl (.tmp 37) (.tmp 39) rfl rfl rfl HLB.out ?_;intro v4 w4 hwr;have HG:=Qh hwr;clear hwr);go_ret2;exact⟨Or.inl ⟨HW.1,_,rfl,by rw[HW.2];exact HG.t⟩,HG.k⟩
  ·have hlt:(i:Int)<(N:Int):=by omega
   have hne:((i:Int)==(N:Int))=false:=Qb (by omega);have hil:i<s.length:=(by rw[HN.out];omega);have hin:i<S.size:=(by omega);have hcc:=HCH.out i hil;obtain⟨c,hch⟩:∃c,ch S (i:Int)=c:=⟨_,rfl⟩;rw[hch]at hcc;by_cases hc35:c=35
   ·have hb0:yn (s.drop i)=[]:=by rw[z0Y hil,if_pos (by rw[<-hcc];exact hc35)]
    have hall:(yn s).all okB=true:=(by rw[HK.2.2.2.1,hb0];rfl);have hwd:=HK.2.2.1;rw[hb0]at hwd;rw[hc35]at hch;clear hcc hil;by_cases hcu:cur=[]
    ·rw[decide_eq_true hcu]at hem;have HW:=Qh (Qa hall (show zu (yn s)=l from by rw[hwd,hcu];simp[wsp]));have HG:=Qh HK.2.1;clear hwd hall hb0 hcu;go_wp2_with fail;go_ret2;exact⟨Or.inl ⟨HW.1,_,rfl,by rw[HW.2];exact HG.t⟩,HG.k⟩
    ·rw[decide_eq_false hcu]at hem;have HW:=Qh (Qa hall (show zu (yn s)=l++[cur]from by rw[hwd];simp[wsp,hcu]));obtain⟨e1,hk1⟩:=(show cw=zc cur/\Wr w wr u4 l from⟨HK.1,HK.2.1⟩);subst e1;clear hwd hall hb0 hcu;go_wp2_with(at_builtin;refine xM HK.2.1 cur rfl (.tmp 37) (.tmp 39) rfl rfl rfl HLB.out ?_;intro v4 w4 hwr;have HG:=Qh hwr;clear hwr);go_ret2;exact⟨Or.inl ⟨HW.1,_,rfl,by rw[HW.2];exact HG.t⟩,HG.k⟩
   have n35:((c:Int)==35)=false:=Qb (by omega);by_cases hc32:c=32
   ·have hbl:yC s[i]=true:=by unfold yC;rw[<-hcc,hc32];rfl
    have hbd:=z0Y hil;rw[if_neg (by rw[<-hcc,hc32];decide)]at hbd;have hall:(yn s).all okB=(yn (s.drop (i+1))).all okB:=(by rw[HK.2.2.2.1,hbd,List.all_cons,show okB s[i]=true from by unfold okB;rw[hbl];rfl,Bool.true_and]);have hwd:=HK.2.2.1;rw[hbd,wsp,if_pos hbl]at hwd;have hll:=HK.2.2.2.2.2;rw[hc32]at hch;by_cases hcu:cur=[]
    ·rw[decide_eq_true hcu]at hem
     (rw[if_pos hcu]at hwd;have HW:=Qh (Qa hwd (Qa hall hll));have HG:=Qh HK.2.1;clear hwd hall hbd hcu hbl hcc hil hll;go_wp2_with fail;go_roundg(gk-1);all_goals first|omega|skip);exact⟨i+1,l,[],⟨#[]⟩,by omega,by simp,rfl,rfl,HG.out,HW.1,HW.2.1,Nat.zero_le _,Nat.le_succ_of_le HW.2.2⟩
    ·rw[decide_eq_false hcu]at hem
     (rw[if_neg hcu]at hwd;have HW:=Qh (Qa hwd (Qa hall hll));have e1:=HK.1;subst e1;clear hwd hall hbd hcu hbl hcc hil hll;go_wp2_with(at_builtin;refine xM HK.2.1 cur rfl (.tmp 37) (.tmp 39) rfl rfl rfl HLB.out ?_;intro v4 w4 hwr;have HG:=Qh hwr;clear hwr);go_roundg(gk-1);all_goals first|omega|skip);exact⟨i+1,l++[cur],[],⟨#[]⟩,by omega,by simp,rfl,rfl,HG.out,by rw[HW.1];simp,HW.2.1,Nat.zero_le _,by rw[List.length_append];exact Nat.succ_le_succ HW.2.2⟩
   have n32:((c:Int)==32)=false:=Qb (by omega);by_cases hc9:c=9
   ·have hbl:yC s[i]=true:=by unfold yC;rw[<-hcc,hc9];rfl
    have hbd:=z0Y hil;rw[if_neg (by rw[<-hcc,hc9];decide)]at hbd;have hall:(yn s).all okB=(yn (s.drop (i+1))).all okB:=(by rw[HK.2.2.2.1,hbd,List.all_cons,show okB s[i]=true from by unfold okB;rw[hbl];rfl,Bool.true_and]);have hwd:=HK.2.2.1;rw[hbd,wsp,if_pos hbl]at hwd;have hll:=HK.2.2.2.2.2;rw[hc9]at hch;by_cases hcu:cur=[]
    ·rw[decide_eq_true hcu]at hem
     (rw[if_pos hcu]at hwd;have HW:=Qh (Qa hwd (Qa hall hll));have HG:=Qh HK.2.1;clear hwd hall hbd hcu hbl hcc hil hll;go_wp2_with fail;go_roundg(gk-1);all_goals first|omega|skip);exact⟨i+1,l,[],⟨#[]⟩,by omega,by simp,rfl,rfl,HG.out,HW.1,HW.2.1,Nat.zero_le _,Nat.le_succ_of_le HW.2.2⟩
    ·rw[decide_eq_false hcu]at hem
     (rw[if_neg hcu]at hwd;have HW:=Qh (Qa hwd (Qa hall hll));have e1:=HK.1;subst e1;clear hwd hall hbd hcu hbl hcc hil hll;go_wp2_with(at_builtin;refine xM HK.2.1 cur rfl (.tmp 37) (.tmp 39) rfl rfl rfl HLB.out ?_;intro v4 w4 hwr;have HG:=Qh hwr;clear hwr);go_roundg(gk-1);all_goals first|omega|skip);exact⟨i+1,l++[cur],[],⟨#[]⟩,by omega,by simp,rfl,rfl,HG.out,by rw[HW.1];simp,HW.2.1,Nat.zero_le _,by rw[List.length_append];exact Nat.succ_le_succ HW.2.2⟩
   have n9:((c:Int)==9)=false:=Qb (by omega);have hbl:yC s[i]=false:=(by unfold yC;rw[<-hcc,decide_eq_false hc32,decide_eq_false hc9];rfl);have hbd:=z0Y hil;rw[if_neg (by rw[<-hcc];exact hc35)]at hbd;have hok:okB s[i]=decide (33<=c/\c<=126):=(by unfold okB;rw[hbl,<-hcc];simp);have hall:(yn s).all okB=(decide (33<=c/\c<=126)&&(yn (s.drop (i+1))).all okB):=(by rw[HK.2.2.2.1,hbd,List.all_cons,hok]);have hwd:=HK.2.2.1;rw[hbd,wsp,if_neg (by rw[hbl];decide)]at hwd;by_cases c1:c<33
   ·have i1:(c:Int)<33:=(by omega);have HW:=Qh (show(yn s).all okB=false from by rw[hall,decide_eq_false (by omega)];rfl);have HG:=Qh HK.2.1;clear hall hwd hok hbd hbl hcc hil hc35 hc32 hc9 c1;go_wp2_with fail;go_ret2;exact⟨Or.inr ⟨HW.out,rfl⟩,HG.k⟩
   have i1:¬(c:Int)<33:=(by omega);by_cases c2:126<c
   ·have i2:(126:Int)<(c:Int):=(by omega);have HW:=Qh (show(yn s).all okB=false from by rw[hall,decide_eq_false (by omega)];rfl);have HG:=Qh HK.2.1;clear hall hwd hok hbd hbl hcc hil hc35 hc32 hc9 c1 c2;go_wp2_with fail;go_ret2;exact⟨Or.inr ⟨HW.out,rfl⟩,HG.k⟩
   (have i2:¬(126:Int)<(c:Int):=(by omega);rw[decide_eq_true (by omega),Bool.true_and]at hall;have hext:=HEX.out i hil;obtain⟨e1,he1⟩:=Qx (zc [s[i]]);have hz1:e1.size=1:=(by rw[<-he1];rfl);have hcz:cw.size=cur.length:=(by rw[HK.1,zw]);have hcl:=HK.2.2.2.2.1;have m1:¬9223372036854775807<cw.size+e1.size:=(by omega);have u1:cw++e1=zc (cur++[s[i]]):=(by rw[HK.1,<-he1];unfold zc;apply ByteArray.ext;simp);rw[he1]at hext;obtain⟨cw2,hcw2⟩:=Qx (zc (cur++[s[i]]));rw[hcw2]at u1;have HW:=Qh (Qa hwd (Qa hall (Qa hcw2.symm (Qa hcl HK.2.2.2.2.2))));have HG:=Qh HK.2.1;clear hall hwd hok hbd hbl hcc hc35 hc32 hc9 c1 c2 he1 hcw2 hcl hz1 hcz hem;have hiw:IntKind.i64.wrap ((i:Int)+1)=(i:Int)+1:=(by rw[IntKind.wrap_i64];omega);clear hiw;go_wp2_with fail;go_roundg(gk-1);all_goals first|omega|skip);exact⟨i+1,l,cur++[s[i]],cw2,by omega,by simp,rfl,HW.2.2.1,HG.out,HW.1,HW.2.1,by rw[List.length_append];exact Nat.succ_le_succ HW.2.2.2.1,Nat.le_succ_of_le HW.2.2.2.2⟩
theorem z31(s:Str)(w:World)(hs:s.length<=1073741824):
  Calls Tryz.prog 90 #[.string (zc s)] w (zfH s true w):=by
 have h45:((zc [45]).toList==[45])=true:=(by rw[ByteArray.toList_eq,ze];rfl);have hz45:(zc [45]).size=1:=rfl;by_cases h1:s=[45]
 ·subst h1;go_in;go_wp2_with fail;go_ret2;exact⟨Or.inl ⟨[],_,rfl,rfl,yi _ _ _ _⟩,Keep.refl _ _⟩
 ·obtain⟨N,hN⟩:=Qx s.length
  have hZ:((zc s).size:Int)=(N:Int):=(by rw[zw s,hN]);have hb:((zc s).toList==[45])=false:=yr (by rw[ze];exact h1);have HX:=Qh (show y9 s true=if s=[]\/s.length%2≠0 then none else zL s from by unfold y9;rw[if_neg (fun h=>h1 h.1)]);have HCH:=Qh (qu s);clear h1 h45 hz45;generalize hS:zc s=S at*
  clear hS;by_cases h0:N=0
  ·have hz0:(S.size:Int)=0:=(by omega);have hr:y9 s true=none:=(by rw[HX.out,if_pos (Or.inl (List.length_eq_zero_iff.1 (by omega)))]);have HR:=Qh hr;clear hr hZ;go_in;go_wp2_with fail;go_ret2;exact⟨Or.inr ⟨HR.out,rfl⟩,Keep.refl _ _⟩
  ·have hz0:¬(S.size:Int)=0:=by omega
   have hz1:((N:Int)==0)=false:=Qb (by omega);by_cases h2:N%2=0
   ·have hm:((N:Int)%2==1)=false:=Qb (by omega)
    obtain⟨K,hK⟩:∃K,N=2*K:=⟨N/2,by omega⟩;have HR:=Qh (show y9 s true=zL s from by rw[HX.out,if_neg (by rintro(h|h);(subst h;simp at hN;omega);(rw[hN]at h;exact h h2))]);have HN:=Qh (Qa hN hK);clear hN h2 h0 HX hK;go_in;go_wp2_with fail;go_loopg[4,5,6,7] K (fun gq s6 s7 s8 s9 wr=>∃(k:Nat) (out:Str),gq+k=K/\s7=.int .i64 ((2*k:Nat):Int)/\Hid (zL (s.take (2*k))=some out/\out.length=k/\wr.ownsRow w.heap.size 5 1 s6 k (u8v out)/\Keep (fun _=>False) w wr))
    case atStart=>exact⟨0,[],by omega,rfl,by simp[zL],rfl,yi _ _ _ _,Keep.refl _ _⟩
    case round=>
     obtain⟨k,out,hgk,rfl,HK⟩:=hrel;by_cases hk:k<K
     ·have hkl:2*k+1<s.length:=by rw[HN.1,HN.2];omega
      have HS:=Qh (z1c k s hkl);have hc1:=HCH.out (2*k) (by omega);have hc2:=HCH.out (2*k+1) hkl;have ha:UInt8.ofNat (ch S ((2*k:Nat):Int))=s[2*k]:=(by rw[hc1];simp);have hb2:UInt8.ofNat (ch S (((2*k+1:Nat)):Int))=s[2*k+1]:=(by rw[hc2];simp);rw[<-ha,<-hb2]at HS;obtain⟨J,hJ⟩:=Qx (2*k);have hJ1:((2*k+1:Nat):Int)=(J:Int)+1:=(by omega);have hJ0:(0:Int)<=(J:Int):=(by omega);have hJm:(J:Int)<=1073741824:=(by have:=HN.1;have:=HN.2;omega);have hJa:(J:Int)<(N:Int):=(by have:=HN.2;omega);have hJb:(J:Int)+1<(N:Int):=(by have:=HN.2;omega);have hJc:(0:Int)<=(J:Int)+1:=(by omega);have hJn:(J:Nat)<S.size:=(by omega);have HJ:=Qh hJ;rw[hJ1]at HS;rw[hJ]at HS HK⊢
      clear hJ hJ1 ha hb2 hc1 hc2 hkl;have r1:=yU S (J:Int);have r2:=yU S ((J:Int)+1);generalize hna:ch S (J:Int)=na at*
      generalize hnb:ch S ((J:Int)+1)=nb at*
      have HI:=Qh z7z;have hda:=xA (UInt8.ofNat na);have hdb:=xA (UInt8.ofNat nb);have HD:=Qh (Qa (show qS na=yT (UInt8.ofNat na)from rfl) (show qS nb=yT (UInt8.ofNat nb)from rfl));rw[<-HD.1]at HS hda;rw[<-HD.2]at HS hdb;clear HD;go_wp2_with fail;go_quiet((go_at_call 105;exact Calls.quiet_of_same (HI.out _ _ (by assumption))));have HB:=Qh HK.out;have hnone:∀h:qS na<0\/qS nb<0,y9 s true=none:=fun h=>(by rw[HR.out];refine z1d (k+1) s (by have:=HN.1;have:=HN.2;omega) ?_;rw[HS.out,HK.1,Option.bind_some,if_pos h]);by_cases g1:qS na<0
      ·have HX:=Qh (hnone (Or.inl g1));clear hnone;go_wp2_with fail;go_ret2;exact⟨Or.inr ⟨HX.out,rfl⟩,HB.2.2.2.drewN _⟩
      by_cases g2:qS nb<0
      ·have HX:=Qh (hnone (Or.inr g2));clear hnone;go_wp2_with fail;go_ret2;exact⟨Or.inr ⟨HX.out,rfl⟩,HB.2.2.2.drewN _⟩
      have HS2:=HS.out;rw[HK.1,Option.bind_some,if_neg (fun h=>h.elim g1 g2)]at HS2;clear hnone;obtain⟨p,hp⟩:∃p:Nat,qS na=p:=⟨(qS na).toNat,by omega⟩;obtain⟨q,hq⟩:∃q:Nat,qS nb=q:=⟨(qS nb).toNat,by omega⟩;rw[hp]at HS2 hda g1⊢
      rw[hq]at HS2 hdb g2⊢
      rw[Int.toNat_natCast,Int.toNat_natCast]at HS2;have HP:=Qh HS2;clear HS HS2;have hp1:p<=15:=(by omega);have hq1:q<=15:=(by omega);clear hp hq HI g1 g2 hda hdb;obtain⟨t,ht⟩:=Qx ((UInt8.ofNat (p*16+q)).toNat);obtain⟨m16,hm16⟩:=Qx (p*16);obtain⟨r16,hr16⟩:=Qx (m16+q);have w1:IntKind.i64.wrap ((p:Int)*16)=(m16:Int):=(by rw[IntKind.wrap_i64];omega);have w2:IntKind.i64.wrap ((m16:Int)+(q:Int))=(r16:Int):=(by rw[IntKind.wrap_i64];omega);have w3:IntKind.u8.wrap (r16:Int)=(t:Int):=(by rw[IntKind.wrap_u8,<-ht,UInt8.toNat_ofNat'];omega);have HV:=Qh ht;clear ht hm16 hr16;have hrow:((wr.drewN nq).alloc (.cells #[.int .u8 ((t:Int))] 5)).ownsRow w.heap.size 5 1 u4 k (u8v out):=zf HB.2.2.1 (((Keep.refl (fun _=>False) wr).drewN nq).alloc _) fun _ _=>id;have HW:=Qh (Qa hrow (Qa HB.2.1 HB.2.2.2));have HPP:=Qh (Qa HP.out HB.2.1);obtain⟨i0,hi,hz0,hz1,hz2⟩:=z3q;have hkb:k<=1073741824:=(by have:=HJ.out;omega);clear HP hrow HB HK;go_wp2_with(at_builtin;refine qL _ rfl (.tmp 40) (.tmp 46) 53 rfl w.heap.size 5 i0 (.int .u8 0) 1 Tryz.underlying53 hi hz0 hz1 hz2 rfl u4 k _ rfl HW.1 ⟨wr.heap.size,0,none⟩ 1 (.int .u8 ((t:Int))) rfl ?_ rfl ?_ ?_ ?_ ?_)
      ·exact za (zm _ _) 0
      ·unfold maxLen;omega
      ·omega
      ·have:=HW.2.2.size;simp[World.drewN];omega
      ·intro g cap w4 hown hgr hblk hbase
       have k4:Keep (fun q=>u4.ownBlock=some q) wr w4:=(((Keep.refl (fun q=>u4.ownBlock=some q) wr).drewN nq).alloc _).trans (zp hgr);have H4:=Qh (Qa hown k4);clear hown hgr hblk hbase k4;go_wp2_with fail;go_roundg(gk-1);all_goals first|omega|skip
       case rel=>
        refine⟨k+1,out++[UInt8.ofNat (p*16+q)],by omega,?_,HPP.1,by rw[List.length_append,HPP.2];rfl,?_,?_⟩
        ·exact congrArg (Value.int .i64) (by have:=HJ.out;omega)
        ·have h:=H4.1;rw[<-HV.out]at h;rw[show u8v (out++[UInt8.ofNat (p*16+q)])=u8v out++[.int .u8 (((UInt8.ofNat (p*16+q)).toNat:Nat):Int)]from by simp[u8v]];exact h
        ·refine HW.2.2.own H4.2 fun i hi=>Or.inr ?_
         rcases HW.1.2 with⟨h1,-⟩|⟨g2,c2,cur,h1,h2,-⟩
         ·rw[h1]at hi;cases hi
         ·rw[h1]at hi;cases hi;exact h2
     ·obtain rfl:k=K:=(by omega);have hlen:=HN.out;obtain⟨h1,h2,h3,h4⟩:=HK.out;rw[List.take_of_length_le (by omega),<-HR.out]at h1;have HB:=Qh (Qa h1 (Qa h2 (Qa h3 h4)));have hJN:((2*k:Nat):Int)=(N:Int):=(by omega);rw[hJN];clear h1 h2 h3 h4 HK hlen hJN;go_wp2_with fail;go_ret2;refine⟨Or.inl ⟨out,_,HB.1,rfl,?_⟩,HB.2.2.2⟩;rw[HB.2.1];exact HB.2.2.1
   ·have hr:y9 s true=none:=(by rw[HX.out,if_pos (Or.inr (by rw[hN];exact h2))]);have HR:=Qh hr;have hm:((N:Int)%2 != 0)=true:=(by rw[bne_iff_ne];omega);clear hr;go_in;go_wp2_with fail;go_ret2;exact⟨Or.inr ⟨HR.out,rfl⟩,Keep.refl _ _⟩
theorem z87{w w':World}{a:Addr}{u:Value}(k:Keep (fun _=>False) w w')(h:w.cell? a=some u):w'.cell? a=some u:=
 (k.cell (p:=a) (World.block_lt_of_cell? w a h) id).trans h
def xf(g:Nat)(cs:Array Value):List (Nat×Nat)->List Int->Array Value
 |a::ads,n::ns=>xf g (if a.1=g then cs.setIfInBounds a.2 (.int .i64 n)else cs) ads ns
 |_,_=>cs
theorem z2X(g:Nat):∀(ads:List (Nat×Nat)) (ns:List Int) (cs:Array Value),(xf g cs ads ns).size=cs.size
 |[],_,cs=>by cases ‹List Int›<;>rfl
 |a::ads,[],cs=>rfl
 |a::ads,n::ns,cs=>by rw[xf,z2X g ads ns];split<;>simp
theorem z2W(g:Nat):∀(ads:List (Nat×Nat)) (ns:List Int) (cs:Array Value) (a:Nat×Nat) (n:Int),ads.length=ns.length->xf g cs (ads++[a]) (ns++[n])=if a.1=g then(xf g cs ads ns).setIfInBounds a.2 (.int .i64 n)else xf g cs ads ns
 |[],[],cs,a,n,_=>rfl
 |[],_::_,_,_,_,h=>by simp at h
 |_::_,[],_,_,_,h=>by simp at h
 |b::ads,m::ns,cs,a,n,h=>by show xf g (if b.1=g then cs.setIfInBounds b.2 (.int .i64 m)else cs) (ads++[a]) (ns++[n])=_;rw[z2W g ads ns _ a n (by simpa using h)];rfl
def z3N(ws:List Str)(ads:List (Nat×Nat))(w:World)(e:Ending)(w':World):Prop:=
 ((∃ns,zI ws=some ns/\e=.returned (.int .i64 0)/\∀(g:Nat) (cs:Array Value) (t:TypeId),w.heap[g]?=some (Obj.cells cs t (0,0))->w'.heap[g]?=some (Obj.cells (xf g cs ads ns) t (0,0)))\/(zI ws=none/\e=.returned (.int .i64 66)))/\Keep (fun g=>∃a∈ads,a.1=g) w w'
theorem z1A(ws:List Str)(o:Option Addr)(cl k':Nat)(tb:Nat)(ads:List (Nat×Nat))(w:World)(hw:qh w o ws)(hn:ads.length=ws.length)(hcl:ws.length<=1073741824)
  (hsz:∀i,(ws.getD i []).length<=1073741824)(hto:w.heap[tb]?=some (.cells (ads.map fun a=>Value.pointer (some ⟨a.1,a.2,none⟩)).toArray 108 (0,0)))(hst:∀a∈ads,(∃cs t,w.heap[a.1]?=some (.cells cs t (0,0))/\a.2<cs.size)/\a.1≠tb)(ho:∀g f,o=some ⟨g,f,none⟩->∀a∈ads,a.1≠g):
  Calls Tryz.prog 51 #[.slice o ws.length cl,.slice (some ⟨tb,0,none⟩) ads.length k'] w (z3N ws ads w):=by
 obtain⟨N,hN⟩:=Qx ws.length;have HH:=Qh (Qa hw (Qa hto (Qa hst (Qa ho (Qa hsz hN)))));rw[hN]at hn;have HA:=Qh hn;rw[hN]at hcl⊢
 rw[hn];clear hw hto hst hN ho hsz hn;go_in;go_wp2_with fail;go_loopg[5,6,7] N (fun gq s5 s6 s7 wr=>∃k:Nat,gq+k=N/\s5=.int .i64 (k:Int)/\Hid (∃ns,zI (ws.take k)=some ns/\(∀(g:Nat) (cs:Array Value) (t:TypeId),w.heap[g]?=some (Obj.cells cs t (0,0))->wr.heap[g]?=some (Obj.cells (xf g cs (ads.take k) ns) t (0,0)))/\Keep (fun g=>∃a∈ads,a.1=g) w wr))
 case atStart=>exact⟨0,by omega,rfl,[],by simp[zI],fun g cs t h=>h,Keep.refl _ _⟩
 case round=>
  obtain⟨k,hgk,rfl,HK⟩:=hrel;obtain⟨ns,hns,hblk,hkp⟩:=HK.out;by_cases hk:k<N
  ·have hkw:k<ws.length:=by rw[HH.2.2.2.2.2];exact hk
   have hko:k<ads.length:=(by rw[HA.out];exact hk);obtain⟨g,f,rfl,hcw,hgl⟩:=HH.1 k hkw;obtain⟨⟨cs,t,hcs,hof⟩,htb⟩:=HH.2.2.1 _ (List.getElem_mem hko);have hgne:¬∃a∈ads,a.1=g:=fun⟨a,ha,e⟩=>HH.2.2.2.1 g f rfl a ha e;have htne:¬∃a∈ads,a.1=tb:=fun⟨a,ha,e⟩=>(HH.2.2.1 a ha).2 e;have hcw2:wr.cell? ⟨g,f+k,none⟩=some (.string (zc (ws.getD k []))):=(hkp.cell (p:=⟨g,f+k,none⟩) hgl hgne).trans hcw;obtain⟨a,ha⟩:=Qx (ads[k]);rw[ha]at hcs hof htb;have hct:wr.cell? ⟨tb,k,none⟩=some (.pointer (some ⟨a.1,a.2,none⟩)):=(by rw[za (hkp.same HH.2.1 htne) k];simp[hko,ha]);have HNUM:=Qh (yN (ws.getD k []) wr (HH.2.2.2.2.1 k));have HS:=Qh (show zI (ws.take (k+1))=(zh (ws.getD k [])).map fun n=>ns++[n]from by
    rw[qJ hkw,z06,hns,List.getD_eq_getElem?_getD,List.getElem?_eq_getElem hkw];rfl)
   have HT:=Qh (show ads.take (k+1)=ads.take k++[a]from by rw[qJ hko,ha]);have HL:=Qh (show(ads.take k).length=ns.length from by rw[qP hns,List.length_take,List.length_take,HA.out,HH.2.2.2.2.2]);have HM:=Qh (show a∈ads from by rw[<-ha];exact List.getElem_mem hko);generalize ws.getD k []=x at*
   have HB:=Qh (Qa hns (Qa hblk (Qa hkp (Qa hcs hof))));obtain⟨ab,ao⟩:=a;have hk1:(k:Int)<(N:Int):=(by omega);have hk0:(0:Int)<=(k:Int):=(by omega);clear hns hblk hkp hcw HK hkw hko hcs hof htb hgne htne ha;go_upto_region 5 with(go_at_call 87;refine HNUM.mono ?_;rintro e w2 ⟨n,ok,rfl,hq,hb2⟩;have H2:=Qh (Qa hq hb2);clear hq hb2);cases ok with
   |false=>
    clear hct hcw2;go_wp2_with fail;go_ret;refine⟨Or.inr ⟨?_,rfl⟩,HB.2.2.1.trans (H2.2.mono fun _ _ h=>h.elim)⟩;have hx:zh x=none:=by
     have h:=H2.1;cases hq:zh x with
     |none=>rfl
     |some v=>rw[hq]at h;exact absurd h.1 (by decide)
    exact xz ws (k+1) (by rw[HS.out,hx];rfl)
   |true=>
    have hx:zh x=some n:=by
     have h:=H2.1;cases hq:zh x with
     |none=>rw[hq]at h;cases h
     |some v=>rw[hq]at h;rw[h.2]
    have hblk2:w2.heap[ab]?=some (.cells (xf ab cs (ads.take k) ns) t (0,0)):=H2.2.same (HB.2.1 ab cs t HB.2.2.2.1) id;have hcc:∃u,w2.cell? ⟨ab,ao,none⟩=some u:=(by rw[za hblk2 ao];exact⟨_,Array.getElem?_eq_getElem (by rw[z2X];exact HB.2.2.2.2)⟩);obtain⟨u,hcu⟩:=hcc;have hfu:=zd hblk2 ao;have HX:=Qh (Qa hx hblk2);have hcw3:=z87 H2.2 hct;clear hcw2 hct hx hblk2;go_wp2_with fail;go_roundg(gk-1);all_goals first|omega|skip
    case rel=>
     refine⟨k+1,by omega,by simp,ns++[n],?_,?_,?_⟩
     ·rw[HS.out,HX.1];rfl
     ·intro g' cs' t' hg'
      rw[HT.out,z2W _ _ _ _ _ _ HL.out];by_cases he:ab=g'
      ·subst he;rw[if_pos rfl];exact zg (H2.2.same (HB.2.1 _ _ _ hg') id) ao _
      ·rw[if_neg he];exact zS (H2.2.same (HB.2.1 _ _ _ hg') id) (fun e=>he e.symm) ao _
     ·exact(HB.2.2.1.trans (H2.2.mono fun _ _ h=>h.elim)).setCell (p:=⟨ab,ao,none⟩) (Or.inl ⟨(ab,ao),HM.out,rfl⟩) _
  ·obtain rfl:k=N:=(by omega);have hkI:¬(k:Int)<(k:Int):=(by omega);rw[List.take_of_length_le (by rw[HH.2.2.2.2.2];exact Nat.le_refl _)]at hns;rw[List.take_of_length_le (by rw[HA.out];exact Nat.le_refl _)]at hblk;have HP:=Qh (Qa hns (Qa hblk hkp));clear hns hblk hkp HK;go_wp2_with fail;go_ret;exact⟨Or.inl ⟨ns,HP.1,rfl,HP.2.1⟩,HP.2.2⟩
theorem z35(s:Str)(w:World):Calls Tryz.prog 88 #[.string (zc s)] w fun e w'=>e=.returned (.int .i64 (zq s))/\w'=w:=by
 have HF:=Qh (show zq s=if s=zn 1 then 1 else if s=zn 2 then 2 else if s=zn 3 then 3 else if s=zn 4 then 4 else 0 from rfl);by_cases h1:s=zn 1
 ·have HR:=Qh (show zq s=1 from by rw[HF.out,if_pos h1])
  have hb:((zc s).toList==[105,111])=true:=(by rw[ByteArray.toList_eq,ze,h1];rfl);generalize zc s=S at*
  clear h1;go_in;go_wp2_with fail;go_ret;exact⟨by rw[HR.out];rfl,rfl⟩
 have b1:((zc s).toList==[105,111])=false:=yr (by rw[ze];exact h1);by_cases h2:s=zn 2
 ·have HR:=Qh (show zq s=2 from by rw[HF.out,if_neg h1,if_pos h2])
  have hb:((zc s).toList==[102,117,108,108])=true:=(by rw[ByteArray.toList_eq,ze,h2];rfl);generalize zc s=S at*
  clear h2;go_in;go_wp2_with fail;go_ret;exact⟨by rw[HR.out];rfl,rfl⟩
 have b2:((zc s).toList==[102,117,108,108])=false:=yr (by rw[ze];exact h2);by_cases h3:s=zn 3
 ·have HR:=Qh (show zq s=3 from by rw[HF.out,if_neg h1,if_neg h2,if_pos h3])
  have hb:((zc s).toList==[112,111,119,101,114])=true:=(by rw[ByteArray.toList_eq,ze,h3];rfl);generalize zc s=S at*
  clear h3;go_in;go_wp2_with fail;go_ret;exact⟨by rw[HR.out];rfl,rfl⟩
 have b3:((zc s).toList==[112,111,119,101,114])=false:=yr (by rw[ze];exact h3);by_cases h4:s=zn 4
 ·have HR:=Qh (show zq s=4 from by rw[HF.out,if_neg h1,if_neg h2,if_neg h3,if_pos h4])
  have hb:((zc s).toList==[112,97,110,105,99])=true:=(by rw[ByteArray.toList_eq,ze,h4];rfl);generalize zc s=S at*
  clear h4;go_in;go_wp2_with fail;go_ret;exact⟨by rw[HR.out];rfl,rfl⟩
 have b4:((zc s).toList==[112,97,110,105,99])=false:=yr (by rw[ze];exact h4);have HR:=Qh (show zq s=0 from by rw[HF.out,if_neg h1,if_neg h2,if_neg h3,if_neg h4]);generalize zc s=S at*
 clear h1 h2 h3 h4;go_in;go_wp2_with fail;go_ret;exact⟨by rw[HR.out];rfl,rfl⟩
theorem z6Q{s:Str}{k:Nat}(hk:k<7)(h:s=zo ((k:Int)+1)):zb s=(k:Int)+1:=by subst h;obtain rfl|rfl|rfl|rfl|rfl|rfl|rfl:k=0\/k=1\/k=2\/k=3\/k=4\/k=5\/k=6:=(by omega);all_goals rfl
theorem z43{s:Str}(h:∀k:Nat,k<7->s≠zo ((k:Int)+1)):zb s=0:=by have e1:s≠zo 1:=h 0 (by decide);have e2:s≠zo 2:=h 1 (by decide);have e3:s≠zo 3:=h 2 (by decide);have e4:s≠zo 4:=h 3 (by decide);have e5:s≠zo 5:=h 4 (by decide);have e6:s≠zo 6:=h 5 (by decide);have e7:s≠zo 7:=h 6 (by decide);unfold zb;rw[if_neg e1,if_neg e2,if_neg e3,if_neg e4,if_neg e5,if_neg e6,if_neg e7]
theorem qd(s:Str)(w:World):Calls Tryz.prog 49 #[.string (zc s)] w fun e w'=>e=.returned (.int .i64 (zb s))/\Keep (fun _=>False) w w':=by
 obtain⟨q,hq⟩:=Qx w.heap.size;obtain⟨W0,hW0⟩:∃W0,w.alloc (.cells #[.string ⟨#[97,112,112,101,110,100]⟩,.string ⟨#[97,115,121,110,99]⟩,.string ⟨#[115,121,110,99]⟩,.string ⟨#[114,101,97,100]⟩,.string ⟨#[110,101,120,116]⟩,.string ⟨#[116,114,117,110,99,97,116,101]⟩,.string ⟨#[99,108,111,115,101]⟩] 9)=W0:=⟨_,rfl⟩;have b0:W0.heap[q]?=some (.cells #[.string ⟨#[97,112,112,101,110,100]⟩,.string ⟨#[97,115,121,110,99]⟩,.string ⟨#[115,121,110,99]⟩,.string ⟨#[114,101,97,100]⟩,.string ⟨#[110,101,120,116]⟩,.string ⟨#[116,114,117,110,99,97,116,101]⟩,.string ⟨#[99,108,111,115,101]⟩] 9 (0,0)):=(by rw[<-hW0,<-hq];exact zm _ _);have HC:=Qh (show ∀k:Nat,k<7->W0.cell? ⟨q,k,none⟩=some (.string (zc (zo ((k:Int)+1))))from fun k hk=>by
  rw[za b0 k];obtain rfl|rfl|rfl|rfl|rfl|rfl|rfl:k=0\/k=1\/k=2\/k=3\/k=4\/k=5\/k=6:=(by omega);all_goals rfl)
 have HK:=Qh (show Keep (fun _=>False) w W0 from by rw[<-hW0];exact(Keep.refl _ w).alloc _);obtain⟨S,hS⟩:=Qx (zc s);have HS:=Qh hS;rw[hS];clear b0 hS;go_in;go_wp2_with fail;clear hq hW0;go_loopg[4] 7 (fun gq s4 wr=>∃k:Nat,gq+k=7/\s4=.int .i64 (k:Int)/\wr=W0/\Hid (∀j:Nat,j<k->s≠zo ((j:Int)+1)))
 case atStart=>exact⟨0,by omega,rfl,by first|rfl|assumption,fun j hj=>absurd hj (by omega)⟩
 case round=>
  obtain⟨k,hgk,rfl,rfl,HJ⟩:=hrel;by_cases hk:k<7
  ·have hkI:(k:Int)<7:=by omega
   have hk0:(0:Int)<=(k:Int):=(by omega);have hc:=HC.out k hk;obtain⟨x,hx⟩:∃x,zc (zo ((k:Int)+1))=x:=⟨_,rfl⟩;rw[hx]at hc;by_cases he:s=zo ((k:Int)+1)
   ·have hxs:x=S:=(by rw[<-hx,<-he];exact HS.out);subst hxs;have HR:=Qh (z6Q hk he);clear hx he hk;go_wp2_with fail;go_ret;exact⟨by rw[HR.out];rfl,HK.out⟩
   ·have hb:(x.toList==S.toList)=false:=by
     rw[beq_eq_false_iff_ne];intro e;apply he;rw[<-hx,<-HS.out,ByteArray.toList_eq,ByteArray.toList_eq,ze,ze]at e;exact e.symm
    (have HE:=Qh he;clear hx he hk;go_wp2_with fail;go_roundg(gk-1);all_goals first|omega|skip);exact⟨k+1,by omega,by simp,by first|rfl|assumption,fun j hj=>by
     rcases Nat.lt_succ_iff_lt_or_eq.1 hj with h|rfl
     ·exact HJ.out j h
     ·exact HE.out⟩
  ·obtain rfl:k=7:=(by omega);have HR:=Qh (z43 HJ.out);go_wp2_with fail;go_ret;exact⟨by rw[HR.out];rfl,HK.out⟩
end Sc
end Go.Proofs.YtkkecpamnnojoaaGreatDoor
