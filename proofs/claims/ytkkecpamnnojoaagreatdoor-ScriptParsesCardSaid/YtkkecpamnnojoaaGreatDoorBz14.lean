/- A part of the proof of ScriptParses: nothing is assumed. By an AI agent. -/
import Derived.Test.YtkkecpamnnojoaaGreatDoorBz13
set_option linter.unusedVariables false
set_option linter.unusedSimpArgs false
set_option maxRecDepth 100000
set_option maxHeartbeats 32000000
namespace Go.Proofs.YtkkecpamnnojoaaGreatDoor
open Go.ChangeShapes Go.WideShapes Go.ChangeAt Go.RowKit
open Bt Dc By
namespace Sc
theorem To.of_own{own:Nat->Option T}{a b:World}(k:Keep (fun g=>own g≠none) a b):To own own a b:=⟨k,fun _ _ h=>h⟩
theorem PAt.scalars{w w':World}{own:Nat->Option T}{pb:Nat}{m m':M}(h:PAt w own pb m)(k:Keep (fun g=>g=pb) w w')(hb:w'.heap[pb]?=some (.cells m'.cells 61 (0,0)))
  (h1:m'.fv=m.fv)(h2:m'.fs=m.fs)(h3:m'.tv=m.tv)(h4:m'.ts=m.ts)(h5:m'.pv=m.pv)(h6:m'.ps=m.ps)(h7:m'.ev=m.ev)(h8:m'.es=m.es):PAt w' own pb m'/\To own own w w':=by
 have kn:∀g t,own g=some t->t≠(0,0,0)->¬g=pb:=fun g t hg ht e=>(by rw[e,h.tag]at hg;cases hg;exact ht rfl);refine⟨?_,To.of_own (k.mono fun g _ hg=>by rw[hg,h.tag];simp)⟩
 exact{
  low:=fun g hg=>Nat.lt_of_lt_of_le (h.low g hg) k.size
  blk:=hb
  tag:=h.tag
  fs:=by rw[h1,h2];exact h.fs.move k (fun g hg=>kn g _ hg (by decide)) (fun g hg=>hg)
  ts:=by rw[h3,h4];exact h.ts.move k (fun g hg=>kn g _ hg (by decide)) (fun g hg=>hg)
  calls:=fun i t ht=>by rw[h4]at ht;exact(h.calls i t ht).move k (fun g n j hn hg=>kn g _ hg (by rcases hn with rfl|rfl<;>simp)) (fun g n j hn hg=>hg)
  ps:=by rw[h5,h6];exact h.ps.move k (fun g hg=>kn g _ hg (by decide)) (fun g hg=>hg)
  es:=by rw[h7,h8];exact h.es.move k (fun g hg=>kn g _ hg (by decide)) (fun g hg=>hg)
  ends:=fun i e he=>by
   rw[h8]at he;exact(h.ends i e he).move k (fun g n j hn hg=>kn g _ hg (by rcases hn with rfl|rfl|rfl<;>simp)) (fun g n j hn hg=>hg)}
def zea(m:M)(t:T):Prop:=t.1≠0/\t.1≠1/\t.1≠2/\t.1≠5/\t.1≠6/\((t.1=3\/t.1=4)->m.ts.length<=t.2.1)/\((t.1=7\/t.1=8\/t.1=9)->m.es.length<=t.2.1)
theorem yk{α:Type}{l:List α}{i:Nat}{x:α}(h:l[i]?=some x):i<l.length:=by
 rcases Nat.lt_or_ge i l.length with h1|h1
 ·exact h1
 ·rw[List.getElem?_eq_none h1]at h;cases h
theorem PAt.far{S:T->Prop}{w w':World}{own own':Nat->Option T}{pb:Nat}{m:M}(h:PAt w own pb m)(G:Grown S w w' own own')(hS:∀t,S t->zea m t):PAt w' own' pb m where
 low:=G.low
 blk:=G.keep.same h.blk fun⟨t,ht,hs⟩=>by rw[h.tag]at ht;cases ht;exact(hS _ hs).1 rfl
 tag:=G.old _ _ h.tag
 fs:=h.fs.far G fun hs=>(hS _ hs).2.1 rfl
 ts:=h.ts.far G fun hs=>(hS _ hs).2.2.1 rfl
 calls:=fun i t ht=>(h.calls i t ht).far G fun n j hn hs=>by have h1:m.ts.length<=i:=(hS _ hs).2.2.2.2.2.1 hn;have:=yk ht;omega
 ps:=h.ps.far G fun hs=>(hS _ hs).2.2.2.1 rfl
 es:=h.es.far G fun hs=>(hS _ hs).2.2.2.2.1 rfl
 ends:=fun i e he=>(h.ends i e he).far G fun n j hn hs=>by have h1:m.es.length<=i:=(hS _ hs).2.2.2.2.2.2 hn;have:=yk he;omega
theorem Grown.also{S:T->Prop}{w w':World}{own own':Nat->Option T}(G:Grown S w w' own own')(hlow:∀g,own g≠none->g<w.heap.size){d:Value}{t:T}{e sz n:Nat}{xs:List Value}(hd:w'.ownsRow w.heap.size e sz d n xs):Grown S w w' own (put own' d t) where
 keep:=G.keep
 old:=fun g t' hg=>by
  unfold put;split
  ·rename_i hv
   have h1:=hlow g (by rw[hg];simp);rcases hd.2 with⟨h2,-⟩|⟨g2,cap,cur,h2,h3,-⟩
   ·rw[h2]at hv;cases hv
   ·rw[h2]at hv;cases hv;exact absurd h1 (Nat.not_lt.2 h3)
  ·exact G.old g t' hg
 low:=fun g hg=>by
  unfold put at hg;split at hg
  ·rename_i hv;exact xE hd hv
  ·exact G.low g hg
 new:=fun g hn hg=>by
  unfold put at hg;split at hg
  ·rename_i hv
   rcases hd.2 with⟨h2,-⟩|⟨g2,cap,cur,h2,h3,-⟩
   ·rw[h2]at hv;cases hv
   ·rw[h2]at hv;cases hv;exact h3
  ·exact G.new g hn hg
theorem zd4{own:Nat->Option T}{d:Value}{t:T}{g:Nat}{t':T}(h:own g=some t')(hd:d.ownBlock≠some g):put own d t g=some t':=by unfold put;rw[if_neg hd];exact h
theorem RowT.also{w:World}{own:Nat->Option T}{tag:T}{e sz n:Nat}{v d:Value}{xs:List Value}{t:T}(h:RowT w own tag e sz v n xs)(hd:∀g,v.ownBlock=some g->d.ownBlock≠some g):RowT w (put own d t) tag e sz v n xs:=
 ⟨h.row,fun g hg=>zd4 (h.tag g hg) (hd g hg)⟩
def M.callTo(m:M)(c:Call)(d v:Value):M:={m with ts:=m.ts.dropLast++[⟨v,zx m++[⟨c,d⟩]⟩]}
theorem M.callTo_play(m:M)(c:Call)(d v:Value)(hne:m.ts≠[]):(m.callTo c d v).play=Sc.callTo m.play c/\(m.callTo c d v).st=m.st:=by refine⟨?_,rfl⟩;obtain⟨t,ht⟩:∃t,m.ts.getLast? =some t:=⟨_,List.getLast?_eq_some_getLast hne⟩;unfold M.callTo Sc.callTo M.play zx;rw[ht];simp[List.map_dropLast,List.getLastD_eq_getLast?,ht]
theorem PAt.call_push{w w4:World}{own:Nat->Option T}{pb:Nat}{m:M}(h:PAt w own pb m)(hne:m.ts≠[])(c:Call){d v':Value}(h':w4.ownsRow 0 76 3 v' ((zx m).length+1) ((zx m).flatMap MC.cells++MC.cells ⟨c,d⟩))
  (hd:w4.ownsRow w.heap.size 5 1 d c.data.length (u8v c.data))(hdv:∀g,v'.ownBlock=some g->d.ownBlock≠some g)
  (k:Keep (fun g=>(zK m).ownBlock=some g) w w4)(hb:v'.ownBlock=(zK m).ownBlock\/∃g,v'.ownBlock=some g/\w.heap.size<=g):
  ∃own',PAt (w4.setCell (yz m) v') own' pb (m.callTo c d v')/\To own own' w (w4.setCell (yz m) v'):=by
 obtain⟨t,hl⟩:∃t,m.ts.getLast? =some t:=⟨_,List.getLast?_eq_some_getLast hne⟩;obtain⟨-,hg⟩:=yR hl;obtain⟨pre,hpre⟩:∃pre,m.ts=pre++[t]:=List.getLast?_eq_some_iff.1 hl;have hlen:m.ts.length-1=pre.length:=(by rw[hpre];simp);obtain⟨g2,cap,hv,hcap,hg2,-⟩:=h.shape_ts hne;have e2:yz m=⟨g2,pre.length,none⟩:=(by unfold yz;rw[hv,hlen];rfl);have e3:zx m=t.l:=(by unfold zx;rw[hl]);have e4:zK m=t.v:=(by unfold zK;rw[hl]);have e5:m.callTo c d v'={m with ts:=pre++[⟨v',t.l++[⟨c,d⟩]⟩]}:=(by unfold M.callTo;rw[hpre,List.dropLast_concat,e3]);have hcall:=h.calls pre.length t (by rw[<-hlen];exact hg);have hrow:=hcall.row;rw[e3]at h';rw[e4]at k hb;have G1:Grown (fun x=>x=(3,pre.length,0)\/x=(2,0,0)) w (w4.setCell ⟨g2,pre.length,none⟩ v') own (put own v' (3,pre.length,0)):=qm v' h.low hrow h' k hb hg2;have kset:Keep (fun g=>g=g2) w4 (w4.setCell ⟨g2,pre.length,none⟩ v'):=(Keep.refl (fun g=>g=g2) w4).setCell (p:=⟨g2,pre.length,none⟩) (Or.inl rfl) v';have hdg:∀g,d.ownBlock=some g->w.heap.size<=g:=fun g hg=>by
  rcases hd.2 with⟨h2,-⟩|⟨g3,cap,cur,h2,h3,-⟩
  ·rw[h2]at hg;cases hg
  ·rw[h2]at hg;cases hg;exact h3
 have hg2l:=h.low g2 (by rw[hg2];simp);have hd5:(w4.setCell ⟨g2,pre.length,none⟩ v').ownsRow w.heap.size 5 1 d c.data.length (u8v c.data):=zf hd kset fun g hg e=>(by have:=hdg g hg;omega);have G:=G1.also (t:=(4,pre.length,t.l.length)) h.low hd5;have hv2:v'.ownBlock≠some g2:=by
  intro e;rcases hb with hb|⟨g,hb,hlb⟩
  ·rw[hb]at e;have:=hrow.tag g2 e;rw[hg2]at this;cases this
  ·rw[hb]at e;cases e;omega
 have hrow':RowT (w4.setCell ⟨g2,pre.length,none⟩ v') (put (put own v' (3,pre.length,0)) d (4,pre.length,t.l.length)) (3,pre.length,0) 76 3 v' (t.l.length+1) (t.l.flatMap MC.cells++MC.cells ⟨c,d⟩):=
  (xO v' h' hv2).also hdv
 have hgp:g2≠pb:=(by intro e;rw[e,h.tag]at hg2;cases hg2);rw[e5,e2];refine⟨_,?_,G.to⟩
 exact{
  low:=G.low
  blk:=by have hpb:=k.same h.blk (fun e=>by have:=hrow.tag pb e;rw[h.tag]at this;cases this);exact zS hpb (fun e=>hgp e.symm) _ v'
  tag:=G.old _ _ h.tag
  fs:=h.fs.far G (by simp)
  ts:=by
   have hr:=zf h.ts.row k fun g hg e=>(by have a:=hrow.tag g e;have b:=h.ts.tag g hg;rw[b]at a;cases a);rw[hv]at hr;have hs:=z0P hr (j:=pre.length) (by rw[hpre];simp) v';refine⟨?_,fun g hg=>G.old _ _ (h.ts.tag g hg)⟩;show(w4.setCell ⟨g2,pre.length,none⟩ v').ownsRow 0 56 1 m.tv (pre++[(⟨v',t.l++[⟨c,d⟩]⟩:MT)]).length ((pre++[⟨v',t.l++[⟨c,d⟩]⟩]:List MT).map (·.v))
   rw[hv];rw[show m.ts.length=pre.length+1 from by rw[hpre];simp]at hs⊢
   rw[hpre]at hs;simpa using hs
  calls:=fun i t0 ht0=>by
   by_cases hi:i=pre.length
   ·subst hi
    obtain rfl:t0=⟨v',t.l++[⟨c,d⟩]⟩:=(by simpa using ht0.symm);refine⟨?_,fun j x hx=>?_⟩
    ·show RowT _ _ _ _ _ v' (t.l++[(⟨c,d⟩:MC)]).length ((t.l++[(⟨c,d⟩:MC)]).flatMap MC.cells);rw[show(t.l++[(⟨c,d⟩:MC)]).length=t.l.length+1 by simp,show(t.l++[(⟨c,d⟩:MC)]).flatMap MC.cells=t.l.flatMap MC.cells++MC.cells ⟨c,d⟩ by simp];exact hrow'
    ·by_cases hj:j=t.l.length
     ·subst hj;obtain rfl:x=⟨c,d⟩:=(by simpa using hx.symm);exact⟨qx hd5 fun g hg=>Nat.zero_le _,z1H _ _ _⟩
     ·have hlt:j<t.l.length:=by
       have:=yk hx;simp at this;omega
      rw[show({v:=v',l:=t.l++[⟨c,d⟩]}:MT).l=t.l++[⟨c,d⟩]from rfl,List.getElem?_append_left hlt]at hx;exact(hcall.data j x hx).far G (by simp)
   ·have hlt:i<pre.length:=by
     have:=yk ht0;simp at this;omega
    have he1:m.ts[i]?=some t0:=(by rw[hpre,List.getElem?_append_left hlt];rw[List.getElem?_append_left hlt]at ht0;exact ht0);exact(h.calls i t0 he1).far G (fun n j hn=>by
     rcases hn with rfl|rfl<;>simp;intro e;exact absurd e hi)
  ps:=h.ps.far G (by simp)
  es:=h.es.far G (by simp)
  ends:=fun i e he=>(h.ends i e he).far G (fun n j hn=>by rcases hn with rfl|rfl|rfl<;>simp)}
theorem z3d{w w4:World}{own:Nat->Option T}{pb i:Nat}{m:M}{v v':Value}{tag:T}{e sz n n':Nat}{xs ys:List Value}(h:PAt w own pb m)(hrow:RowT w own tag e sz v n xs)(ht:tag≠(0,0,0))
  (h':w4.ownsRow 0 e sz v' n' ys)(k:Keep (fun g=>v.ownBlock=some g) w w4)(hb:v'.ownBlock=v.ownBlock\/∃g,v'.ownBlock=some g/\w.heap.size<=g):
  Grown (fun t=>t=tag\/t=(0,0,0)) w (w4.setCell ⟨pb,i,none⟩ v') own (put own v' tag)/\RowT (w4.setCell ⟨pb,i,none⟩ v') (put own v' tag) tag e sz v' n' ys/\
   (w4.setCell ⟨pb,i,none⟩ v').heap[pb]?=some (.cells (m.cells.setIfInBounds i v') 61 (0,0)):=by
 have hpl:=h.low pb (by rw[h.tag];simp);have hne:v'.ownBlock≠some pb:=by
  intro e;rcases hb with hb|⟨g,hb,hl⟩
  ·rw[hb]at e;have:=hrow.tag pb e;rw[h.tag]at this;exact ht (Option.some.inj this).symm
  ·rw[hb]at e;cases e;omega
 have hpb:=k.same h.blk (fun e=>by have:=hrow.tag pb e;rw[h.tag]at this;exact ht (Option.some.inj this).symm);exact⟨qm v' h.low hrow h' k hb h.tag,xO v' h' hne,zg hpb i v'⟩
def M.newTask(m:M)(v:Value):M:={m with tv:=v,ts:=m.ts++[⟨.slice none 0 0,[]⟩]}
theorem M.newTask_play(m:M)(v:Value):(m.newTask v).play={m.play with tasks:=m.play.tasks++[[]]}/\(m.newTask v).st=m.st:=by refine⟨?_,rfl⟩;unfold M.newTask M.play;simp
theorem PAt.task_push{w w4:World}{own:Nat->Option T}{pb:Nat}{m:M}(h:PAt w own pb m){v':Value}(h':w4.ownsRow 0 56 1 v' (m.ts.length+1) (m.ts.map (·.v)++[.slice none 0 0]))
  (k:Keep (fun g=>m.tv.ownBlock=some g) w w4)(hb:v'.ownBlock=m.tv.ownBlock\/∃g,v'.ownBlock=some g/\w.heap.size<=g):
  ∃own',PAt (w4.setCell ⟨pb,10,none⟩ v') own' pb (m.newTask v')/\To own own' w (w4.setCell ⟨pb,10,none⟩ v'):=by
 obtain⟨G,hr,hbk⟩:=z3d (i:=10) h h.ts (by decide) h' k hb;refine⟨_,?_,G.to⟩
 exact{
  low:=G.low
  blk:=hbk
  tag:=G.old _ _ h.tag
  fs:=h.fs.far G (by simp)
  ts:=by
   show RowT _ _ _ _ _ v' (m.ts++[(⟨.slice none 0 0,[]⟩:MT)]).length ((m.ts++[(⟨.slice none 0 0,[]⟩:MT)]).map (·.v))
   rw[List.length_append,List.map_append];exact hr
  calls:=fun i t ht=>by
   by_cases hi:i=m.ts.length
   ·subst hi;obtain rfl:t=⟨.slice none 0 0,[]⟩:=(by simpa[M.newTask]using ht.symm);exact⟨RowT.nil _ _ _ _ _,fun j c hc=>by simp at hc⟩
   ·have hlt:i<m.ts.length:=by
     have:=yk ht;simp[M.newTask]at this;omega
    rw[show(m.newTask v').ts=m.ts++[⟨.slice none 0 0,[]⟩]from rfl,List.getElem?_append_left hlt]at ht;exact(h.calls i t ht).far G (fun n j hn=>by rcases hn with rfl|rfl<;>simp)
  ps:=h.ps.far G (by simp)
  es:=h.es.far G (by simp)
  ends:=fun i e he=>(h.ends i e he).far G (fun n j hn=>by rcases hn with rfl|rfl|rfl<;>simp)}
def M.pick(m:M)(n:Int)(v:Value):M:={m with pv:=v,ps:=m.ps++[n]}
theorem PAt.pick_push{w w4:World}{own:Nat->Option T}{pb:Nat}{m:M}(h:PAt w own pb m)(n:Int){v':Value}(h':w4.ownsRow 0 3 1 v' (m.ps.length+1) (m.ps.map (Value.int .i64)++[.int .i64 n]))
  (k:Keep (fun g=>m.pv.ownBlock=some g) w w4)(hb:v'.ownBlock=m.pv.ownBlock\/∃g,v'.ownBlock=some g/\w.heap.size<=g):
  ∃own',PAt (w4.setCell ⟨pb,11,none⟩ v') own' pb (m.pick n v')/\To own own' w (w4.setCell ⟨pb,11,none⟩ v'):=by
 obtain⟨G,hr,hbk⟩:=z3d (i:=11) h h.ps (by decide) h' k hb;refine⟨_,?_,G.to⟩
 exact{
  low:=G.low
  blk:=hbk
  tag:=G.old _ _ h.tag
  fs:=h.fs.far G (by simp)
  ts:=h.ts.far G (by simp)
  calls:=fun i t ht=>(h.calls i t ht).far G (fun n j hn=>by rcases hn with rfl|rfl<;>simp)
  ps:=by show RowT _ _ _ _ _ v' (m.ps++[n]).length ((m.ps++[n]).map (Value.int .i64));rw[List.length_append,List.map_append];exact hr
  es:=h.es.far G (by simp)
  ends:=fun i e he=>(h.ends i e he).far G (fun n j hn=>by rcases hn with rfl|rfl|rfl<;>simp)}
def M.newEnd(m:M)(dir:Int)(kv:Value)(ks:List MK)(v:Value):M:={m with ev:=v,es:=m.es++[⟨dir,kv,ks,.slice none 0 0,[]⟩]}
theorem M.newEnd_play(m:M)(dir:Int)(kv:Value)(ks:List MK)(v:Value):(m.newEnd dir kv ks v).play={m.play with ends:=m.play.ends++[⟨dir,ks.map (·.k),[]⟩]}/\(m.newEnd dir kv ks v).st=m.st:=by refine⟨?_,rfl⟩;unfold M.newEnd M.play;simp[ME.reopen]
structure KsAt (w:World) (own:Nat->Option T) (i:Nat) (kv:Value) (ks:List MK):Prop where
 keeps:RowT w own (7,i,0) 84 2 kv ks.length (ks.flatMap MK.cells)
 junk:∀j k,ks[j]?=some k->RowT w own (8,i,j) 5 1 k.d k.k.junk.length (u8v k.k.junk)
theorem PAt.end_push{w w4:World}{own:Nat->Option T}{pb:Nat}{m:M}(h:PAt w own pb m)(dir:Int){kv:Value}{ks:List MK}(hk:KsAt w own m.es.length kv ks){v':Value}(h':w4.ownsRow 0 82 3 v' (m.es.length+1) (m.es.flatMap ME.cells++[.int .i64 dir,kv,.slice none 0 0]))
  (k:Keep (fun g=>m.ev.ownBlock=some g) w w4)(hb:v'.ownBlock=m.ev.ownBlock\/∃g,v'.ownBlock=some g/\w.heap.size<=g):
  ∃own',PAt (w4.setCell ⟨pb,13,none⟩ v') own' pb (m.newEnd dir kv ks v')/\To own own' w (w4.setCell ⟨pb,13,none⟩ v'):=by
 obtain⟨G,hr,hbk⟩:=z3d (i:=13) h h.es (by decide) h' k hb;refine⟨_,?_,G.to⟩
 exact{
  low:=G.low
  blk:=hbk
  tag:=G.old _ _ h.tag
  fs:=h.fs.far G (by simp)
  ts:=h.ts.far G (by simp)
  calls:=fun i t ht=>(h.calls i t ht).far G (fun n j hn=>by rcases hn with rfl|rfl<;>simp)
  ps:=h.ps.far G (by simp)
  es:=by show RowT _ _ _ _ _ v' (m.es++[(⟨dir,kv,ks,.slice none 0 0,[]⟩:ME)]).length ((m.es++[(⟨dir,kv,ks,.slice none 0 0,[]⟩:ME)]).flatMap ME.cells);rw[List.length_append,List.flatMap_append];exact hr
  ends:=fun i e he=>by
   by_cases hi:i=m.es.length
   ·subst hi;obtain rfl:e=⟨dir,kv,ks,.slice none 0 0,[]⟩:=(by simpa[M.newEnd]using he.symm);exact⟨hk.keeps.far G (by simp),fun j kk hj=>(hk.junk j kk hj).far G (by simp),RowT.nil _ _ _ _ _⟩
   ·have hlt:i<m.es.length:=by
     have:=yk he;simp[M.newEnd]at this;omega
    rw[show(m.newEnd dir kv ks v').es=m.es++[⟨dir,kv,ks,.slice none 0 0,[]⟩]from rfl,List.getElem?_append_left hlt]at he;exact(h.ends i e he).far G (fun n j hn=>by rcases hn with rfl|rfl|rfl<;>simp)}
theorem KsAt.push{w w4:World}{own:Nat->Option T}{pb i b o:Nat}{m:M}{tb:T}{kv:Value}{ks:List MK}(h:PAt w own pb m)(hk:KsAt w own m.es.length kv ks)(hbt:own b=some tb)(htb:tb.1=10)(kp:Kp){d v':Value}
  (h':w4.ownsRow 0 84 2 v' (ks.length+1) (ks.flatMap MK.cells++MK.cells ⟨kp,d⟩))(hd:w4.ownsRow w.heap.size 5 1 d kp.junk.length (u8v kp.junk))(hdv:∀g,v'.ownBlock=some g->d.ownBlock≠some g)
  (k:Keep (fun g=>kv.ownBlock=some g) w w4)(hb:v'.ownBlock=kv.ownBlock\/∃g,v'.ownBlock=some g/\w.heap.size<=g):
  ∃own',PAt (w4.setCell ⟨b,o,none⟩ v') own' pb m/\KsAt (w4.setCell ⟨b,o,none⟩ v') own' m.es.length v' (ks++[⟨kp,d⟩])/\own' b=some tb/\To own own' w (w4.setCell ⟨b,o,none⟩ v'):=by
 have hrow:=hk.keeps;have G1:Grown (fun x=>x=(7,m.es.length,0)\/x=tb) w (w4.setCell ⟨b,o,none⟩ v') own (put own v' (7,m.es.length,0)):=qm v' h.low hrow h' k hb hbt;have kset:Keep (fun g=>g=b) w4 (w4.setCell ⟨b,o,none⟩ v'):=(Keep.refl (fun g=>g=b) w4).setCell (p:=⟨b,o,none⟩) (Or.inl rfl) v';have hdg:∀g,d.ownBlock=some g->w.heap.size<=g:=fun g hg=>by
  rcases hd.2 with⟨h2,-⟩|⟨g3,cap,cur,h2,h3,-⟩
  ·rw[h2]at hg;cases hg
  ·rw[h2]at hg;cases hg;exact h3
 have hbl:=h.low b (by rw[hbt];simp);have hd5:(w4.setCell ⟨b,o,none⟩ v').ownsRow w.heap.size 5 1 d kp.junk.length (u8v kp.junk):=zf hd kset fun g hg e=>(by have:=hdg g hg;omega);have G:=G1.also (t:=(8,m.es.length,ks.length)) h.low hd5;have htb7:∀x y,tb≠(7,x,y):=fun x y e=>(by rw[e]at htb;simp at htb);have hv2:v'.ownBlock≠some b:=by
  intro e;rcases hb with hb|⟨g,hb,hlb⟩
  ·rw[hb]at e;have:=hrow.tag b e;rw[hbt]at this;exact htb7 _ _ (Option.some.inj this)
  ·rw[hb]at e;cases e;omega
 have hrow':=(xO (own:=own) (tag:=(7,m.es.length,0)) (i:=o) v' h' hv2).also (t:=(8,m.es.length,ks.length)) hdv;refine⟨_,h.far G ?_,⟨?_,fun j x hx=>?_⟩,?_,G.to⟩
 ·rintro t (rfl|rfl)
  ·exact⟨by simp,by simp,by simp,by simp,by simp,by simp,fun _=>Nat.le_refl _⟩
  ·unfold zea;rw[htb];simp
 ·rw[List.length_append,show(ks++[(⟨kp,d⟩:MK)]).flatMap MK.cells=ks.flatMap MK.cells++MK.cells ⟨kp,d⟩ by simp];exact hrow'
 ·by_cases hj:j=ks.length
  ·subst hj;obtain rfl:x=⟨kp,d⟩:=(by simpa using hx.symm);exact⟨qx hd5 fun g hg=>Nat.zero_le _,z1H _ _ _⟩
  ·have hlt:j<ks.length:=by
    have:=yk hx;simp at this;omega
   rw[List.getElem?_append_left hlt]at hx;refine(hk.junk j x hx).far G ?_;rintro(e|e)
   ·cases e
   ·rw[<-e]at htb;simp at htb
 ·exact G.old _ _ hbt
theorem zy{P:Program}{w:World}{ops:Array Oper}{o:Oper}{a:Act}{K:Act->World->Prop}{Q:Exit->Act->World->Prop}{E:Prop}(hgd:o.guard=none)(s x:Operand)(t:TypeId)
  (ho:o.op=.call {callee:=.builtin .append,args:=#[s,x],argTypes:=#[t,t]})
  (base:Nat)(e:TypeId)(i:TypeInfo)(z:Value)(size bytes:Nat)(ht:P.underlying t=some (.slice e))(hi:P.info? e=some i)(hz:i.zero=some z)
  (hsize:i.size=size)(hby:i.bytes=bytes)(hzs:z.cells.size=size)(hsz:0<size)
  (v:Value)(n:Nat)(xs:List Value)(hs:a.eval s=v)(hown:w.ownsRow base e size v n xs)
  (ad:Addr)(m c:Nat)(news:List Value)(hx:a.eval x=.slice (some ad) m c)(hl:news.length=m*size)(hnews:∀j u,news[j]?=some u->w.cell? (ad.add j)=some u)(h1:∀u∈news,u.oneCell'=true)
  (h63:n+m<=maxLen)(hbytes:(n+m)*bytes<=140737488355328)(hbase:base<=w.heap.size)
  (h:∀v' w',w'.ownsRow base e size v' (n+m) (xs++news)->w.grownBy w' v.ownBlock->(v'.ownBlock=v.ownBlock\/v'.ownBlock=some w.heap.size)->K (a.put o.dst v') w'):
  if Region.wanted o (yielded ops a.tmps)=true then Oper.wp P o a w K Q else E:=by
 have hw:Region.wanted o (yielded ops a.tmps)=true:=(by simp[Region.wanted,hgd]);rw[if_pos hw];obtain⟨v',w',hr,h2,h3,_,h5⟩:=run_append_own_at (P:=P) w base t o.type e i z size bytes ht hi hz hsize hby hzs hsz v n xs hown ad m c news hl hnews h1 h63 hbytes hbase;unfold Oper.wp execOp;simp only[ho,resolve,invoke,builtin,Sem.run_bind,Sem.run_pure,Result.andThen_ok,List.map_toArray,List.map_cons,List.map_nil,hs,hx,hr];exact h v' w' h2 h3 h5
def Res(own:Nat->Option T)(pb st:Nat)(r:Except Int Play)(w:World)(e:Ending)(w':World):Prop:=
 (∃p own' m',r=.ok p/\e=.returned (.int .i64 0)/\PAt w' own' pb m'/\m'.play=p/\m'.st=st/\To own own' w w')\/(∃c,r=.error c/\c≠0/\e=.returned (.int .i64 c)/\Keep (fun g=>own g≠none) w w')
theorem zbW:∃i,Tryz.prog.info? 114=some i/\i.zero=some (.agg #[.int .i64 0,.int .i64 0,.int .i64 0])/\i.size=3/\i.bytes=24:=by have h:(Tryz.prog.info? 114).map (fun i=>(i.zero,i.size,i.bytes))=some (some (.agg #[.int .i64 0,.int .i64 0,.int .i64 0]),3,24):=(by kernel_rfl);exact info_parts h
theorem z11{α:Type}{n:α}{ok:Bool}{x:Option α}(h:x=if ok then some n else none):(ok=true->x=some n)/\(ok=false->x=none):=by cases ok<;>simp[h]
theorem qh.at_{w:World}{g f:Nat}{ws:List Str}(h:qh w (some ⟨g,f,none⟩) ws){i:Nat}(hi:i<ws.length):w.cell? ⟨g,f+i,none⟩=some (.string (zc (ws.getD i [])))/\g<w.heap.size:=by obtain⟨g',f',e,hc,hl⟩:=h i hi;cases e;exact⟨hc,hl⟩
theorem zD(w:World)(xs:List Value)(t:TypeId):∀j u,xs[j]?=some u->(w.alloc (.cells xs.toArray t)).cell? ((⟨w.heap.size,0,none⟩:Addr).add j)=some u:=by intro j u hj;rw[show(⟨w.heap.size,0,none⟩:Addr).add j=⟨w.heap.size,j,none⟩from by simp[Addr.add];intro h;omega,za (zm w _) j];simpa using hj
theorem two(w:World)(o0 o1:Obj):∃W,(w.alloc o0).alloc o1=W/\W.heap[w.heap.size]?=some o0/\W.heap[w.heap.size+1]?=some o1/\Keep (fun _=>False) w W:=
 ⟨_,rfl,zr (zm w o0) _,zP _ _ (by simp),((Keep.refl _ w).alloc _).alloc _⟩
theorem z6u(c:Str)(g f cl k' tb gb off:Nat)(cs:Array Value)(t:TypeId)(B:Nat)(w:World)(hE:Ev B w)(hc:w.cell? ⟨g,f,none⟩=some (.string (zc c)))(hsz:c.length<=1073741824)
  (hto:w.heap[tb]?=some (.cells #[.pointer (some ⟨gb,off,none⟩)] 108 (0,0)))(hgb:w.heap[gb]?=some (.cells cs t (0,0)))(hof:off<cs.size)(hne:tb≠gb)(ho:g≠gb)(hB:B<=gb):
  Calls Tryz.prog 81 #[.slice (some ⟨g,f,none⟩) 1 cl,.slice (some ⟨tb,0,none⟩) 1 k'] w fun e w'=>((∃n,zh c=some n/\e=.returned (.int .i64 0)/\w'.heap[gb]?=some (.cells (cs.setIfInBounds off (.int .i64 n)) t (0,0)))\/(zh c=none/\e=.returned (.int .i64 66)))/\Keep (fun q=>q=gb) w w':=by
 have hgl:g<w.heap.size:=By.zG hc;refine(z0E [c] (some ⟨g,f,none⟩) cl k' tb gb [off] cs t B w hE (fun i hi=>by
   obtain rfl:i=0:=(by simpa using hi);exact⟨g,f,rfl,hc,hgl⟩) (by simp) (by simp) (fun i=>by
   cases i with
   |zero=>exact hsz
   |succ i=>simp) hto hgb (fun i hi=>by
   obtain rfl:i=0:=(by simpa using hi);exact hof) hne (fun g' f' h=>by cases h;exact ho) hB).mono ?_
 rintro e w' ⟨(⟨ns,hn,rfl,hb⟩|⟨hn,rfl⟩),k⟩
 ·refine⟨Or.inl ⟨ns.getD 0 0,?_,rfl,?_⟩,k⟩
  ·simp only[List.length_singleton,List.take_succ_cons,List.take_zero,zI]at hn
   cases hq:zh c with
   |none=>rw[hq]at hn;cases hn
   |some n=>rw[hq]at hn;simp at hn;subst hn;rfl
  ·have:=qP hn
   cases ns with
   |nil=>simp at this
   |cons n r=>exact hb
 ·refine⟨Or.inr ⟨?_,rfl⟩,k⟩
  simp only[List.length_singleton,List.take_succ_cons,List.take_zero,zI]at hn;cases hq:zh c with
  |none=>rfl
  |some n=>rw[hq]at hn;simp at hn
theorem za4{w:World}{own:Nat->Option T}{pb:Nat}{m:M}(B:Nat)(a b c:Str)(g f cl:Nat)(h:PAt w own pb m)(hE:Ev B w)(hw:qh w (some ⟨g,f,none⟩) [a,b,c])(ha:a.length<=1073741824)(hb:b.length<=1073741824)(hc:c.length<=1073741824)(hcl:3<=cl)
    (hg:own g=none)(hes:m.es.length<=1048576)(hfs:(yb m).length<=1048576):
    Calls Tryz.prog 82 #[.pointer (some ⟨pb,0,none⟩),.slice (some ⟨g,f,none⟩) 3 cl] w (Res own pb m.st (yZ m.play [a,b,c]) w):=by
  obtain⟨ca,hgl⟩:=hw.at_ (i:=0) (by simp);have cb:=(hw.at_ (i:=1) (by simp)).1;have cc:=(hw.at_ (i:=2) (by simp)).1;simp at ca cb cc;have HH:=Qh (Qa h (Qa hE (Qa hw (Qa hgl hg))));have HZ:=Qh (Qa ha (Qa hb hc));have HF:=Qh (Qa hes hfs);have hR:yZ m.play [a,b,c]=(match zh a with
    |none=>.error 66
    |some n=>if zq b=0 then .error 65 else match zh c with
      |none=>.error 66
      |some q=>.ok (arm m.play ⟨n,zq b,q⟩)):=rfl
  have HR:=Qh hR;have HN1:=Qh (z0B a B w hE ha);clear h hE hw ha hb hc hg hes hfs hR;go_in;go_wp2_with fail;refine HN1.mono ?_;clear HN1;rintro e w1 ⟨⟨n,ok,rfl,hq⟩,hb1⟩;obtain⟨q1,q2⟩:=z11 hq;have H1:=Qh (Qa q1 (Qa q2 hb1));have cb1:=(hb1.cell (p:=⟨g,f+1,none⟩) hgl).trans cb;have cc1:=(hb1.cell (p:=⟨g,f+2,none⟩) hgl).trans cc;clear hq q1 q2 hb1 ca cb cc;cases ok with
  |false=>
    go_wp2_with fail;go_ret;exact Or.inr ⟨66,by rw[HR.out,H1.2.1 (by trivial)],by decide,rfl,(Keep.of_below H1.2.2).mono fun _ _ h=>h.elim⟩
  |true=>
    have HK:=Qh (z6G b w1);by_cases hk:zq b=0
    · have HR2:=Qh (show yZ m.play [a,b,c]=.error 65 from by rw[HR.out,H1.1 (by trivial)];simp[hk])
      rw[hk]at HK;clear hk HR;go_wp2_with(go_at_call 99;refine HK.mono ?_;rintro e w' ⟨rfl,hw⟩;obtain rfl:w1=w':=hw.symm);go_ret;exact Or.inr ⟨65,HR2.out,by decide,rfl,(Keep.of_below H1.2.2).mono fun _ _ h=>h.elim⟩
    · have hk2:(zq b==0)=false:=by rw[beq_eq_false_iff_ne];exact hk
      have HR2:=Qh (show yZ m.play [a,b,c]=(match zh c with|none=>.error 66|some q=>.ok (arm m.play ⟨n,zq b,q⟩))from by rw[HR.out,H1.1 (by trivial)];simp only[if_neg hk]);clear hk HR;generalize zq b=kk at*
      go_wp2_with(go_at_call 99;refine HK.mono ?_;rintro e w' ⟨rfl,hw⟩;obtain rfl:w1=w':=hw.symm);clear HK;obtain⟨W,hW,b0,b1,kW⟩:=two w1 (.cells #[.int .i64 n,.int .i64 kk,.int .i64 0] 114) (.cells #[.pointer (some ⟨w1.heap.size,2,none⟩)] 108);rw[hW];clear hW;obtain⟨r,hr⟩:=Qx w1.heap.size;have hwr:w.heap.size<=r:=(by rw[<-hr];exact H1.2.2.size);have hBr:B<=r:=Nat.le_trans HH.2.1.le hwr;have k1:Keep (fun _=>False) w W:=(Keep.of_below H1.2.2).trans kW;rw[hr]at b0 b1⊢
      have hcW:W.cell? ⟨g,f+2,none⟩=some (.string (zc c)):=(kW.cell (p:=⟨g,f+2,none⟩) (Nat.lt_of_lt_of_le hgl H1.2.2.size) id).trans cc1;have HI:=Qh (z6u c g (f+2) (cl-2) 1 (r+1) r 2 #[.int .i64 n,.int .i64 kk,.int .i64 0] 114 B W (HH.2.1.kept k1.none) hcW HZ.2.2 b1 b0 (show 2<3 by decide) (by omega) (by omega) hBr);have HW:=Qh (Qa k1 (Qa hwr hr));clear b0 b1 kW k1 hcW cb1 cc1 hBr;go_wp2_with fail;refine HI.mono ?_;clear HI;rintro e w2 ⟨(⟨q,hq,rfl,hb⟩|⟨hq,rfl⟩),k2⟩
      · have kk2:Keep (fun _=>False) w w2:=HW.1.own k2 fun i hi=>Or.inr (by rw[hi];exact hwr)
        have hp2:PAt w2 own pb m:=HH.1.kept kk2;have HR3:=Qh (show yZ m.play [a,b,c]=.ok (arm m.play ⟨n,kk,q⟩)from by rw[HR2.out,hq]);obtain⟨ca,fa,oa,pa,hav⟩:=hp2.arm_cell;have HA:=Qh (z4S hp2 HF.1);have hb':w2.heap[r]?=some (.cells #[.int .i64 n,.int .i64 kk,.int .i64 q] 114 (0,0)):=hb;have c0:=za hb' 0;have c1:=za hb' 1;have c2:=za hb' 2;simp at c0 c1 c2;rw[hav]at ca;have H2:=Qh (Qa kk2 (Qa hp2 (Qa hav hb')));clear hq hb k2 kk2 hp2 hav hb' HR2;have hPl:(yu m pb).block<w2.heap.size:=By.zG ca;obtain⟨gP,oP,hP⟩:∃gP oP,yu m pb=⟨gP,oP,none⟩:=(by unfold yu;split<;>exact⟨_,_,rfl⟩);rw[hP]at ca fa HA hPl;have HP:=Qh hP;clear hP;go_wp2_with(go_at_call 78;refine HA.mono ?_;rintro e w' ⟨rfl,hw⟩;obtain rfl:w2=w':=hw.symm);obtain⟨i0,hi,hz0,hz1,hz2⟩:=zbW;have hrow:((w2.drew).alloc (.cells #[.int .i64 n,.int .i64 kk,.int .i64 q] 114)).ownsRow 0 114 3 (.slice oa (yb m).length pa) (yb m).length (fsv (yb m)):=(by have h:=H2.2.1.arm_row.1.row;rw[H2.2.2.1]at h;exact zf h ((Keep.refl (fun _=>False) w2).drew.alloc _) fun _ _=>id);have HROW:=Qh hrow;have hlen:=HF.2;clear hrow;have hgne:∀q,(qv m).ownBlock=some q->q≠gP:=fun q hq e=>(by obtain⟨h1,t2,h2, -,h3⟩:=H2.2.1.arm_row;have h4:=h1.tag q hq;rw[HP.out,<-e,h4]at h2;exact h3 (Option.some.inj h2).symm);have HGN:=Qh hgne;clear hgne;go_region_law(first
          |(refine zy rfl (.tmp 42) (.tmp 44) 35 rfl 0 114 i0 _ 3 24 Tryz.underlying35 hi hz0 hz1 hz2 rfl (by decide) (.slice oa (yb m).length pa) (yb m).length (fsv (yb m)) rfl HROW.out ⟨w2.heap.size,0,none⟩ 1 1 [.int .i64 n,.int .i64 kk,.int .i64 q] rfl rfl (zD _ _ _) (by intro u hu;simp at hu;rcases hu with rfl|rfl|rfl<;>rfl) (by unfold maxLen;omega) (by omega) (Nat.zero_le _) ?_;intro v4 w4 hown hgr hblk;obtain⟨g4,c4,rfl⟩:=ownsRow_succ hown;rw[<-H2.2.2.1]at hgr hblk;have k4:Keep (fun q=>(qv m).ownBlock=some q) w2 w4:=((Keep.refl (fun q=>(qv m).ownBlock=some q) w2).drew.alloc _).trans (zp hgr);have ca4:=(k4.cell (p:=⟨gP,oP,none⟩) hPl (fun h=>HGN.out _ h rfl)).trans ca;have fa4:=(k4.frozen (p:=⟨gP,oP,none⟩) hPl (fun h=>HGN.out _ h rfl)).trans fa;have H4:=Qh (Qa hown (Qa hblk k4));clear hown hgr hblk k4))
        (all_goals go_wp2_with fail);all_goals go_ret
        all_goals
          have hpush:=HH.1.arm_push ⟨n,kk,q⟩ H4.1 ((H2.1.mono fun _ _ h=>h.elim).trans H4.2.2) (by
            rcases H4.2.1 with h|h
            · exact Or.inl h
            · refine Or.inr ⟨_,h,?_⟩
              have:=H2.1.size;simp;omega)
          rw[HP.out]at hpush;obtain⟨e1,e2⟩:=M.arm_play m ⟨n,kk,q⟩ (.slice (some ⟨g4,0,none⟩) ((yb m).length+1) c4);exact Or.inl ⟨_,_,_,HR3.out,rfl,hpush.1,e1,e2,hpush.2⟩
      · have HR3:=Qh (show yZ m.play [a,b,c]=.error 66 from by rw[HR2.out,hq])
        have kk2:Keep (fun _=>False) w w2:=HW.1.own k2 fun i hi=>Or.inr (by rw[hi];exact hwr);have H2:=Qh kk2;clear hq k2 kk2 HR2;go_wp2_with fail;go_ret;exact Or.inr ⟨66,HR3.out,by decide,rfl,H2.mono fun _ _ h=>h.elim⟩
theorem z12:∃i,Tryz.prog.info? 76=some i/\i.zero=some (.agg #[.int .i64 0,.int .i64 0,.slice none 0 0])/\i.size=3/\i.bytes=40:=by have h:(Tryz.prog.info? 76).map (fun i=>(i.zero,i.size,i.bytes))=some (some (.agg #[.int .i64 0,.int .i64 0,.slice none 0 0]),3,40):=(by kernel_rfl);exact info_parts h
theorem PAt.call_row{w:World}{own:Nat->Option T}{pb:Nat}{m:M}(h:PAt w own pb m)(hne:m.ts≠[]):RowT w own (3,m.ts.length-1,0) 76 3 (zK m) (zx m).length ((zx m).flatMap MC.cells)/\own (yz m).block=some (2,0,0):=by obtain⟨t,hl⟩:∃t,m.ts.getLast? =some t:=⟨_,List.getLast?_eq_some_getLast hne⟩;obtain⟨-,hg⟩:=yR hl;obtain⟨g2,cap,hv,-,hg2,-⟩:=h.shape_ts hne;unfold zK zx yz;rw[hl,hv];exact⟨(h.calls _ t hg).row,hg2⟩
theorem one(w:World)(o0:Obj):∃W,w.alloc o0=W/\W.heap[w.heap.size]?=some o0/\Keep (fun _=>False) w W:=⟨_,rfl,zm w o0,(Keep.refl _ w).alloc _⟩
theorem zcB{w:World}{own:Nat->Option T}{pb:Nat}{m:M}(B:Nat)(x:Str)(ws:List Str)(g f cl:Nat)(h:PAt w own pb m)(hE:Ev B w)(hw:qh w (some ⟨g,f,none⟩) (x::ws))(hx:∀i,((x::ws).getD i []).length<=1073741824)
    (hcl:ws.length+1<=cl)(hne:m.ts≠[])(hts:m.ts.length<=1048576)(hcs:(zx m).length<=1048576)(hk0:zb x≠0)(hct:zF 5 x ws.length=true)(hlw:ws.length<=1073741824):
    Calls Tryz.prog 83 #[.pointer (some ⟨pb,0,none⟩),.slice (some ⟨g,f,none⟩) (ws.length+1) cl] w (Res own pb m.st (qQ m.play x ws) w):=by
  have hct2:(if zb x=3\/zb x=7 then decide (ws.length=0)else decide (ws.length=1))=true:=hct;obtain⟨cx,hgl⟩:=hw.at_ (i:=0) (by simp);simp at cx;have hkr:zb x=1\/zb x=2\/zb x=3\/zb x=4\/zb x=5\/zb x=6\/zb x=7:=by
    unfold zb at hk0⊢
    (repeat' split);all_goals first|omega|(exfalso;simp_all)
  have HH:=Qh (Qa h (Qa hE (Qa hw (Qa hgl True.intro))));have HF:=Qh (Qa hne (Qa hts hcs));have HK:=Qh (z3G x w);have HCF:=Qh (show qQ m.play x ws=(if zb x=1\/zb x=2 then match y9 (ws.getD 0 []) true with
    |none=>.error 64
    |some b=>.ok (callTo m.play ⟨zb x,0,b⟩)
  else if zb x=4\/zb x=5\/zb x=6 then match zh (ws.getD 0 [])with
    |none=>.error 66
    |some n=>.ok (callTo m.play ⟨zb x,n,[]⟩)
  else .ok (callTo m.play ⟨zb x,0,[]⟩))from rfl)
  have hX:=Qh hx;have hwl:w.heap.size<=w.heap.size:=Nat.le_refl _;clear h hE hct hk0 hne hts hcs hx;generalize zb x=kk at*
  obtain⟨r,hr⟩:=Qx w.heap.size;have hr1:g<r:=(by omega);have HR:=Qh hr;have hkk:((kk=1\/kk=2)\/(kk=4\/kk=5\/kk=6))\/(kk=3\/kk=7):=(by omega);rcases hkk with(hk|hk)|hk
  · rw[if_pos hk]at HCF
    rw[if_neg (by omega)]at hct2;obtain⟨y,rfl⟩:∃y,ws=[y]:=List.length_eq_one_iff.1 (by simpa using hct2);have cy:=(hw.at_ (i:=1) (by simp)).1;simp at cy HCF;have HHX:=Qh fun(W:World)=>z2J y true W (hX.out 1);have b1:(kk==1)=true\/((kk==1)=false/\(kk==2)=true):=by
      rcases hk with rfl|rfl
      · exact Or.inl rfl
      · exact Or.inr ⟨rfl,rfl⟩
    clear hct2 hkr hw hlw;go_in;rcases b1 with b1|⟨b1,b2⟩
    all_goals
      go_wp2_with(go_at_call 77;refine HK.mono ?_;rintro e w' ⟨rfl,hw⟩;obtain rfl:w=w':=hw.symm);obtain⟨W1,hW1,b0,kW⟩:=one w (.cells #[.int .i64 kk,.int .i64 0,.slice none 0 0] 76);rw[hW1];rw[hr]at b0;clear hW1;refine(HHX.out W1).mono ?_;rintro e w2 ⟨(⟨out,v,hx,rfl,hrow⟩|⟨hx,rfl⟩),k3⟩
      · obtain⟨oo,cc,hv⟩:∃oo cc,v=.slice oo out.length cc:=by
          rcases hrow.2 with⟨h1,h2⟩|⟨g,cap,cur,h1, -⟩
          · exact⟨none,0,by rw[h1,h2]⟩
          · exact⟨_,cap,h1⟩
        subst hv;have b2:=k3.same b0 id;have d2:=za b2 2;have f2:=zd b2 2;simp at d2;have hrow2:w2.ownsRow w.heap.size 5 1 (.slice oo out.length cc) out.length (u8v out):=qx hrow fun q hq=>by
          rcases hrow.2 with⟨h1, -⟩|⟨g,cap,cur,h1,h2, -⟩
          · rw[h1]at hq;cases hq
          · rw[h1]at hq;cases hq;exact Nat.le_trans kW.size h2
        have hqs:∀q,(Value.slice oo out.length cc).ownBlock=some q->w.heap.size<q:=fun q hq=>by
          rcases hrow.2 with⟨h1, -⟩|⟨g,cap,cur,h1,h2, -⟩
          · rw[h1]at hq;cases hq
          · rw[h1]at hq;cases hq
            have:=lt_of_block b0;show w.heap.size<g;omega
        have HD:=Qh (Qa hx (Qa (kW.trans k3) (Qa hrow2 (Qa b2 hqs))));clear hrow hrow2 b2 k3 hx b0 kW hqs HHX;go_wp2_with fail;obtain⟨wX,hwX⟩:∃wX,w2.setCell ⟨r,2,none⟩ (.slice oo out.length cc)=wX:=⟨_,rfl⟩;have hbX:wX.heap[r]?=some (.cells #[.int .i64 kk,.int .i64 0,.slice oo out.length cc] 76 (0,0)):=(by rw[<-hwX];exact zg HD.2.2.2.1 2 _);have hkX:Keep (fun _=>False) w wX:=(by rw[<-hwX];exact HD.2.1.own ((Keep.refl (fun q=>q=r) w2).setCell (p:=⟨r,2,none⟩) (Or.inl rfl) _) fun i hi=>Or.inr (by omega));have hdX:wX.ownsRow w.heap.size 5 1 (.slice oo out.length cc) out.length (u8v out):=(by rw[<-hwX];exact zf HD.2.2.1 ((Keep.refl (fun q=>q=r) w2).setCell (p:=⟨r,2,none⟩) (Or.inl rfl) _) fun q hq e=>by have:=HD.2.2.2.2 q hq;omega);have hltX:∀q,(Value.slice oo out.length cc).ownBlock=some q->q<wX.heap.size:=fun q hq=>xE hdX hq;have hgeX:∀q,(Value.slice oo out.length cc).ownBlock=some q->w.heap.size<=q:=fun q hq=>Nat.le_of_lt (HD.2.2.2.2 q hq);have HB:=Qh (Qa hbX (Qa hkX (Qa hdX (Qa hltX hgeX))));have HRX:=Qh (show qQ m.play x [y]=.ok (callTo m.play ⟨kk,0,out⟩)from by rw[HCF.out,HD.1]);have c0:=za hbX 0;have c1:=za hbX 1;have c2:=za hbX 2;simp at c0 c1 c2;rw[hwX];clear hbX hkX hdX hltX hgeX hwX;have hpX:PAt wX own pb m:=HH.1.kept HB.2.1;obtain⟨ca,fa,oa,pa,hav⟩:=hpX.call_cell HF.1;have HA:=Qh (z0X hpX HF.1 HF.2.1);rw[hav]at ca;have HPX:=Qh (Qa hpX hav);clear hpX hav;have hPl:(yz m).block<wX.heap.size:=By.zG ca;obtain⟨gP,oP,hP⟩:∃gP oP,yz m=⟨gP,oP,none⟩:=⟨_,_,rfl⟩;rw[hP]at ca fa HA hPl;have HP:=Qh hP;clear hP;go_wp2_with(go_at_call 79;refine HA.mono ?_;rintro e wY ⟨rfl,nd,hwY⟩;have kY:Keep (fun _=>False) wX wY:=(by rw[hwY];exact(Keep.refl _ wX).drewN nd);replace ca:=(kY.cell (p:=⟨gP,oP,none⟩) hPl id).trans ca;replace fa:=(kY.frozen (p:=⟨gP,oP,none⟩) hPl id).trans fa;replace hPl:=Nat.lt_of_lt_of_le hPl kY.size;have HB:=Qh (Qa (kY.same HB.1 id) (Qa (HB.2.1.trans kY) (Qa (zf HB.2.2.1 kY fun _ _=>id) (Qa (fun q hq=>Nat.lt_of_lt_of_le (HB.2.2.2.1 q hq) kY.size) HB.2.2.2.2))));replace c0:=za HB.1 0;replace c1:=za HB.1 1;replace c2:=za HB.1 2;simp at c0 c1 c2;have HPX:=Qh (Qa (HPX.1.kept kY) HPX.2);clear hwY kY);obtain⟨i0,hi,hz0,hz1,hz2⟩:=z12;have hrow:((wY.drew).alloc (.cells #[.int .i64 kk,.int .i64 0,(.slice oo out.length cc)] 76)).ownsRow 0 76 3 (.slice oa (zx m).length pa) (zx m).length ((zx m).flatMap MC.cells):=(by have h:=HPX.1.call_row HF.1;rw[HPX.2]at h;exact zf h.1.row ((Keep.refl (fun _=>False) wY).drew.alloc _) fun _ _=>id);have HROW:=Qh hrow;have hlen:=HF.2.2;clear hrow;have HGN:=Qh (show ∀q,(zK m).ownBlock=some q->q≠gP from fun q hq e=>by
          obtain⟨h1,h2⟩:=HPX.1.call_row HF.1;have h4:=h1.tag q hq;rw[HP.out,<-e,h4]at h2;exact absurd h2 (by simp))
        go_region_law(first
          |(refine zy rfl (.tmp 47) (.tmp 49) 56 rfl 0 76 i0 _ 3 40 Tryz.underlying56 hi hz0 hz1 hz2 rfl (by decide) (.slice oa (zx m).length pa) (zx m).length ((zx m).flatMap MC.cells) rfl HROW.out ⟨wY.heap.size,0,none⟩ 1 1 [.int .i64 kk,.int .i64 0,(.slice oo out.length cc)] rfl rfl (zD _ _ _) (by intro u hu;simp at hu;rcases hu with rfl|rfl|rfl<;>rfl) (by unfold maxLen;omega) (by omega) (Nat.zero_le _) ?_;intro v4 w4 hown hgr hblk;obtain⟨g4,c4,rfl⟩:=ownsRow_succ hown;rw[<-HPX.2]at hgr hblk;have k4:Keep (fun q=>(zK m).ownBlock=some q) wY w4:=((Keep.refl (fun q=>(zK m).ownBlock=some q) wY).drew.alloc _).trans (zp hgr);have ca4:=(k4.cell (p:=⟨gP,oP,none⟩) hPl (fun h=>HGN.out _ h rfl)).trans ca;have fa4:=(k4.frozen (p:=⟨gP,oP,none⟩) hPl (fun h=>HGN.out _ h rfl)).trans fa;have H4:=Qh (Qa hown (Qa hblk k4));clear hown hgr hblk k4))
        (all_goals go_wp2_with fail);all_goals go_ret
        all_goals
          have hsz:=HB.2.1.size;have hpush:=HH.1.call_push HF.1 ⟨kk,0,out⟩ (d:=(.slice oo out.length cc)) H4.1 (zf HB.2.2.1 H4.2.2 fun q hq e=>by
              have h1:=HH.1.low q (by have h2:=((HPX.1.call_row HF.1).1.tag q e);rw[h2];simp);have:=HB.2.2.2.2 q hq;omega) (fun q hq e=>by
              have h3:=HB.2.2.2.2 q e;have h5:=HB.2.2.2.1 q e;rcases H4.2.1 with h|h
              · rw[hq]at h
                have h1:=HH.1.low q (by have h2:=((HPX.1.call_row HF.1).1.tag q h.symm);rw[h2];simp);omega
              · rw[hq]at h
                simp at h;omega)
            ((HB.2.1.mono fun _ _ h=>h.elim).trans H4.2.2) (by
            rcases H4.2.1 with h|h
            · exact Or.inl h
            · refine Or.inr ⟨_,h,?_⟩
              simp;omega)
          rw[HP.out]at hpush;obtain⟨own',hp1,hp2⟩:=hpush;obtain⟨e1,e2⟩:=M.callTo_play m ⟨kk,0,out⟩ (.slice oo out.length cc) (.slice (some ⟨g4,0,none⟩) ((zx m).length+1) c4) HF.1;exact Or.inl ⟨_,_,_,HRX.out,rfl,hp1,e1,e2,hp2⟩
      · have HD:=Qh (Qa hx (kW.trans k3))
        have b2:=k3.same b0 id;have d2:=za b2 2;have f2:=zd b2 2;simp at d2;clear hx k3 b0 kW HHX;go_wp2_with fail;go_ret;refine Or.inr ⟨64,by rw[HCF.out,HD.1],by decide,rfl,?_⟩;exact(HD.2.own ((Keep.refl (fun q=>q=r) w2).setCell (p:=⟨r,2,none⟩) (Or.inl rfl) _) fun i hi=>Or.inr (by omega)).mono fun _ _ h=>h.elim
  · rw[if_neg (by omega),if_pos hk]at HCF
    rw[if_neg (by omega)]at hct2;obtain⟨y,rfl⟩:∃y,ws=[y]:=List.length_eq_one_iff.1 (by simpa using hct2);have cy:=(hw.at_ (i:=1) (by simp)).1;simp at cy HCF;have HHX:=Qh fun(W:World) (k:Keep (fun _=>False) w W)=>z0B y B W (HH.2.1.kept k.none) (hX.out 1);have n1:(kk==1)=false:=Qb (by omega);have n2:(kk==2)=false:=Qb (by omega);have b1:(kk==4)=true\/((kk==4)=false/\(kk==5)=true)\/((kk==4)=false/\(kk==5)=false/\(kk==6)=true):=by
      rcases hk with rfl|rfl|rfl
      · exact Or.inl rfl
      · exact Or.inr (Or.inl ⟨rfl,rfl⟩)
      · exact Or.inr (Or.inr ⟨rfl,rfl,rfl⟩)
    clear hct2 hkr hw hlw;go_in;rcases b1 with b1|⟨b1,b2⟩|⟨b1,b2,b3⟩
    all_goals
      go_wp2_with(go_at_call 77;refine HK.mono ?_;rintro e w' ⟨rfl,hw⟩;obtain rfl:w=w':=hw.symm);obtain⟨W1,hW1,b0,kW⟩:=one w (.cells #[.int .i64 kk,.int .i64 0,.slice none 0 0] 76);rw[hW1];rw[hr]at b0;clear hW1;refine(HHX.out W1 kW).mono ?_;rintro e w2 ⟨⟨n,ok,rfl,hq⟩,hb2⟩;obtain⟨q1,q2⟩:=z11 hq;have k3:=Keep.of_below hb2;have b2:=k3.same b0 id;have d1:=za b2 1;have f1:=zd b2 1;simp at d1;have HD:=Qh (Qa q1 (Qa q2 (Qa (kW.trans k3) b2)));clear hq q1 q2 hb2 k3 b0 kW HHX b2;cases ok with
      |true=>
        go_wp2_with fail;obtain⟨wX,hwX⟩:∃wX,w2.setCell ⟨r,1,none⟩ (.int .i64 n)=wX:=⟨_,rfl⟩;have hbX:wX.heap[r]?=some (.cells #[.int .i64 kk,.int .i64 n,.slice none 0 0] 76 (0,0)):=(by rw[<-hwX];exact zg HD.2.2.2 1 _);have hkX:Keep (fun _=>False) w wX:=(by rw[<-hwX];exact HD.2.2.1.own ((Keep.refl (fun q=>q=r) w2).setCell (p:=⟨r,1,none⟩) (Or.inl rfl) _) fun i hi=>Or.inr (by omega));have hdX:wX.ownsRow w.heap.size 5 1 (.slice none 0 0) ([]:Str).length (u8v []):=(by rw[<-hwX];exact yi _ _ _ _);have hltX:∀q,(Value.slice none 0 0).ownBlock=some q->q<wX.heap.size:=fun q hq=>(by cases hq);have hgeX:∀q,(Value.slice none 0 0).ownBlock=some q->w.heap.size<=q:=fun q hq=>(by cases hq);have HB:=Qh (Qa hbX (Qa hkX (Qa hdX (Qa hltX hgeX))));have HRX:=Qh (show qQ m.play x [y]=.ok (callTo m.play ⟨kk,n,[]⟩)from by rw[HCF.out,HD.1 (by trivial)]);have c0:=za hbX 0;have c1:=za hbX 1;have c2:=za hbX 2;simp at c0 c1 c2;rw[hwX];clear hbX hkX hdX hltX hgeX hwX;have hpX:PAt wX own pb m:=HH.1.kept HB.2.1;obtain⟨ca,fa,oa,pa,hav⟩:=hpX.call_cell HF.1;have HA:=Qh (z0X hpX HF.1 HF.2.1);rw[hav]at ca;have HPX:=Qh (Qa hpX hav);clear hpX hav;have hPl:(yz m).block<wX.heap.size:=By.zG ca;obtain⟨gP,oP,hP⟩:∃gP oP,yz m=⟨gP,oP,none⟩:=⟨_,_,rfl⟩;rw[hP]at ca fa HA hPl;have HP:=Qh hP;clear hP;go_wp2_with(go_at_call 79;refine HA.mono ?_;rintro e wY ⟨rfl,nd,hwY⟩;have kY:Keep (fun _=>False) wX wY:=(by rw[hwY];exact(Keep.refl _ wX).drewN nd);replace ca:=(kY.cell (p:=⟨gP,oP,none⟩) hPl id).trans ca;replace fa:=(kY.frozen (p:=⟨gP,oP,none⟩) hPl id).trans fa;replace hPl:=Nat.lt_of_lt_of_le hPl kY.size;have HB:=Qh (Qa (kY.same HB.1 id) (Qa (HB.2.1.trans kY) (Qa (zf HB.2.2.1 kY fun _ _=>id) (Qa (fun q hq=>Nat.lt_of_lt_of_le (HB.2.2.2.1 q hq) kY.size) HB.2.2.2.2))));replace c0:=za HB.1 0;replace c1:=za HB.1 1;replace c2:=za HB.1 2;simp at c0 c1 c2;have HPX:=Qh (Qa (HPX.1.kept kY) HPX.2);clear hwY kY);obtain⟨i0,hi,hz0,hz1,hz2⟩:=z12;have hrow:((wY.drew).alloc (.cells #[.int .i64 kk,.int .i64 n,(.slice none 0 0)] 76)).ownsRow 0 76 3 (.slice oa (zx m).length pa) (zx m).length ((zx m).flatMap MC.cells):=(by have h:=HPX.1.call_row HF.1;rw[HPX.2]at h;exact zf h.1.row ((Keep.refl (fun _=>False) wY).drew.alloc _) fun _ _=>id);have HROW:=Qh hrow;have hlen:=HF.2.2;clear hrow;have HGN:=Qh (show ∀q,(zK m).ownBlock=some q->q≠gP from fun q hq e=>by
          obtain⟨h1,h2⟩:=HPX.1.call_row HF.1;have h4:=h1.tag q hq;rw[HP.out,<-e,h4]at h2;exact absurd h2 (by simp))
        go_region_law(first
          |(refine zy rfl (.tmp 47) (.tmp 49) 56 rfl 0 76 i0 _ 3 40 Tryz.underlying56 hi hz0 hz1 hz2 rfl (by decide) (.slice oa (zx m).length pa) (zx m).length ((zx m).flatMap MC.cells) rfl HROW.out ⟨wY.heap.size,0,none⟩ 1 1 [.int .i64 kk,.int .i64 n,(.slice none 0 0)] rfl rfl (zD _ _ _) (by intro u hu;simp at hu;rcases hu with rfl|rfl|rfl<;>rfl) (by unfold maxLen;omega) (by omega) (Nat.zero_le _) ?_;intro v4 w4 hown hgr hblk;obtain⟨g4,c4,rfl⟩:=ownsRow_succ hown;rw[<-HPX.2]at hgr hblk;have k4:Keep (fun q=>(zK m).ownBlock=some q) wY w4:=((Keep.refl (fun q=>(zK m).ownBlock=some q) wY).drew.alloc _).trans (zp hgr);have ca4:=(k4.cell (p:=⟨gP,oP,none⟩) hPl (fun h=>HGN.out _ h rfl)).trans ca;have fa4:=(k4.frozen (p:=⟨gP,oP,none⟩) hPl (fun h=>HGN.out _ h rfl)).trans fa;have H4:=Qh (Qa hown (Qa hblk k4));clear hown hgr hblk k4))
        (all_goals go_wp2_with fail);all_goals go_ret
        all_goals
          have hsz:=HB.2.1.size;have hpush:=HH.1.call_push HF.1 ⟨kk,n,[]⟩ (d:=(.slice none 0 0)) H4.1 (zf HB.2.2.1 H4.2.2 fun q hq e=>by
              have h1:=HH.1.low q (by have h2:=((HPX.1.call_row HF.1).1.tag q e);rw[h2];simp);have:=HB.2.2.2.2 q hq;omega) (fun q hq e=>by
              have h3:=HB.2.2.2.2 q e;have h5:=HB.2.2.2.1 q e;rcases H4.2.1 with h|h
              · rw[hq]at h
                have h1:=HH.1.low q (by have h2:=((HPX.1.call_row HF.1).1.tag q h.symm);rw[h2];simp);omega
              · rw[hq]at h
                simp at h;omega)
            ((HB.2.1.mono fun _ _ h=>h.elim).trans H4.2.2) (by
            rcases H4.2.1 with h|h
            · exact Or.inl h
            · refine Or.inr ⟨_,h,?_⟩
              simp;omega)
          rw[HP.out]at hpush;obtain⟨own',hp1,hp2⟩:=hpush;obtain⟨e1,e2⟩:=M.callTo_play m ⟨kk,n,[]⟩ (.slice none 0 0) (.slice (some ⟨g4,0,none⟩) ((zx m).length+1) c4) HF.1;exact Or.inl ⟨_,_,_,HRX.out,rfl,hp1,e1,e2,hp2⟩
      |false=>
        go_wp2_with fail;go_ret;refine Or.inr ⟨66,by rw[HCF.out,HD.2.1 (by trivial)],by decide,rfl,?_⟩;exact(HD.2.2.1.own ((Keep.refl (fun q=>q=r) w2).setCell (p:=⟨r,1,none⟩) (Or.inl rfl) _) fun i hi=>Or.inr (by omega)).mono fun _ _ h=>h.elim
  · rw[if_neg (by omega),if_neg (by omega)]at HCF
    rw[if_pos hk]at hct2;obtain rfl:ws=[]:=List.length_eq_zero_iff.1 (by simpa using hct2);have n1:(kk==1)=false:=Qb (by omega);have n2:(kk==2)=false:=Qb (by omega);have n4:(kk==4)=false:=Qb (by omega);have n5:(kk==5)=false:=Qb (by omega);have n6:(kk==6)=false:=Qb (by omega);clear hct2 hkr hw hlw;go_in
    all_goals
      go_wp2_with(go_at_call 77;refine HK.mono ?_;rintro e w' ⟨rfl,hw⟩;obtain rfl:w=w':=hw.symm);obtain⟨W1,hW1,b0,kW⟩:=one w (.cells #[.int .i64 kk,.int .i64 0,.slice none 0 0] 76);rw[hW1];rw[hr]at b0;clear hW1;have HD:=Qh (Qa b0 kW);clear b0 kW;obtain⟨wX,hwX⟩:=Qx W1;have hbX:wX.heap[r]?=some (.cells #[.int .i64 kk,.int .i64 0,.slice none 0 0] 76 (0,0)):=(by rw[<-hwX];exact HD.1);have hkX:Keep (fun _=>False) w wX:=(by rw[<-hwX];exact HD.2);have hdX:wX.ownsRow w.heap.size 5 1 (.slice none 0 0) ([]:Str).length (u8v []):=(by rw[<-hwX];exact yi _ _ _ _);have hltX:∀q,(Value.slice none 0 0).ownBlock=some q->q<wX.heap.size:=fun q hq=>(by cases hq);have hgeX:∀q,(Value.slice none 0 0).ownBlock=some q->w.heap.size<=q:=fun q hq=>(by cases hq);have HB:=Qh (Qa hbX (Qa hkX (Qa hdX (Qa hltX hgeX))));have HRX:=Qh (show qQ m.play x []=.ok (callTo m.play ⟨kk,0,[]⟩)from HCF.out);have c0:=za hbX 0;have c1:=za hbX 1;have c2:=za hbX 2;simp at c0 c1 c2;rw[hwX];clear hbX hkX hdX hltX hgeX hwX;have hpX:PAt wX own pb m:=HH.1.kept HB.2.1;obtain⟨ca,fa,oa,pa,hav⟩:=hpX.call_cell HF.1;have HA:=Qh (z0X hpX HF.1 HF.2.1);rw[hav]at ca;have HPX:=Qh (Qa hpX hav);clear hpX hav;have hPl:(yz m).block<wX.heap.size:=By.zG ca;obtain⟨gP,oP,hP⟩:∃gP oP,yz m=⟨gP,oP,none⟩:=⟨_,_,rfl⟩;rw[hP]at ca fa HA hPl;have HP:=Qh hP;clear hP;go_wp2_with(go_at_call 79;refine HA.mono ?_;rintro e wY ⟨rfl,nd,hwY⟩;have kY:Keep (fun _=>False) wX wY:=(by rw[hwY];exact(Keep.refl _ wX).drewN nd);replace ca:=(kY.cell (p:=⟨gP,oP,none⟩) hPl id).trans ca;replace fa:=(kY.frozen (p:=⟨gP,oP,none⟩) hPl id).trans fa;replace hPl:=Nat.lt_of_lt_of_le hPl kY.size;have HB:=Qh (Qa (kY.same HB.1 id) (Qa (HB.2.1.trans kY) (Qa (zf HB.2.2.1 kY fun _ _=>id) (Qa (fun q hq=>Nat.lt_of_lt_of_le (HB.2.2.2.1 q hq) kY.size) HB.2.2.2.2))));replace c0:=za HB.1 0;replace c1:=za HB.1 1;replace c2:=za HB.1 2;simp at c0 c1 c2;have HPX:=Qh (Qa (HPX.1.kept kY) HPX.2);clear hwY kY);obtain⟨i0,hi,hz0,hz1,hz2⟩:=z12;have hrow:((wY.drew).alloc (.cells #[.int .i64 kk,.int .i64 0,(.slice none 0 0)] 76)).ownsRow 0 76 3 (.slice oa (zx m).length pa) (zx m).length ((zx m).flatMap MC.cells):=(by have h:=HPX.1.call_row HF.1;rw[HPX.2]at h;exact zf h.1.row ((Keep.refl (fun _=>False) wY).drew.alloc _) fun _ _=>id);have HROW:=Qh hrow;have hlen:=HF.2.2;clear hrow;have HGN:=Qh (show ∀q,(zK m).ownBlock=some q->q≠gP from fun q hq e=>by
        obtain⟨h1,h2⟩:=HPX.1.call_row HF.1;have h4:=h1.tag q hq;rw[HP.out,<-e,h4]at h2;exact absurd h2 (by simp))
      go_region_law(first
        |(refine zy rfl (.tmp 47) (.tmp 49) 56 rfl 0 76 i0 _ 3 40 Tryz.underlying56 hi hz0 hz1 hz2 rfl (by decide) (.slice oa (zx m).length pa) (zx m).length ((zx m).flatMap MC.cells) rfl HROW.out ⟨wY.heap.size,0,none⟩ 1 1 [.int .i64 kk,.int .i64 0,(.slice none 0 0)] rfl rfl (zD _ _ _) (by intro u hu;simp at hu;rcases hu with rfl|rfl|rfl<;>rfl) (by unfold maxLen;omega) (by omega) (Nat.zero_le _) ?_;intro v4 w4 hown hgr hblk;obtain⟨g4,c4,rfl⟩:=ownsRow_succ hown;rw[<-HPX.2]at hgr hblk;have k4:Keep (fun q=>(zK m).ownBlock=some q) wY w4:=((Keep.refl (fun q=>(zK m).ownBlock=some q) wY).drew.alloc _).trans (zp hgr);have ca4:=(k4.cell (p:=⟨gP,oP,none⟩) hPl (fun h=>HGN.out _ h rfl)).trans ca;have fa4:=(k4.frozen (p:=⟨gP,oP,none⟩) hPl (fun h=>HGN.out _ h rfl)).trans fa;have H4:=Qh (Qa hown (Qa hblk k4));clear hown hgr hblk k4))
      (all_goals go_wp2_with fail);all_goals go_ret
      all_goals
        have hsz:=HB.2.1.size;have hpush:=HH.1.call_push HF.1 ⟨kk,0,[]⟩ (d:=(.slice none 0 0)) H4.1 (zf HB.2.2.1 H4.2.2 fun q hq e=>by
            have h1:=HH.1.low q (by have h2:=((HPX.1.call_row HF.1).1.tag q e);rw[h2];simp);have:=HB.2.2.2.2 q hq;omega) (fun q hq e=>by
            have h3:=HB.2.2.2.2 q e;have h5:=HB.2.2.2.1 q e;rcases H4.2.1 with h|h
            · rw[hq]at h
              have h1:=HH.1.low q (by have h2:=((HPX.1.call_row HF.1).1.tag q h.symm);rw[h2];simp);omega
            · rw[hq]at h
              simp at h;omega)
          ((HB.2.1.mono fun _ _ h=>h.elim).trans H4.2.2) (by
          rcases H4.2.1 with h|h
          · exact Or.inl h
          · refine Or.inr ⟨_,h,?_⟩
            simp;omega)
        rw[HP.out]at hpush;obtain⟨own',hp1,hp2⟩:=hpush;obtain⟨e1,e2⟩:=M.callTo_play m ⟨kk,0,[]⟩ (.slice none 0 0) (.slice (some ⟨g4,0,none⟩) ((zx m).length+1) c4) HF.1;exact Or.inl ⟨_,_,_,HRX.out,rfl,hp1,e1,e2,hp2⟩
end Sc
end Go.Proofs.YtkkecpamnnojoaaGreatDoor
