/- A part of the proof of ScriptParses: nothing is assumed. By an AI agent. -/
import Derived.Test.YtkkecpamnnojoaaGreatDoorBz12
set_option linter.unusedVariables false
set_option linter.unusedSimpArgs false
set_option maxRecDepth 100000
set_option maxHeartbeats 32000000
namespace Go.Proofs.YtkkecpamnnojoaaGreatDoor
open Go.ChangeShapes Go.WideShapes Go.ChangeAt Go.RowKit
open By
namespace Sc
abbrev T:=Nat×Nat×Nat
structure RowT (w:World) (own:Nat->Option T) (tag:T) (e:TypeId) (sz:Nat) (v:Value) (n:Nat) (xs:List Value):Prop where
 row:w.ownsRow 0 e sz v n xs
 tag:∀g,v.ownBlock=some g->own g=some tag
theorem RowT.move{w w':World}{own own':Nat->Option T}{tag:T}{e sz n:Nat}{v:Value}{xs:List Value}{bs:Nat->Prop}(h:RowT w own tag e sz v n xs)(k:Keep bs w w')(hn:∀g,own g=some tag->¬bs g)(ho:∀g,own g=some tag->own' g=some tag):RowT w' own' tag e sz v n xs:=
 ⟨zf h.row k fun g hg=>hn g (h.tag g hg),fun g hg=>ho g (h.tag g hg)⟩
theorem RowT.nil(w:World)(own:Nat->Option T)(tag:T)(e sz:Nat):RowT w own tag e sz (.slice none 0 0) 0 []:=⟨yi w 0 e sz,fun g hg=>by cases hg⟩
theorem RowT.len{w:World}{own:Nat->Option T}{tag:T}{e sz n:Nat}{v:Value}{xs:List Value}(h:RowT w own tag e sz v n xs):∃o cap,v=.slice o n cap:=by
 rcases h.row.2 with⟨rfl,rfl⟩|⟨g,cap,cur,rfl,-⟩
 ·exact⟨none,0,rfl⟩
 ·exact⟨_,cap,rfl⟩
def u8v(s:Str):List Value:=s.map fun b=>Value.int .u8 (b.toNat:Int)
theorem z0e(s:Str):(u8v s).length=s.length:=by simp[u8v]
def qH(f:Fault):List Value:=[.int .i64 f.at_,.int .i64 f.kind,.int .i64 f.part]
def fsv(l:List Fault):List Value:=l.flatMap qH
structure MC where
 c:Call
 d:Value
structure MT where
 v:Value
 l:List MC
structure MK where
 k:Kp
 d:Value
structure ME where
 dir:Int
 kv:Value
 ks:List MK
 fv:Value
 fs:List Fault
structure M where
 disk:Int
 segMax:Int
 base:Int
 qcap:Int
 qbytes:Int
 pmost:Int
 pbytes:Int
 linger:Nat
 alpha:Nat
 fv:Value
 fs:List Fault
 tv:Value
 ts:List MT
 pv:Value
 ps:List Int
 most:Int
 ev:Value
 es:List ME
 st:Nat
def MC.cells(c:MC):List Value:=[.int .i64 c.c.kind,.int .i64 c.c.lsn,c.d]
def MK.cells(k:MK):List Value:=[.int .i64 k.k.n,k.d]
def ME.cells(e:ME):List Value:=[.int .i64 e.dir,e.kv,e.fv]
def ME.reopen(e:ME):Reopen:=⟨e.dir,e.ks.map (·.k),e.fs⟩
def M.play(m:M):Play:=⟨m.disk,m.segMax,m.base,m.qcap,m.qbytes,m.pmost,m.pbytes,m.linger,m.alpha,m.fs,m.ts.map (fun t=>t.l.map (·.c)),m.ps,m.most,m.es.map ME.reopen⟩
def M.ps_(m:M):PS:=⟨m.play,m.st⟩
def M.cells(m:M):Array Value:=
 #[.int .i64 m.disk,.int .i64 m.segMax,.int .i64 m.base,.int .i64 m.qcap,.int .i64 m.qbytes,.int .i64 m.pmost,.int .i64 m.pbytes,.float .f64 m.linger,.float .f64 m.alpha,
  m.fv,m.tv,m.pv,.int .i64 m.most,m.ev,stV m.st]
structure CallsAt (w:World) (own:Nat->Option T) (i:Nat) (t:MT):Prop where
 row:RowT w own (3,i,0) 76 3 t.v t.l.length (t.l.flatMap MC.cells)
 data:∀j c,t.l[j]?=some c->RowT w own (4,i,j) 5 1 c.d c.c.data.length (u8v c.c.data)
structure EndAt (w:World) (own:Nat->Option T) (i:Nat) (e:ME):Prop where
 keeps:RowT w own (7,i,0) 84 2 e.kv e.ks.length (e.ks.flatMap MK.cells)
 junk:∀j k,e.ks[j]?=some k->RowT w own (8,i,j) 5 1 k.d k.k.junk.length (u8v k.k.junk)
 faults:RowT w own (9,i,0) 114 3 e.fv e.fs.length (fsv e.fs)
structure PAt (w:World) (own:Nat->Option T) (pb:Nat) (m:M):Prop where
 low:∀g,own g≠none->g<w.heap.size
 blk:w.heap[pb]?=some (.cells m.cells 61 (0,0))
 tag:own pb=some (0,0,0)
 fs:RowT w own (1,0,0) 114 3 m.fv m.fs.length (fsv m.fs)
 ts:RowT w own (2,0,0) 56 1 m.tv m.ts.length (m.ts.map (·.v))
 calls:∀i t,m.ts[i]?=some t->CallsAt w own i t
 ps:RowT w own (5,0,0) 3 1 m.pv m.ps.length (m.ps.map (Value.int .i64))
 es:RowT w own (6,0,0) 82 3 m.ev m.es.length (m.es.flatMap ME.cells)
 ends:∀i e,m.es[i]?=some e->EndAt w own i e
theorem CallsAt.move{w w':World}{own own':Nat->Option T}{i:Nat}{t:MT}{bs:Nat->Prop}(h:CallsAt w own i t)(k:Keep bs w w')(hn:∀g n j,(n=3\/n=4)->own g=some (n,i,j)->¬bs g)(ho:∀g n j,(n=3\/n=4)->own g=some (n,i,j)->own' g=some (n,i,j)):CallsAt w' own' i t:=
 ⟨h.row.move k (fun g=>hn g 3 0 (Or.inl rfl)) (fun g=>ho g 3 0 (Or.inl rfl)),fun j c hc=>(h.data j c hc).move k (fun g=>hn g 4 j (Or.inr rfl)) (fun g=>ho g 4 j (Or.inr rfl))⟩
theorem EndAt.move{w w':World}{own own':Nat->Option T}{i:Nat}{e:ME}{bs:Nat->Prop}(h:EndAt w own i e)(k:Keep bs w w')(hn:∀g n j,(n=7\/n=8\/n=9)->own g=some (n,i,j)->¬bs g)(ho:∀g n j,(n=7\/n=8\/n=9)->own g=some (n,i,j)->own' g=some (n,i,j)):EndAt w' own' i e:=
  ⟨h.keeps.move k (fun g=>hn g 7 0 (Or.inl rfl)) (fun g=>ho g 7 0 (Or.inl rfl)),fun j c hc=>(h.junk j c hc).move k (fun g=>hn g 8 j (Or.inr (Or.inl rfl))) (fun g=>ho g 8 j (Or.inr (Or.inl rfl))),
   h.faults.move k (fun g=>hn g 9 0 (Or.inr (Or.inr rfl))) (fun g=>ho g 9 0 (Or.inr (Or.inr rfl)))⟩
theorem PAt.keep{w w':World}{own:Nat->Option T}{pb:Nat}{m:M}{bs:Nat->Prop}(h:PAt w own pb m)(k:Keep bs w w')(hn:∀g,own g≠none->¬bs g):PAt w' own pb m where
 low:=fun g hg=>Nat.lt_of_lt_of_le (h.low g hg) k.size
 blk:=k.same h.blk (hn pb (by rw[h.tag];simp))
 tag:=h.tag
 fs:=h.fs.move k (fun g hg=>hn g (by rw[hg];simp)) (fun g hg=>hg)
 ts:=h.ts.move k (fun g hg=>hn g (by rw[hg];simp)) (fun g hg=>hg)
 calls:=fun i t ht=>(h.calls i t ht).move k (fun g n j _ hg=>hn g (by rw[hg];simp)) (fun g n j _ hg=>hg)
 ps:=h.ps.move k (fun g hg=>hn g (by rw[hg];simp)) (fun g hg=>hg)
 es:=h.es.move k (fun g hg=>hn g (by rw[hg];simp)) (fun g hg=>hg)
 ends:=fun i e he=>(h.ends i e he).move k (fun g n j _ hg=>hn g (by rw[hg];simp)) (fun g n j _ hg=>hg)
theorem PAt.kept{w w':World}{own:Nat->Option T}{pb:Nat}{m:M}(h:PAt w own pb m)(k:Keep (fun _=>False) w w'):PAt w' own pb m:=h.keep k fun _ _=>id
structure To (own own':Nat->Option T) (w w':World):Prop where
 keep:Keep (fun g=>own g≠none) w w'
 old:∀g,g<w.heap.size->own g=none->own' g=none
theorem To.refl(own:Nat->Option T)(w:World):To own own w w:=⟨Keep.refl _ _,fun _ _ h=>h⟩
theorem To.trans{o1 o2 o3:Nat->Option T}{a b c:World}(h:To o1 o2 a b)(k:To o2 o3 b c):To o1 o3 a c:=
  ⟨⟨k.keep.os.trans h.keep.os,k.keep.tape.trans h.keep.tape,k.keep.output.trans h.keep.output,Nat.le_trans h.keep.size k.keep.size,fun i hi hn=>by
      have h1:o1 i=none:=(by simpa using hn);have h2:=h.old i hi h1;exact(k.keep.block i (Nat.lt_of_lt_of_le hi h.keep.size) (by simp[h2])).trans (h.keep.block i hi hn)⟩,
   fun g hg h1=>k.old g (Nat.lt_of_lt_of_le hg h.keep.size) (h.old g hg h1)⟩
theorem To.kept{own:Nat->Option T}{a b:World}(k:Keep (fun _=>False) a b):To own own a b:=⟨k.mono fun _ _ h=>h.elim,fun _ _ h=>h⟩
end Sc
end Go.Proofs.YtkkecpamnnojoaaGreatDoor
namespace Go.Proofs.YtkkecpamnnojoaaGreatDoor
open Go.ChangeShapes Go.WideShapes Go.ChangeAt Go.RowKit
namespace Sc
def armed(p:Play):List Fault:=match p.ends.getLast? with
 |some r=>r.faults
 |none=>p.faults
def full(p:Play)(k:Int)(n:Nat):Bool:=
 if k=3 then decide (64<=(armed p).length)
 else if k=4 then decide (16<=p.tasks.length)
 else if k=5 then decide (256<=(p.tasks.getLastD []).length)
 else if k=6 then decide (65536<p.picks.length+n)
 else if k=7 then decide (16<=p.ends.length)||decide (257<n)
 else false
def zF(k:Int)(w:Str)(n:Nat):Bool:=
 if k=1 then decide (n=9)else if k=2 then decide (n=1)else if k=3 then decide (n=3)else if k=4 then decide (n=0)
 else if k=5 then(if zb w=3\/zb w=7 then decide (n=0)else decide (n=1))
 else decide (1<=n)
open Classical in
noncomputable def zJ(s:Str):Nat×Int:=if h:∃r:Nat×Int,RrOk (zc s) r.1 r.2 then h.choose else(0,66)
def zI:List Str->Option (List Int)
 |[]=>some []
 |s::l=>match zh s with
  |none=>none
  |some n=>(zI l).map (n::·)
noncomputable def qq(p:Play)(ws:List Str):Except Int Play:=
 match zI (ws.take 7)with
 |some [a,b,c,d,e,f,g]=>
  if(zJ (ws.getD 7 [])).2≠0 then .error (zJ (ws.getD 7 [])).2
  else if(zJ (ws.getD 8 [])).2≠0 then .error (zJ (ws.getD 8 [])).2
  else .ok {p with disk:=a,segMax:=b,base:=c,qcap:=d,qbytes:=e,pmost:=f,pbytes:=g,linger:=(zJ (ws.getD 7 [])).1,alpha:=(zJ (ws.getD 8 [])).1}
 |_=>.error 66
def arm(p:Play)(f:Fault):Play:=match p.ends.getLast? with
 |some r=>{p with ends:=p.ends.dropLast++[{r with faults:=r.faults++[f]}]}
 |none=>{p with faults:=p.faults++[f]}
def yZ(p:Play)(ws:List Str):Except Int Play:=
 match zh (ws.getD 0 [])with
 |none=>.error 66
 |some a=>if zq (ws.getD 1 [])=0 then .error 65 else match zh (ws.getD 2 [])with
  |none=>.error 66
  |some n=>.ok (arm p ⟨a,zq (ws.getD 1 []),n⟩)
def callTo(p:Play)(c:Call):Play:={p with tasks:=p.tasks.dropLast++[p.tasks.getLastD []++[c]]}
def qQ(p:Play)(w:Str)(ws:List Str):Except Int Play:=
 if zb w=1\/zb w=2 then match y9 (ws.getD 0 []) true with
  |none=>.error 64
  |some b=>.ok (callTo p ⟨zb w,0,b⟩)
 else if zb w=4\/zb w=5\/zb w=6 then match zh (ws.getD 0 [])with
  |none=>.error 66
  |some n=>.ok (callTo p ⟨zb w,n,[]⟩)
 else .ok (callTo p ⟨zb w,0,[]⟩)
def yS(s:Str):Except Int Kp:=
 match zh (s.takeWhile fun c=>decide (c.toNat≠58))with
 |none=>.error 66
 |some n=>if s.any (fun c=>decide (c.toNat=58))then match y9 ((s.dropWhile fun c=>decide (c.toNat≠58)).drop 1) false with
   |none=>.error 64
   |some b=>.ok ⟨n,b⟩
  else .ok ⟨n,[]⟩
def zO:List Str->Except Int (List Kp)
 |[]=>.ok []
 |s::l=>match yS s with
  | .error e=>.error e
  | .ok k=>match zO l with
   | .error e=>.error e
   | .ok r=>.ok (k::r)
def z0o(p:Play)(ws:List Str):Except Int Play:=
 match zh (ws.getD 0 [])with
 |none=>.error 66
 |some d=>match zO (ws.drop 1)with
  | .error e=>.error e
  | .ok ks=>.ok {p with ends:=p.ends++[⟨d,ks,[]⟩]}
noncomputable def zH(p:Play)(k:Int)(w:Str)(ws:List Str):Except Int Play:=
 if k=1 then qq p ws
 else if k=2 then(match zh (ws.getD 0 [])with|none=>.error 66|some n=>.ok {p with most:=n})
 else if k=3 then yZ p ws
 else if k=4 then .ok {p with tasks:=p.tasks++[[]]}
 else if k=5 then qQ p w ws
 else if k=6 then(match zI ws with|none=>.error 66|some l=>.ok {p with picks:=p.picks++l})
 else z0o p ws
noncomputable def yd(σ:PS)(s:Str):Except Int PS:=
 if(yn s).all okB=false then .error 64
 else match zu (yn s)with
 |[]=>.ok σ
 |w::ws=>
  if zk w=0 then .error 65
  else if nxt σ.st (zk w)=6\/(zk w=5/\σ.p.tasks=[])then .error 63
  else if full σ.p (zk w) ws.length=true then .error 9
  else if zF (zk w) w ws.length=false then .error 64
  else match zH σ.p (zk w) w ws with
   | .error e=>.error e
   | .ok p=>.ok ⟨p,nxt σ.st (zk w)⟩
noncomputable def zC(σ:PS)(n:Nat):List Str->Except (Nat×Int) PS
 |[]=>.ok σ
 |s::l=>match yd σ s with
  | .error e=>.error (n+1,e)
  | .ok σ'=>zC σ' (n+1) l
noncomputable def yl(s:Str):Play×Nat×Int:=
 if 65536<s.length then(zX,0,3)
 else match zC ⟨zX,0⟩ 0 (zA s)with
  | .error (n,e)=>(zX,n,e)
  | .ok σ=>if σ.st<=1 then(zX,0,63)else(σ.p,0,0)
theorem z1F{s:Str}{y:Nat}{k:Int}(h:RrOk (zc s) y k):zJ s=(y,k):=by have hx:∃r:Nat×Int,RrOk (zc s) r.1 r.2:=⟨(y,k),h⟩;have h2:=hx.choose_spec;unfold zJ;rw[dif_pos hx];obtain⟨e1,e2⟩:=zcZ h h2;exact Prod.ext e1 e2
end Sc
end Go.Proofs.YtkkecpamnnojoaaGreatDoor
namespace Go.Proofs.YtkkecpamnnojoaaGreatDoor
open Go.ChangeShapes Go.WideShapes Go.ChangeAt Go.RowKit
open Bt Dc By
namespace Sc
theorem yp{w:World}{base n sz:Nat}{e:TypeId}{v:Value}{xs:List Value}(h:w.ownsRow base e sz v n xs){j:Nat}{u:Value}(hj:xs[j]?=some u):
  ∃g cap,v=.slice (some ⟨g,0,none⟩) n cap/\w.cell? ⟨g,j,none⟩=some u/\w.frozen? ⟨g,j,none⟩=false/\g<w.heap.size/\n<=cap:=by
 rcases h.2 with⟨rfl,rfl⟩|⟨g,cap,cur,rfl,h1,h2,h3,h4,h5,h6⟩
 ·have:=h.1;have hx:xs=[]:=List.length_eq_zero_iff.1 (by omega);subst hx;simp at hj
 ·refine⟨g,cap,rfl,?_,zd h2 j,lt_of_block h2,h3⟩
  rw[za h2 j,<-Array.getElem?_toList];rw[<-h6]at hj;have hjl:j<n*sz:=by
   rcases Nat.lt_or_ge j (n*sz)with h|h
   ·exact h
   ·rw[List.getElem?_take_eq_none h]at hj;cases hj
  rw[List.getElem?_take_of_lt hjl]at hj;exact hj
theorem z0P{w:World}{base n sz:Nat}{e:TypeId}{g cap:Nat}{xs:List Value}(h:w.ownsRow base e sz (.slice (some ⟨g,0,none⟩) n cap) n xs){j:Nat}(hj:j<n*sz)(u:Value):(w.setCell ⟨g,j,none⟩ u).ownsRow base e sz (.slice (some ⟨g,0,none⟩) n cap) n (xs.set j u):=by
 rcases h.2 with⟨h1,-⟩|⟨g',cap',cur,he,h1,h2,h3,h4,h5,h6⟩
 ·cases h1
 ·cases he;refine⟨by rw[List.length_set];exact h.1,Or.inr ⟨g,cap,cur.setIfInBounds j u,rfl,h1,zg h2 j u,h3,h4,by rw[Array.size_setIfInBounds];exact h5,?_⟩⟩;rw[Array.toList_setIfInBounds,<-h6,List.take_set]
def qh(w:World)(o:Option Addr)(ws:List Str):Prop:=∀i,i<ws.length->∃g f,o=some ⟨g,f,none⟩/\w.cell? ⟨g,f+i,none⟩=some (qE (ws.getD i []))/\g<w.heap.size
theorem qh.of_row{w:World}{base:Nat}{v:Value}{ws:List Str}(h:w.ownsRow base 9 1 v ws.length (ws.map qE)):∃o cap,v=.slice o ws.length cap/\(o=none->cap=0)/\ws.length<=cap/\qh w o ws:=by obtain⟨o,cap,rfl,hl,hr,hc,hn,ha⟩:=z9l h;rw[List.length_map]at hl hc;refine⟨o,cap,by rw[List.length_map],hn,hc,fun i hi=>?_⟩;obtain⟨ad,ho,hcell⟩:=hr i (qE (ws.getD i [])) (by rw[List.getElem?_map,List.getElem?_eq_getElem hi,List.getD_eq_getElem?_getD,List.getElem?_eq_getElem hi];rfl);obtain⟨he,-,hlt,-⟩:=ha ad ho;refine⟨ad.block,0,by rw[ho,he],?_,hlt⟩;rw[he,show(⟨ad.block,0,none⟩:Addr).add i=⟨ad.block,0+i,none⟩from by simp[Addr.add];intro h;omega]at hcell;exact hcell
theorem qh.tail{w:World}{g f:Nat}{x:Str}{ws:List Str}(h:qh w (some ⟨g,f,none⟩) (x::ws)):qh w (some ⟨g,f+1,none⟩) ws:=fun i hi=>by obtain⟨g',f',e,hc,hl⟩:=h (i+1) (by simpa using hi);cases e;refine⟨g,f+1,rfl,?_,hl⟩;rw[show f+1+i=f+(i+1) by omega];simpa using hc
theorem qh.keep{bs:Nat->Prop}{w w':World}{o:Option Addr}{ws:List Str}(h:qh w o ws)(k:Keep bs w w')(hn:∀g f,o=some ⟨g,f,none⟩->¬bs g):qh w' o ws:=fun i hi=>by obtain⟨g,f,e,hc,hl⟩:=h i hi;exact⟨g,f,e,(k.cell (p:=⟨g,f+i,none⟩) hl (hn g f e)).trans hc,Nat.lt_of_lt_of_le hl k.size⟩
theorem qh.kept{w w':World}{o:Option Addr}{ws:List Str}(h:qh w o ws)(k:Keep (fun _=>False) w w'):qh w' o ws:=h.keep k fun _ _ _=>id
theorem z1k(n m:Nat):((n:Int)==(m:Int))=decide (n=m):=by rw[Bool.eq_iff_iff,beq_iff_eq,decide_eq_true_iff];omega
theorem z5k(n m:Nat):decide ((m:Int)<=(n:Int))=decide (m<=n):=by rw[Bool.eq_iff_iff,decide_eq_true_iff,decide_eq_true_iff];omega
theorem z7Z(k:Int)(x:Str)(n:Nat)(g f cap:Nat)(w:World)(hc:w.cell? ⟨g,f,none⟩=some (.string (zc x)))(hl:n<=1073741824):
  Calls Tryz.prog 47 #[.int .i64 k,.slice (some ⟨g,f,none⟩) (n+1) cap] w fun e w'=>e=.returned (.bool (zF k x n))/\w'=w:=by
 have HK:=Qh (z3G x w);by_cases h1:k=1
 ·subst h1;go_in;go_wp2_with fail;go_ret;exact⟨congrArg (fun b=>Ending.returned (.bool b)) (z1k n 9),rfl⟩
 by_cases h2:k=2
 ·subst h2;go_in;go_wp2_with fail;go_ret;exact⟨congrArg (fun b=>Ending.returned (.bool b)) (z1k n 1),rfl⟩
 by_cases h3:k=3
 ·subst h3;go_in;go_wp2_with fail;go_ret;exact⟨congrArg (fun b=>Ending.returned (.bool b)) (z1k n 3),rfl⟩
 by_cases h4:k=4
 ·subst h4;go_in;go_wp2_with fail;go_ret;exact⟨congrArg (fun b=>Ending.returned (.bool b)) (z1k n 0),rfl⟩
 by_cases h5:k=5
 ·subst h5
  have HR:=Qh (show zF 5 x n=(if zb x=3\/zb x=7 then decide (n=0)else decide (n=1))from rfl);by_cases c3:zb x=3
  ·rw[c3]at HK HR;clear c3;go_in;go_wp2_with(go_at_call 77;refine HK.mono ?_;rintro e w' ⟨rfl,hw⟩;obtain rfl:w=w':=hw.symm);go_ret;exact⟨congrArg (fun b=>Ending.returned (.bool b)) ((z1k n 0).trans (HR.trans (if_pos (Or.inl trivial))).symm),rfl⟩
  by_cases c7:zb x=7
  ·rw[c7]at HK HR;clear c7;go_in;go_wp2_with(go_at_call 77;refine HK.mono ?_;rintro e w' ⟨rfl,hw⟩;obtain rfl:w=w':=hw.symm);go_ret;exact⟨congrArg (fun b=>Ending.returned (.bool b)) ((z1k n 0).trans (HR.trans (if_pos (Or.inr trivial))).symm),rfl⟩
  have b3:(zb x==3)=false:=(by rw[beq_eq_false_iff_ne];exact c3);have b7:(zb x==7)=false:=(by rw[beq_eq_false_iff_ne];exact c7);rw[if_neg (by omega)]at HR;clear c3 c7;generalize zb x=c at*
  go_in;go_wp2_with(go_at_call 77;refine HK.mono ?_;rintro e w' ⟨rfl,hw⟩;obtain rfl:w=w':=hw.symm);go_ret;exact⟨congrArg (fun b=>Ending.returned (.bool b)) ((z1k n 1).trans HR.symm),rfl⟩
 have HR:=Qh (show zF k x n=decide (1<=n)from by
  unfold zF;rw[if_neg h1,if_neg h2,if_neg h3,if_neg h4,if_neg h5])
 go_in;go_wp2_with fail;go_ret;exact⟨congrArg (fun b=>Ending.returned (.bool b)) ((z5k n 1).trans HR.symm),rfl⟩
def yu(m:M)(pb:Nat):Addr:=if m.es=[]then⟨pb,9,none⟩else⟨m.ev.ownBlock.getD 0,(m.es.length-1)*3+2,none⟩
def qv(m:M):Value:=match m.es.getLast? with
 |some e=>e.fv
 |none=>m.fv
def yb(m:M):List Fault:=match m.es.getLast? with
 |some e=>e.fs
 |none=>m.fs
theorem z2L(m:M):yb m=armed m.play:=by unfold yb armed M.play;simp only[List.getLast?_map];cases m.es.getLast? <;>rfl
theorem xG{α:Type}(f:α->List Value)(k:Nat)(hk:∀x,(f x).length=k):∀(l:List α) (i j:Nat) (x:α),l[i]?=some x->j<k->(l.flatMap f)[i*k+j]?=(f x)[j]?
 |[],i,j,x,h,_=>by simp at h
 |y::l,0,j,x,h,hj=>by simp at h;subst h;rw[List.flatMap_cons,Nat.zero_mul,Nat.zero_add,List.getElem?_append_left (by rw[hk];exact hj)]
 |y::l,i+1,j,x,h,hj=>by rw[List.flatMap_cons,List.getElem?_append_right (by rw[hk,Nat.succ_mul];omega),hk,show(i+1)*k+j-k=i*k+j by rw[Nat.succ_mul];omega];exact xG f k hk l i j x (by simpa using h) hj
theorem yR{α:Type}{l:List α}{x:α}(h:l.getLast? =some x):l≠[]/\l[l.length-1]?=some x:=by
 cases l with
 |nil=>simp at h
 |cons y r=>
  refine⟨by simp,?_⟩;rw[List.getLast?_eq_getElem?]at h;exact h
theorem PAt.shape_es{w:World}{own:Nat->Option T}{pb:Nat}{m:M}(h:PAt w own pb m)(hne:m.es≠[]):∃g cap,m.ev=.slice (some ⟨g,0,none⟩) m.es.length cap/\m.es.length<=cap/\own g=some (6,0,0)/\∀i e,m.es[i]?=some e->w.cell? ⟨g,i*3,none⟩=some (.int .i64 e.dir)/\w.cell? ⟨g,i*3+1,none⟩=some e.kv/\w.cell? ⟨g,i*3+2,none⟩=some e.fv/\w.frozen? ⟨g,i*3+2,none⟩=false:=by have hl:(0:Nat)<m.es.length:=List.length_pos_iff.2 hne;have get:∀i e j u,m.es[i]?=some e->j<3->(ME.cells e)[j]?=some u->(m.es.flatMap ME.cells)[i*3+j]?=some u:=fun i e j u hi hj hu=>(xG ME.cells 3 (fun _=>rfl) m.es i j e hi hj).trans hu;obtain⟨g,cap,e1,-,-,-,hcap⟩:=yp h.es.row (get 0 m.es[0] 0 _ (by simp[hl]) (by omega) rfl);refine⟨g,cap,e1,hcap,h.es.tag g (by rw[e1];rfl),fun i e hi=>?_⟩;have c:=fun j u hj hu=>yp h.es.row (get i e j u hi hj hu);obtain⟨g0,cp0,e2,c0,-⟩:=c 0 _ (by omega) rfl;obtain⟨g1,cp1,e3,c1,-⟩:=c 1 _ (by omega) rfl;obtain⟨g2,cp2,e4,c2,f2,-⟩:=c 2 _ (by omega) rfl;rw[e1]at e2 e3 e4;cases e2;cases e3;cases e4;exact⟨c0,c1,c2,f2⟩
theorem PAt.shape_ts{w:World}{own:Nat->Option T}{pb:Nat}{m:M}(h:PAt w own pb m)(hne:m.ts≠[]):∃g cap,m.tv=.slice (some ⟨g,0,none⟩) m.ts.length cap/\m.ts.length<=cap/\own g=some (2,0,0)/\∀i t,m.ts[i]?=some t->w.cell? ⟨g,i,none⟩=some t.v/\w.frozen? ⟨g,i,none⟩=false:=by
 have hl:(0:Nat)<m.ts.length:=List.length_pos_iff.2 hne;have get:∀i (t:MT),m.ts[i]?=some t->(m.ts.map (·.v))[i]?=some t.v:=fun i (t:MT) hi=>by rw[List.getElem?_map,hi];rfl
 obtain⟨g,cap,e1,-,-,-,hcap⟩:=yp h.ts.row (get 0 m.ts[0] (by simp[hl]));refine⟨g,cap,e1,hcap,h.ts.tag g (by rw[e1];rfl),fun i t hi=>?_⟩;obtain⟨g0,cp0,e2,c0,f0,-⟩:=yp h.ts.row (get i t hi);rw[e1]at e2;cases e2;exact⟨c0,f0⟩
theorem z4S{w:World}{own:Nat->Option T}{pb:Nat}{m:M}(h:PAt w own pb m)(hz:m.es.length<=1048576):
  Calls Tryz.prog 78 #[.pointer (some ⟨pb,0,none⟩)] w fun e w'=>e=.returned (.pointer (some (yu m pb)))/\w'=w:=by
 have c13:=za h.blk 13;simp[M.cells]at c13;by_cases he:m.es=[]
 ·have HP:=Qh (show yu m pb=⟨pb,9,none⟩from by unfold yu;rw[if_pos he]);obtain⟨o,cap,hv⟩:=h.es.len;rw[hv,he]at c13;rw[HP.out];clear he hv h hz HP;go_in;go_wp2_with fail;go_ret;exact⟨rfl,rfl⟩
 ·obtain⟨g,cap,hv,hcap,-,-⟩:=h.shape_es he
  have HP:=Qh (show yu m pb=⟨g,(m.es.length-1)*3+2,none⟩from by unfold yu;rw[if_neg he,hv];rfl);rw[hv]at c13;rw[HP.out];obtain⟨k,hk⟩:∃k,m.es.length=k+1:=⟨m.es.length-1,by have:=List.length_pos_iff.2 he;omega⟩;rw[hk]at c13 hcap hz⊢
  clear he hv h HP hk;go_in;go_wp2_with fail;go_ret;exact⟨rfl,rfl⟩
def yz(m:M):Addr:=⟨m.tv.ownBlock.getD 0,m.ts.length-1,none⟩
theorem z0X{w:World}{own:Nat->Option T}{pb:Nat}{m:M}(h:PAt w own pb m)(hne:m.ts≠[])(hz:m.ts.length<=1048576):
  Calls Tryz.prog 79 #[.pointer (some ⟨pb,0,none⟩)] w fun e w'=>e=.returned (.pointer (some (yz m)))/\∃n,w'=w.drewN n:=by
 have c10:=za h.blk 10;simp[M.cells]at c10;obtain⟨g,cap,hv,hcap,-,-⟩:=h.shape_ts hne;have HP:=Qh (show yz m=⟨g,m.ts.length-1,none⟩from by unfold yz;rw[hv];rfl);rw[hv]at c10;rw[HP.out];obtain⟨k,hk⟩:∃k,m.ts.length=k+1:=⟨m.ts.length-1,by have:=List.length_pos_iff.2 hne;omega⟩;rw[hk]at c10 hcap hz⊢
 clear hne hv h HP hk;go_in;go_wp2_with fail;go_quiet(fail);go_wp2_with fail;go_ret;exact⟨rfl,_,rfl⟩
theorem PAt.arm_cell{w:World}{own:Nat->Option T}{pb:Nat}{m:M}(h:PAt w own pb m):w.cell? (yu m pb)=some (qv m)/\w.frozen? (yu m pb)=false/\∃o cap,qv m=.slice o (yb m).length cap:=by
 unfold yu qv yb;cases hl:m.es.getLast? with
 |none=>
  have he:m.es=[]:=List.getLast?_eq_none_iff.1 hl;rw[if_pos he];exact⟨za h.blk 9,zd h.blk 9,h.fs.len⟩
 |some e=>
  obtain⟨hne,hg⟩:=yR hl;rw[if_neg hne];obtain⟨g,cap,hv,-,-,hc⟩:=h.shape_es hne;obtain⟨-,-,c2,f2⟩:=hc _ e hg;rw[hv];exact⟨c2,f2,(h.ends _ e hg).faults.len⟩
def zK(m:M):Value:=match m.ts.getLast? with
 |some t=>t.v
 |none=>.slice none 0 0
def zx(m:M):List MC:=match m.ts.getLast? with
 |some t=>t.l
 |none=>[]
theorem PAt.call_cell{w:World}{own:Nat->Option T}{pb:Nat}{m:M}(h:PAt w own pb m)(hne:m.ts≠[]):w.cell? (yz m)=some (zK m)/\w.frozen? (yz m)=false/\∃o cap,zK m=.slice o (zx m).length cap:=by
 unfold yz zK zx;cases hl:m.ts.getLast? with
 |none=>exact absurd (List.getLast?_eq_none_iff.1 hl) hne
 |some t=>
  obtain⟨-,hg⟩:=yR hl;obtain⟨g,cap,hv,-,-,hc⟩:=h.shape_ts hne;obtain⟨c0,f0⟩:=hc _ t hg;rw[hv];exact⟨c0,f0,(h.calls _ t hg).row.len⟩
theorem z2p(m:M):(zx m).length=(m.play.tasks.getLastD []).length:=by unfold zx M.play;rw[List.getLastD_eq_getLast?,List.getLast?_map];cases m.ts.getLast? <;>simp
theorem PAt.drewN{w:World}{own:Nat->Option T}{pb:Nat}{m:M}(h:PAt w own pb m)(n:Nat):PAt (w.drewN n) own pb m:=h.kept ((Keep.refl _ w).drewN n)
theorem zc8{w:World}{own:Nat->Option T}{pb:Nat}{m:M}(k:Int)(n:Nat)(h:PAt w own pb m)(hes:m.es.length<=1048576)(hts:m.ts.length<=1048576)(hps:m.ps.length<=1048576)(hn:n<=1048576)(hk:k=5->m.ts≠[]):
  Calls Tryz.prog 46 #[.pointer (some ⟨pb,0,none⟩),.int .i64 k,.int .i64 (n:Int)] w fun e w'=>e=.returned (.bool (full m.play k n))/\∃n,w'=w.drewN n:=by
 by_cases h1:k=3
 ·subst h1
  obtain⟨ca,fa,oa,pa,ha⟩:=h.arm_cell;have HA:=Qh (z4S h hes);have HR:=Qh (show full m.play 3 n=decide (64<=(yb m).length)from by rw[z2L];rfl);rw[ha]at ca;generalize(yb m).length=q at*
  generalize yu m pb=P at*
  clear h hes hts hps hk ha;obtain⟨gP,oP,sP⟩:=P;go_in;go_wp2_with(go_at_call 78;refine HA.mono ?_;rintro e w' ⟨rfl,hw⟩;obtain rfl:w=w':=hw.symm);go_ret;exact⟨congrArg (fun b=>Ending.returned (.bool b)) ((z5k q 64).trans HR.symm),0,rfl⟩
 by_cases h2:k=4
 ·subst h2
  have c10:=za h.blk 10;simp[M.cells]at c10;obtain⟨o,cap,hv⟩:=h.ts.len;rw[hv]at c10;have HR:=Qh (show full m.play 4 n=decide (16<=m.ts.length)from by unfold full M.play;simp);generalize m.ts.length=q at*
  clear h hes hk hv;go_in;go_wp2_with fail;go_ret;exact⟨congrArg (fun b=>Ending.returned (.bool b)) ((z5k q 16).trans HR.symm),0,rfl⟩
 by_cases h3:k=5
 ·subst h3
  obtain⟨ca,fa,oa,pa,ha⟩:=h.call_cell (hk rfl);have HA:=Qh (z0X h (hk rfl) hts);have HR:=Qh (show full m.play 5 n=decide (256<=(zx m).length)from by rw[z2p];rfl);rw[ha]at ca;generalize(zx m).length=q at*
  generalize yz m=P at*
  clear h hes hts hps hk ha;obtain⟨gP,oP,sP⟩:=P;go_in;go_wp2_with(go_at_call 79;refine HA.mono ?_;rintro e w' ⟨rfl,j,hw⟩;obtain rfl:=hw);go_ret;exact⟨congrArg (fun b=>Ending.returned (.bool b)) ((z5k q 256).trans HR.symm),_,rfl⟩
 by_cases h4:k=6
 ·subst h4
  have c11:=za h.blk 11;simp[M.cells]at c11;obtain⟨o,cap,hv⟩:=h.ps.len;rw[hv]at c11;have HR:=Qh (show full m.play 6 n=decide (65536<m.ps.length+n)from by unfold full M.play;simp);generalize m.ps.length=q at*
  clear h hes hk hv;go_in;go_wp2_with fail;go_ret;refine⟨congrArg (fun b=>Ending.returned (.bool b)) (Eq.trans ?_ HR.symm),0,rfl⟩;show decide ((65536:Int)<(q:Int)+(n:Int))=_;rw[Bool.eq_iff_iff,decide_eq_true_iff,decide_eq_true_iff];omega
 by_cases h5:k=7
 ·subst h5
  have c13:=za h.blk 13;simp[M.cells]at c13;obtain⟨o,cap,hv⟩:=h.es.len;rw[hv]at c13;have HR:=Qh (show full m.play 7 n=(decide (16<=m.es.length)||decide (257<n))from by unfold full M.play;simp);generalize m.es.length=q at*
  clear h hk hv;by_cases hq:16<=q
  ·have hq1:(16:Int)<=(q:Int):=(by omega);rw[decide_eq_true hq,Bool.true_or]at HR;go_in;go_wp2_with fail;go_ret;exact⟨by rw[HR.out];rfl,0,rfl⟩
  ·have hq1:¬(16:Int)<=(q:Int):=by omega
   rw[decide_eq_false hq,Bool.false_or]at HR;by_cases hn2:257<n
   ·have hn3:(256:Int)<(n:Int)-1:=(by omega);rw[decide_eq_true hn2]at HR;go_in;go_wp2_with fail;go_ret;exact⟨by rw[HR.out];rfl,0,rfl⟩
   ·have hn3:¬(256:Int)<(n:Int)-1:=(by omega);rw[decide_eq_false hn2]at HR;go_in;go_wp2_with fail;go_ret;exact⟨by rw[HR.out];rfl,0,rfl⟩
 have HR:=Qh (show full m.play k n=false from by unfold full;rw[if_neg h1,if_neg h2,if_neg h3,if_neg h4,if_neg h5]);clear h hes hts hps hk;go_in;go_wp2_with fail;go_ret;exact⟨by rw[HR.out];rfl,0,rfl⟩
def qN(cs:Array Value):List Nat->List Int->Array Value
 |f::offs,n::ns=>qN (cs.setIfInBounds f (.int .i64 n)) offs ns
 |_,_=>cs
theorem z2v:∀(offs:List Nat) (ns:List Int) (cs:Array Value),(qN cs offs ns).size=cs.size
 |[],_,cs=>by cases ‹List Int›<;>rfl
 |f::offs,[],cs=>rfl
 |f::offs,n::ns,cs=>by rw[qN,z2v offs ns];simp
theorem z2u:∀(offs:List Nat) (ns:List Int) (cs:Array Value) (f:Nat) (n:Int),offs.length=ns.length->qN cs (offs++[f]) (ns++[n])=(qN cs offs ns).setIfInBounds f (.int .i64 n)
 |[],[],cs,f,n,_=>rfl
 |[],_::_,_,_,_,h=>by simp at h
 |_::_,[],_,_,_,h=>by simp at h
 |g::offs,m::ns,cs,f,n,h=>by show qN (cs.setIfInBounds g (.int .i64 m)) (offs++[f]) (ns++[n])=_;rw[z2u offs ns _ f n (by simpa using h)];rfl
theorem qP:∀{l:List Str} {ns:List Int},zI l=some ns->ns.length=l.length
 |[],ns,h=>by simp[zI]at h;subst h;rfl
 |s::l,ns,h=>by
  rw[zI]at h;cases hs:zh s with
  |none=>rw[hs]at h;cases h
  |some n=>
   rw[hs]at h;cases hl:zI l with
   |none=>rw[hl]at h;cases h
   |some r=>
    rw[hl]at h;simp at h;subst h;simp[qP hl]
theorem z06:∀(l:List Str) (s:Str),zI (l++[s])=(zI l).bind fun ns=>(zh s).map fun n=>ns++[n]
 |[],s=>by simp only[List.nil_append,zI];cases zh s<;>rfl
 |t::l,s=>by
  rw[List.cons_append,zI,z06 l s,zI];cases zh t with
  |none=>rfl
  |some n=>
   simp only[];cases zI l with
   |none=>rfl
   |some ns=>simp only[Option.bind_some,Option.map_some];cases zh s<;>rfl
theorem xz:∀(l:List Str) (k:Nat),zI (l.take k)=none->zI l=none
 |[],k,h=>by simpa using h
 |s::l,0,h=>by simp[zI]at h
 |s::l,k+1,h=>by
  rw[List.take_succ_cons,zI]at h;rw[zI];cases hs:zh s with
  |none=>rfl
  |some n=>
   rw[hs]at h;simp only[Option.map_eq_none_iff]at h⊢
   exact xz l k h
theorem qJ{α:Type}{l:List α}{k:Nat}(h:k<l.length):l.take (k+1)=l.take k++[l[k]]:=by rw[List.take_add_one,List.getElem?_eq_getElem h];rfl
def zcI(ws:List Str)(offs:List Nat)(gb:Nat)(cs:Array Value)(t:TypeId)(w:World)(e:Ending)(w':World):Prop:=
 ((∃ns,zI (ws.take offs.length)=some ns/\e=.returned (.int .i64 0)/\w'.heap[gb]?=some (.cells (qN cs offs ns) t (0,0)))\/(zI (ws.take offs.length)=none/\e=.returned (.int .i64 66)))/\Keep (fun g=>g=gb) w w'
theorem z0E(ws:List Str)(o:Option Addr)(cl k':Nat)(tb gb:Nat)(offs:List Nat)(cs:Array Value)(t:TypeId)(B:Nat)(w:World)(hE:Ev B w)(hw:qh w o ws)(hn:offs.length<=ws.length)(hcl:ws.length<=1073741824)
  (hsz:∀i,(ws.getD i []).length<=1073741824)(hto:w.heap[tb]?=some (.cells (offs.map fun f=>Value.pointer (some ⟨gb,f,none⟩)).toArray 108 (0,0)))(hgb:w.heap[gb]?=some (.cells cs t (0,0)))(hof:∀i,i<offs.length->offs.getD i 0<cs.size)(hne:tb≠gb)(ho:∀g f,o=some ⟨g,f,none⟩->g≠gb)(hB:B<=gb):
  Calls Tryz.prog 81 #[.slice o ws.length cl,.slice (some ⟨tb,0,none⟩) offs.length k'] w (zcI ws offs gb cs t w):=by
 obtain⟨N,hN⟩:=Qx offs.length;obtain⟨L,hL⟩:=Qx ws.length;have HH:=Qh (Qa hE (Qa hw (Qa hto (Qa hgb hof))));have HN:=Qh (Qa hN hL);have HO:=Qh (Qa ho (Qa hne hsz));rw[hN,hL]at hn⊢
 rw[hL]at hcl;clear hE hw hto hgb hof hN hL ho hne hsz;go_in;go_wp2_with fail;go_loopg[5,6,7,8,11] N (fun gq s5 s6 s7 s8 s11 wr=>∃k:Nat,gq+k=N/\s11=.int .i64 (k:Int)/\Hid (∃ns,zI (ws.take k)=some ns/\wr.heap[gb]?=some (.cells (qN cs (offs.take k) ns) t (0,0))/\Keep (fun g=>g=gb) w wr))
 case atStart=>exact⟨0,by omega,rfl,[],by simp[zI],HH.2.2.2.1,Keep.refl _ _⟩
 case round=>
  obtain⟨k,hgk,rfl,HK⟩:=hrel;obtain⟨ns,hns,hblk,hkp⟩:=HK.out;by_cases hk:k<N
  ·have hkw:k<ws.length:=by rw[HN.2];omega
   have hko:k<offs.length:=(by rw[HN.1];exact hk);obtain⟨g,f,rfl,hcw,hgl⟩:=HH.2.1 k hkw;have hgne:=HO.1 g f rfl;have hcw2:wr.cell? ⟨g,f+k,none⟩=some (.string (zc (ws.getD k []))):=(hkp.cell (p:=⟨g,f+k,none⟩) hgl hgne).trans hcw;have hct:wr.cell? ⟨tb,k,none⟩=some (.pointer (some ⟨gb,offs.getD k 0,none⟩)):=(by rw[za (hkp.same HH.2.2.1 HO.2.1) k];simp[List.getD_eq_getElem?_getD,hko]);have hE2:Ev B wr:=HH.1.on (hkp.below HH.1.le fun q hq=>by rw[hq];exact hB);have HNUM:=Qh (z0B (ws.getD k []) B wr hE2 (HO.2.2 k));have hok:=HH.2.2.2.2 k hko;have HS:=Qh (show zI (ws.take (k+1))=(zh (ws.getD k [])).map fun n=>ns++[n]from by
    rw[qJ hkw,z06,hns,List.getD_eq_getElem?_getD,List.getElem?_eq_getElem hkw];rfl)
   have HT:=Qh (show offs.take (k+1)=offs.take k++[offs.getD k 0]from by
    rw[qJ hko,List.getD_eq_getElem?_getD,List.getElem?_eq_getElem hko];rfl)
   have HL:=Qh (show(offs.take k).length=ns.length from by rw[qP hns,List.length_take,List.length_take];omega);generalize ws.getD k []=x at*
   generalize offs.getD k 0=fo at*
   have HB:=Qh (Qa hns (Qa hblk (Qa hkp hok)));have hk1:(k:Int)<(N:Int):=(by omega);have hk2:(k:Int)<(L:Int):=(by omega);have hk0:(0:Int)<=(k:Int):=(by omega);clear hns hblk hkp hok hcw hE2 HK hkw hko;go_wp2_with fail;refine HNUM.mono ?_;rintro e w2 ⟨⟨n,ok,rfl,hq⟩,hb2⟩;have hblk2:w2.heap[gb]?=some (.cells (qN cs (offs.take k) ns) t (0,0)):=(hb2.block gb (lt_of_block HB.2.1)).trans HB.2.1;have H2:=Qh (Qa hq (Qa hb2 hblk2));cases ok with
   |false=>
    clear hq hb2 hblk2 hct hcw2;go_wp2_with fail;go_ret;refine⟨Or.inr ⟨?_,rfl⟩,HB.2.2.1.trans ((Keep.of_below H2.2.1).mono fun _ _ h=>h.elim)⟩;have h1:zI (ws.take (k+1))=none:=(by rw[HS.out,show zh x=none from H2.1];rfl);have h2:=xz (ws.take offs.length) (k+1) (by rw[List.take_take,HN.1,Nat.min_eq_left (by omega)];exact h1);exact h2
   |true=>
    have hcc:∃u,w2.cell? ⟨gb,fo,none⟩=some u:=(by rw[za hblk2 fo];exact⟨_,Array.getElem?_eq_getElem (by rw[z2v];exact HB.2.2.2)⟩);obtain⟨u,hcu⟩:=hcc;have hfu:=zd hblk2 fo;clear hq hb2 hblk2 hct hcw2;go_wp2_with fail;go_roundg(gk-1);all_goals first|omega|skip
    case rel=>
     refine⟨k+1,by omega,rfl,ns++[n],?_,?_,?_⟩
     ·rw[HS.out,show zh x=some n from H2.1];rfl
     ·rw[HT.out,z2u _ _ _ _ _ HL.out];exact zg H2.2.2 fo _
     ·exact(HB.2.2.1.trans ((Keep.of_below H2.2.1).mono fun _ _ h=>h.elim)).setCell (p:=⟨gb,fo,none⟩) (Or.inl rfl) _
  ·obtain rfl:k=N:=(by omega);clear hgk;go_wp2_with fail;go_ret;refine⟨Or.inl ⟨ns,by rw[HN.1];exact hns,rfl,?_⟩,hkp⟩;rw[List.take_of_length_le (by rw[HN.1];exact Nat.le_refl _)]at hblk;exact hblk
theorem xA(c:UInt8):-1<=yT c/\yT c<=15:=by have:∀n:Fin 256,-1<=yT (UInt8.ofNat n.val)/\yT (UInt8.ofNat n.val)<=15:=(by decide+kernel);have h:=this ⟨c.toNat,c.toNat_lt⟩;simpa using h
theorem xy(a b:UInt8)(s:Str):zL (a::b::s)=if yT a<0\/yT b<0 then none else(zL s).map fun r=>UInt8.ofNat ((yT a).toNat*16+(yT b).toNat)::r:=by rw[zL]
theorem z1c:∀(k:Nat) (s:Str) (h:2*k+1<s.length),zL (s.take (2*(k+1)))=(zL (s.take (2*k))).bind fun out=>if yT s[2*k]<0\/yT s[2*k+1]<0 then none else some (out++[UInt8.ofNat ((yT s[2*k]).toNat*16+(yT s[2*k+1]).toNat)])
 |_,[],h=>by simp at h
 |_,[a],h=>by simp at h
 |0,a::b::s,h=>by show zL [a,b]=_;rw[xy];simp only[zL,List.take_zero,Option.bind_some,Nat.mul_zero,List.getElem_cons_zero,List.getElem_cons_succ,Nat.zero_add,List.nil_append,Option.map_some]
 |k+1,a::b::s,h=>by
  have hs:2*k+1<s.length:=(by simp at h;omega);have ih:=z1c k s hs;have e1:(a::b::s).take (2*(k+1+1))=a::b::s.take (2*(k+1)):=(by rw[show 2*(k+1+1)=2*(k+1)+1+1 by omega];rfl);have e2:(a::b::s).take (2*(k+1))=a::b::s.take (2*k):=(by rw[show 2*(k+1)=2*k+1+1 by omega];rfl);have e3:(a::b::s)[2*(k+1)]=s[2*k]:=(by simp only[show 2*(k+1)=2*k+1+1 by omega,List.getElem_cons_succ]);have e4:(a::b::s)[2*(k+1)+1]=s[2*k+1]:=(by simp only[show 2*(k+1)+1=(2*k+1)+1+1 by omega,List.getElem_cons_succ]);rw[e1,e2,e3,e4,xy,xy,ih];by_cases hd:yT a<0\/yT b<0
  ·rw[if_pos hd,if_pos hd];rfl
  ·rw[if_neg hd,if_neg hd]
   cases zL (s.take (2*k))with
   |none=>rfl
   |some out=>
    simp only[Option.bind_some,Option.map_some];split<;>rfl
theorem z1d:∀(k:Nat) (s:Str),2*k<=s.length->zL (s.take (2*k))=none->zL s=none
 |0,s,_,h=>by simp[zL]at h
 |k+1,[],hl,h=>by simp at hl
 |k+1,[a],hl,h=>by simp at hl;omega
 |k+1,a::b::s,hl,h=>by
  rw[show(a::b::s).take (2*(k+1))=a::b::s.take (2*k)from by rw[show 2*(k+1)=2*k+1+1 by omega];rfl,xy]at h;rw[xy];split at h
  ·rename_i hd;rw[if_pos hd]
  ·rename_i hd
   rw[if_neg hd];simp only[Option.map_eq_none_iff]at h⊢
   exact z1d k s (by simp at hl;omega) h
def qS(n:Nat):Int:=yT (UInt8.ofNat n)
theorem z9V(n:Nat)(w:World):Calls Tryz.prog 115 #[.string ⟨#[48,49,50,51,52,53,54,55,56,57,97,98,99,100,101,102]⟩,.int .u8 (n:Int)] w fun e w'=>e=.returned (.int .i64 (qS n))/\w'=w:=by have h:=Tryz.strings_IndexByte ⟨#[48,49,50,51,52,53,54,55,56,57,97,98,99,100,101,102]⟩ (n:Int) w;exact h
theorem zeH{p q:Nat}(hp:p<=15)(hq:q<=15):bits BinOp.or IntKind.i64 ((p:Int)*16) (q:Int)%256=(((UInt8.ofNat (p*16+q)).toNat:Nat):Int):=by have:∀p q:Fin 16,bits BinOp.or IntKind.i64 ((p.val:Int)*16) (q.val:Int)%256=(((UInt8.ofNat (p.val*16+q.val)).toNat:Nat):Int):=(by decide+kernel);exact this ⟨p,by omega⟩ ⟨q,by omega⟩
def zfH(s:Str)(dash:Bool)(w:World)(e:Ending)(w':World):Prop:=
 ((∃out v,y9 s dash=some out/\e=.returned (.tuple #[v,.bool true])/\w'.ownsRow w.heap.size 5 1 v out.length (u8v out))\/(y9 s dash=none/\e=.returned (.tuple #[.slice none 0 0,.bool false])))/\Keep (fun _=>False) w w'
theorem z2J(s:Str)(dash:Bool)(w:World)(hs:s.length<=1073741824):
  Calls Tryz.prog 100 #[.string (zc s),.bool dash] w (zfH s dash w):=by
 have h45:((zc [45]).toList==[45])=true:=(by rw[ByteArray.toList_eq,ze];rfl);have hz45:(zc [45]).size=1:=rfl;by_cases h1:s=[45]
 ·subst h1
  cases dash with
  |true=>
   go_in;go_wp2_with fail;go_ret2;exact⟨Or.inl ⟨[],_,rfl,rfl,yi _ _ _ _⟩,Keep.refl _ _⟩
  |false=>
   go_in;go_wp2_with fail;go_ret2;exact⟨Or.inr ⟨rfl,rfl⟩,Keep.refl _ _⟩
 ·obtain⟨N,hN⟩:=Qx s.length
  have hZ:((zc s).size:Int)=(N:Int):=(by rw[zw s,hN]);have hb:((zc s).toList==[45])=false:=yr (by rw[ze];exact h1);have HX:=Qh (show y9 s dash=if s=[]\/s.length%2≠0 then none else zL s from by unfold y9;rw[if_neg (fun h=>h1 h.1)]);have HCH:=Qh (qu s);clear h1 h45 hz45;generalize hS:zc s=S at*
  clear hS;by_cases h0:N=0
  ·have hz0:(S.size:Int)=0:=(by omega);have hr:y9 s dash=none:=(by rw[HX.out,if_pos (Or.inl (List.length_eq_zero_iff.1 (by omega)))]);have HR:=Qh hr;clear hr hZ;go_in;go_wp2_with fail;go_ret2;exact⟨Or.inr ⟨HR.out,rfl⟩,Keep.refl _ _⟩
  ·have hz0:¬(S.size:Int)=0:=by omega
   have hz1:((N:Int)==0)=false:=Qb (by omega);by_cases h2:N%2=0
   ·have hm:((N:Int)%2 != 0)=false:=by rw[bne_eq_false_iff_eq];omega
    obtain⟨K,hK⟩:∃K,N=2*K:=⟨N/2,by omega⟩;have HR:=Qh (show y9 s dash=zL s from by rw[HX.out,if_neg (by rintro(h|h);(subst h;simp at hN;omega);(rw[hN]at h;exact h h2))]);have HN:=Qh (Qa hN hK);clear hN h2 h0 HX hK;go_in;go_wp2_with fail;go_loopg[6,7,8,9] K (fun gq s6 s7 s8 s9 wr=>∃(k:Nat) (out:Str),gq+k=K/\s7=.int .i64 ((2*k:Nat):Int)/\Hid (zL (s.take (2*k))=some out/\out.length=k/\wr.ownsRow w.heap.size 5 1 s6 k (u8v out)/\Keep (fun _=>False) w wr))
    case atStart=>exact⟨0,[],by omega,rfl,by simp[zL],rfl,yi _ _ _ _,Keep.refl _ _⟩
    case round=>
     obtain⟨k,out,hgk,rfl,HK⟩:=hrel;by_cases hk:k<K
     ·have hkl:2*k+1<s.length:=by rw[HN.1,HN.2];omega
      have HS:=Qh (z1c k s hkl);have hc1:=HCH.out (2*k) (by omega);have hc2:=HCH.out (2*k+1) hkl;have ha:UInt8.ofNat (ch S ((2*k:Nat):Int))=s[2*k]:=(by rw[hc1];simp);have hb2:UInt8.ofNat (ch S (((2*k+1:Nat)):Int))=s[2*k+1]:=(by rw[hc2];simp);rw[<-ha,<-hb2]at HS;obtain⟨J,hJ⟩:=Qx (2*k);have hJ1:((2*k+1:Nat):Int)=(J:Int)+1:=(by omega);have hJ0:(0:Int)<=(J:Int):=(by omega);have hJm:(J:Int)<=1073741824:=(by have:=HN.1;have:=HN.2;omega);have hJa:(J:Int)<(N:Int):=(by have:=HN.2;omega);have hJb:(J:Int)+1<(N:Int):=(by have:=HN.2;omega);have hJc:(0:Int)<=(J:Int)+1:=(by omega);have hJn:(J:Nat)<S.size:=(by omega);have HJ:=Qh hJ;rw[hJ1]at HS;rw[hJ]at HS HK⊢
      clear hJ hJ1 ha hb2 hc1 hc2 hkl;have r1:=yU S (J:Int);have r2:=yU S ((J:Int)+1);generalize hna:ch S (J:Int)=na at*
      generalize hnb:ch S ((J:Int)+1)=nb at*
      have HI:=Qh z9V;have hda:=xA (UInt8.ofNat na);have hdb:=xA (UInt8.ofNat nb);have HD:=Qh (Qa (show qS na=yT (UInt8.ofNat na)from rfl) (show qS nb=yT (UInt8.ofNat nb)from rfl));rw[<-HD.1]at HS hda;rw[<-HD.2]at HS hdb;clear HD;go_wp2_with fail;go_quiet((go_at_call 115;exact Calls.quiet_of_same (HI.out _ _)));have HB:=Qh HK.out;have hnone:∀h:qS na<0\/qS nb<0,y9 s dash=none:=fun h=>(by rw[HR.out];refine z1d (k+1) s (by have:=HN.1;have:=HN.2;omega) ?_;rw[HS.out,HK.1,Option.bind_some,if_pos h]);by_cases g1:qS na<0
      ·have HX:=Qh (hnone (Or.inl g1));clear hnone;go_wp2_with fail;go_ret2;exact⟨Or.inr ⟨HX.out,rfl⟩,HB.2.2.2.drewN _⟩
      by_cases g2:qS nb<0
      ·have HX:=Qh (hnone (Or.inr g2));clear hnone;go_wp2_with fail;go_ret2;exact⟨Or.inr ⟨HX.out,rfl⟩,HB.2.2.2.drewN _⟩
      have HS2:=HS.out;rw[HK.1,Option.bind_some,if_neg (fun h=>h.elim g1 g2)]at HS2;clear hnone;obtain⟨p,hp⟩:∃p:Nat,qS na=p:=⟨(qS na).toNat,by omega⟩;obtain⟨q,hq⟩:∃q:Nat,qS nb=q:=⟨(qS nb).toNat,by omega⟩;rw[hp]at HS2 hda g1⊢
      rw[hq]at HS2 hdb g2⊢
      rw[Int.toNat_natCast,Int.toNat_natCast]at HS2;have HP:=Qh HS2;clear HS HS2;have hp1:p<=15:=(by omega);have hq1:q<=15:=(by omega);clear hp hq HI g1 g2 hda hdb;have HV:=Qh (zeH hp1 hq1);have hrow:((wr.drewN nq).alloc (.cells #[.int .u8 (bits BinOp.or IntKind.i64 ((p:Int)*16) (q:Int)%256)] 5)).ownsRow w.heap.size 5 1 u6 k (u8v out):=zf HB.2.2.1 (((Keep.refl (fun _=>False) wr).drewN nq).alloc _) fun _ _=>id;have HW:=Qh (Qa hrow (Qa HB.2.1 HB.2.2.2));have HPP:=Qh (Qa HP.out HB.2.1);obtain⟨i0,hi,hz0,hz1,hz2⟩:=z3q;have hkb:k<=1073741824:=(by have:=HJ.out;omega);clear HP hrow HB HK;go_wp2_with(at_builtin;refine qL _ rfl (.tmp 45) (.tmp 51) 53 rfl w.heap.size 5 i0 (.int .u8 0) 1 Tryz.underlying53 hi hz0 hz1 hz2 rfl u6 k _ rfl HW.1 ⟨wr.heap.size,0,none⟩ 1 (.int .u8 (bits BinOp.or IntKind.i64 ((p:Int)*16) (q:Int)%256)) rfl ?_ rfl ?_ ?_ ?_ ?_)
      ·exact za (zm _ _) 0
      ·unfold maxLen;omega
      ·omega
      ·have:=HW.2.2.size;simp[World.drewN];omega
      ·intro g cap w4 hown hgr hblk hbase
       have k4:Keep (fun q=>u6.ownBlock=some q) wr w4:=(((Keep.refl (fun q=>u6.ownBlock=some q) wr).drewN nq).alloc _).trans (zp hgr);have H4:=Qh (Qa hown k4);clear hown hgr hblk hbase k4;go_wp2_with fail;go_roundg(gk-1);all_goals first|omega|skip
       case rel=>
        refine⟨k+1,out++[UInt8.ofNat (p*16+q)],by omega,?_,HPP.1,by rw[List.length_append,HPP.2];rfl,?_,?_⟩
        ·exact congrArg (Value.int .i64) (by have:=HJ.out;omega)
        ·have h:=H4.1;rw[HV.out]at h;rw[show u8v (out++[UInt8.ofNat (p*16+q)])=u8v out++[.int .u8 (((UInt8.ofNat (p*16+q)).toNat:Nat):Int)]from by simp[u8v]];exact h
        ·refine HW.2.2.own H4.2 fun i hi=>Or.inr ?_
         rcases HW.1.2 with⟨h1,-⟩|⟨g2,c2,cur,h1,h2,-⟩
         ·rw[h1]at hi;cases hi
         ·rw[h1]at hi;cases hi;exact h2
     ·obtain rfl:k=K:=(by omega);have hlen:=HN.out;obtain⟨h1,h2,h3,h4⟩:=HK.out;rw[List.take_of_length_le (by omega),<-HR.out]at h1;have HB:=Qh (Qa h1 (Qa h2 (Qa h3 h4)));have hJN:((2*k:Nat):Int)=(N:Int):=(by omega);rw[hJN];clear h1 h2 h3 h4 HK hlen hJN;go_wp2_with fail;go_ret2;refine⟨Or.inl ⟨out,_,HB.1,rfl,?_⟩,HB.2.2.2⟩;rw[HB.2.1];exact HB.2.2.1
   ·have hr:y9 s dash=none:=(by rw[HX.out,if_pos (Or.inr (by rw[hN];exact h2))]);have HR:=Qh hr;have hm:((N:Int)%2 != 0)=true:=(by rw[bne_iff_ne];omega);clear hr;go_in;go_wp2_with fail;go_ret2;exact⟨Or.inr ⟨HR.out,rfl⟩,Keep.refl _ _⟩
def zen(s:Str)(w:World)(e:Ending)(w':World):Prop:=
 ((∃k d,yS s=.ok k/\e=.returned (.tuple #[.agg #[.int .i64 k.n,d],.int .i64 0])/\w'.ownsRow w.heap.size 5 1 d k.junk.length (u8v k.junk))\/(∃c,yS s=.error c/\c≠0/\e=.returned (.tuple #[.agg #[.int .i64 0,.slice none 0 0],.int .i64 c])))/\Keep (fun _=>False) w w'
theorem z1P(s:Str):yS s=match zh (ya 58 s)with
 |none=>.error 66
 |some n=>if has 58 s then match y9 (yt 58 s) false with
   |none=>.error 64
   |some b=>.ok ⟨n,b⟩
  else .ok ⟨n,[]⟩:=rfl
theorem z04{P:Program}{fn:Func}{p q:Tmp}{ty:TypeId}(h:fn.results=#[.cell p ty,.tmp q])(tmps:Array Value)(w:World)(g:Nat)(t:TypeId)(cs:Array Value)(fr:Nat×Nat)(d:TypeDesc)
  (hp:tmps.getD p undef=.pointer (some ⟨g,0,none⟩))(hg:w.heap[g]?=some (.cells cs t fr))
  (hu:P.underlying ty=some d)(hd:(match d with| .struct _| .array _ _=>true|_=>false)=true)(hi:(P.info? ty).map (·.size)=some cs.size):
  (results fn tmps).run P w=.ok (.tuple #[.agg cs,tmps.getD q undef]) w:=by
 have hp':tmps[p]?.getD undef=.pointer (some ⟨g,0,none⟩):=(by simpa using hp);simp[results,h,hp',asAddr,run_loadVar_row w g t ty cs fr d hg hu hd hi]
theorem z4E:(Tryz.prog.info? 84).map (·.size)=some 2:=by kernel_rfl
theorem xn(tmps:Array Value)(w:World)(g:Nat)(cs:Array Value)
  (hp:tmps.getD 2 undef=.pointer (some ⟨g,0,none⟩))(hg:w.heap[g]?=some (.cells cs 84 (0,0)))(hs:cs.size=2):(results Tryz.f102 tmps).run Tryz.prog w=.ok (.tuple #[.agg cs,tmps.getD 3 undef]) w:=
 z04 rfl tmps w g 84 cs (0,0) _ hp hg Tryz.underlying84 rfl (by rw[hs];exact z4E)
theorem zfM(w:World)(o0 o1 o2 o3:Obj)(nd:Nat):∃W,((((w.alloc o0).drewN nd).alloc o1).alloc o2).alloc o3=W/\W.heap[w.heap.size]?=some o0/\W.heap[w.heap.size+1]?=some o1/\W.heap[w.heap.size+1+1]?=some o2/\W.heap[w.heap.size+1+1+1]?=some o3/\Keep (fun _=>False) w W:=by refine⟨_,rfl,zr (zr (zr (zm w o0) _) _) _,zr (zr (zP _ _ ?_) _) _,zr (zP _ _ ?_) _,zP _ _ ?_,(((((Keep.refl _ w).alloc _).drewN nd).alloc _).alloc _).alloc _⟩<;>simp[World.drewN]
theorem zbQ(s:Str)(B:Nat)(w:World)(hE:Ev B w)(hs:s.length<=1073741824):Calls Tryz.prog 102 #[.string (zc s)] w (zen s w):=by
 have HE:=Qh hE;have hsz:=hE.le;have HS:=Qh (Qa hs (Qa (xB 58 s) True.intro));clear hE;go_in;go_wp2_with fail;refine(zcv s 58 B _ (HE.kept (((Keep.refl (fun _=>False) w).alloc _).none)) HS.1).mono ?_;rintro e w' ⟨rfl,nd,rfl⟩;go_wp2_with fail;obtain⟨W,hW,b0,b1,b2,b3,kW⟩:=zfM w (.cells #[.int .i64 0,.slice none 0 0] 84) (.cells #[.int .i64 0,.slice none 0 0] 84) (.cells #[.string (zc (ya 58 s))] 9) (.cells #[.pointer (some ⟨w.heap.size+1,0,none⟩)] 108) nd;rw[hW];clear hW;obtain⟨r,hr⟩:=Qx w.heap.size;rw[hr]at b0 b1 b2 b3 hsz⊢
 have HW:=Qh (Qa b0 (Qa b1 (Qa b2 (Qa b3 (Qa kW hr)))))
 have HI:=Qh (z0E [ya 58 s] (some ⟨r+1+1,0,none⟩) 1 1 (r+1+1+1) (r+1) [0] #[.int .i64 0,.slice none 0 0] 84 B W (HE.kept kW.none)
  (fun i hi=>by
   obtain rfl:i=0:=(by simpa using hi);exact⟨_,_,rfl,za b2 0,lt_of_block b2⟩) (by simp) (by simp) (fun i=>by
   cases i with
   |zero=>exact Nat.le_trans HS.2.1 HS.1
   |succ i=>simp) b3 b1 (fun i hi=>by
   obtain rfl:i=0:=(by simpa using hi);decide) (by omega) (fun g f h=>by cases h;omega) (by omega))
 clear b0 b1 b2 b3 kW;go_wp2_with fail;refine HI.mono ?_;clear HI;rintro e w2 ⟨(⟨ns,hn,rfl,hb⟩|⟨hn,rfl⟩),k2⟩
 ·have h1:zh (ya 58 s)=some (ns.getD 0 0):=by
   simp only[List.length_singleton,List.take_succ_cons,List.take_zero,zI]at hn;cases hq:zh (ya 58 s)with
   |none=>rw[hq]at hn;cases hn
   |some n=>rw[hq]at hn;simp at hn;subst hn;rfl
  have h2:qN #[.int .i64 0,.slice none 0 0] [0] ns=#[.int .i64 (ns.getD 0 0),.slice none 0 0]:=by
   have:=qP hn;cases ns with
   |nil=>simp at this
   |cons n r=>rfl
  rw[h2]at hb;generalize ns.getD 0 0=n at*
  have b0:=k2.same HW.1 (by omega);have kk:Keep (fun _=>False) w w2:=HW.2.2.2.2.1.own k2 fun i hi=>Or.inr (by have:=HW.2.2.2.2.2;omega);have H2:=Qh (Qa h1 (Qa hb (Qa b0 kk)));have c0:=za hb 0;have c1:=za hb 1;have f0:=zd hb 0;have f1:=zd hb 1;have d0:=za b0 0;have d1:=za b0 1;have g0:=zd b0 0;have g1:=zd b0 1;simp at c0 c1 d0 d1;clear hn h2 k2 kk h1 hb b0;by_cases hh:has 58 s=true
  ·have HHX:=Qh (z2J (yt 58 s) false w2 (Nat.le_trans (by
    rcases s with _|⟨c,t⟩
    ·exact Nat.le_refl _
    ·exact Nat.le_of_lt (z0r 58 (c::t) (by simp))) HS.1))
   have HR:=Qh (show yS s=(match y9 (yt 58 s) false with|none=>.error 64|some b=>.ok ⟨n,b⟩)from by rw[z1P,H2.1,hh];rfl);rw[hh];clear hh;generalize yt 58 s=z at*
   go_wp2_with fail;refine HHX.mono ?_;clear HHX;have hsz2:=H2.2.2.2.size;have hr2:=HW.2.2.2.2.2;have hlt:=lt_of_block H2.2.1;rintro e w3 ⟨(⟨out,v,hx,rfl,hrow⟩|⟨hx,rfl⟩),k3⟩
   ·have b1:=k3.same H2.2.1 id
    have b0:=k3.same H2.2.2.1 id;obtain⟨oo,cc,hv⟩:∃oo cc,v=.slice oo out.length cc:=by
     rcases hrow.2 with⟨h1,h2⟩|⟨g,cap,cur,h1,-⟩
     ·exact⟨none,0,by rw[h1,h2]⟩
     ·exact⟨_,cap,h1⟩
    have hvb:∀g,v.ownBlock=some g->w2.heap.size<=g:=fun g hg=>by
     rcases hrow.2 with⟨h1,h2⟩|⟨g,cap,cur,h1,h3,-⟩
     ·rw[h1]at hg;cases hg
     ·rw[h1]at hg;cases hg;exact h3
    have H3:=Qh (Qa hx (Qa hrow (Qa k3 (Qa b0 (Qa b1 hvb)))));have c0:=za b1 0;have c1:=za b1 1;have f0:=zd b1 0;have f1:=zd b1 1;have d0:=za b0 0;have d1:=za b0 1;have g0:=zd b0 0;have g1:=zd b0 1;simp at c0 c1 d0 d1;subst hv;clear hx hrow k3 b0 b1 hvb;go_wp2_with fail;refine bodyPost_ret (xn _ _ r _ rfl (zg (zg (zS H3.2.2.2.1 (by omega) 1 _) 0 _) 1 _) rfl) rfl ?_;have kf:Keep (fun g=>g=r+1\/g=r) w3 (((w3.setCell ⟨r+1,1,none⟩ (.slice oo out.length cc)).setCell ⟨r,0,none⟩ (.int .i64 n)).setCell ⟨r,1,none⟩ (.slice oo out.length cc)):=(((Keep.refl (fun g=>g=r+1\/g=r) w3).setCell (p:=⟨r+1,1,none⟩) (Or.inl (Or.inl rfl)) _).setCell (p:=⟨r,0,none⟩) (Or.inl (Or.inr rfl)) _).setCell (p:=⟨r,1,none⟩) (Or.inl (Or.inr rfl)) _;refine⟨Or.inl ⟨⟨n,out⟩,.slice oo out.length cc,by rw[HR.out,H3.1],rfl,?_⟩,?_⟩
    ·refine qx (zf H3.2.1 kf fun g hg=>?_) fun g hg=>?_
     ·have:=H3.2.2.2.2.2 g hg;omega
     ·have:=H3.2.2.2.2.2 g hg;omega
    ·exact(H2.2.2.2.trans H3.2.2.1).own kf fun i hi=>Or.inr (by omega)
   ·have b0:=k3.same H2.2.2.1 id;have H3:=Qh (Qa hx (Qa k3 b0));have d0:=za b0 0;have d1:=za b0 1;have g0:=zd b0 0;have g1:=zd b0 1;simp at d0 d1;clear hx k3 b0;go_wp2_with fail;refine bodyPost_ret (xn _ _ r _ rfl (zg (zg H3.2.2 0 _) 1 _) rfl) rfl ?_;refine⟨Or.inr ⟨64,by rw[HR.out,H3.1],by decide,rfl⟩,?_⟩;exact(H2.2.2.2.trans H3.2.1).own (((Keep.refl (fun g=>g=r) w3).setCell (p:=⟨r,0,none⟩) (Or.inl rfl) _).setCell (p:=⟨r,1,none⟩) (Or.inl rfl) _) fun i hi=>Or.inr (by omega)
  ·have hh':has 58 s=false:=(by simpa using hh);have HR:=Qh (show yS s=.ok ⟨n,[]⟩from by rw[z1P,H2.1,hh'];rfl);rw[hh'];clear hh hh';go_wp2_with fail;refine bodyPost_ret (xn _ _ r _ rfl (zg (zg H2.2.2.1 0 _) 1 _) rfl) rfl ?_;refine⟨Or.inl ⟨⟨n,[]⟩,.slice none 0 0,HR.out,rfl,yi _ _ _ _⟩,?_⟩;exact H2.2.2.2.own (((Keep.refl (fun g=>g=r) w2).setCell (p:=⟨r,0,none⟩) (Or.inl rfl) _).setCell (p:=⟨r,1,none⟩) (Or.inl rfl) _) fun i hi=>Or.inr (by have:=HW.2.2.2.2.2;omega)
 ·have h1:zh (ya 58 s)=none:=by
   simp only[List.length_singleton,List.take_succ_cons,List.take_zero,zI]at hn;cases hq:zh (ya 58 s)with
   |none=>rfl
   |some n=>rw[hq]at hn;simp at hn
  have HR:=Qh (show yS s=.error 66 from by rw[z1P,h1]);have b0:=k2.same HW.1 (by omega);have kk:Keep (fun _=>False) w w2:=HW.2.2.2.2.1.own k2 fun i hi=>Or.inr (by have:=HW.2.2.2.2.2;omega);have H2:=Qh (Qa b0 kk);have d0:=za b0 0;have d1:=za b0 1;have g0:=zd b0 0;have g1:=zd b0 1;simp at d0 d1;clear hn h1 k2 kk b0;go_wp2_with fail;refine bodyPost_ret (xn _ _ r _ rfl (zg (zg H2.1 0 _) 1 _) rfl) rfl ?_;refine⟨Or.inr ⟨66,HR.out,by decide,rfl⟩,?_⟩;exact H2.2.own (((Keep.refl (fun g=>g=r) w2).setCell (p:=⟨r,0,none⟩) (Or.inl rfl) _).setCell (p:=⟨r,1,none⟩) (Or.inl rfl) _) fun i hi=>Or.inr (by have:=HW.2.2.2.2.2;omega)
structure Grown (S:T->Prop) (w w':World) (own own':Nat->Option T):Prop where
 keep:Keep (fun g=>∃t,own g=some t/\S t) w w'
 old:∀g t,own g=some t->own' g=some t
 low:∀g,own' g≠none->g<w'.heap.size
 new:∀g,own g=none->own' g≠none->w.heap.size<=g
theorem Grown.to{S:T->Prop}{w w':World}{own own':Nat->Option T}(h:Grown S w w' own own'):To own own' w w':=
 ⟨h.keep.mono fun g _ ⟨t,ht,_⟩=>by rw[ht];simp,fun g hg hn=>by
  cases hq:own' g with
  |none=>rfl
  |some t=>have:=h.new g hn (by rw[hq];simp);omega⟩
theorem RowT.far{S:T->Prop}{w w':World}{own own':Nat->Option T}{tag:T}{e sz n:Nat}{v:Value}{xs:List Value}(h:RowT w own tag e sz v n xs)(G:Grown S w w' own own')(hs:¬S tag):RowT w' own' tag e sz v n xs:=
 h.move G.keep (fun g hg ⟨t,ht,hS⟩=>by rw[hg]at ht;cases ht;exact hs hS) (fun g hg=>G.old g _ hg)
theorem CallsAt.far{S:T->Prop}{w w':World}{own own':Nat->Option T}{i:Nat}{t:MT}(h:CallsAt w own i t)(G:Grown S w w' own own')(hs:∀n j,(n=3\/n=4)->¬S (n,i,j)):CallsAt w' own' i t:=
 ⟨h.row.far G (hs 3 0 (Or.inl rfl)),fun j c hc=>(h.data j c hc).far G (hs 4 j (Or.inr rfl))⟩
theorem EndAt.far{S:T->Prop}{w w':World}{own own':Nat->Option T}{i:Nat}{e:ME}(h:EndAt w own i e)(G:Grown S w w' own own')(hs:∀n j,(n=7\/n=8\/n=9)->¬S (n,i,j)):EndAt w' own' i e:=
 ⟨h.keeps.far G (hs 7 0 (Or.inl rfl)),fun j k hk=>(h.junk j k hk).far G (hs 8 j (Or.inr (Or.inl rfl))),h.faults.far G (hs 9 0 (Or.inr (Or.inr rfl)))⟩
def put(own:Nat->Option T)(v:Value)(t:T):Nat->Option T:=fun g=>if v.ownBlock=some g then some t else own g
theorem qm{w w4:World}{own:Nat->Option T}{v v':Value}{tag tag2:T}{e sz n n':Nat}{xs ys:List Value}{b i:Nat}(u:Value)(hlow:∀g,own g≠none->g<w.heap.size)(h:RowT w own tag e sz v n xs)(h':w4.ownsRow 0 e sz v' n' ys)
  (k:Keep (fun g=>v.ownBlock=some g) w w4)(hb:v'.ownBlock=v.ownBlock\/∃g,v'.ownBlock=some g/\w.heap.size<=g)(ht:own b=some tag2):
  Grown (fun t=>t=tag\/t=tag2) w (w4.setCell ⟨b,i,none⟩ u) own (put own v' tag) where
 keep:=by have k1:Keep (fun g=>∃t,own g=some t/\(t=tag\/t=tag2)) w w4:=k.mono fun g _ hg=>⟨tag,h.tag g hg,Or.inl rfl⟩;exact k1.setCell (p:=⟨b,i,none⟩) (Or.inl ⟨tag2,ht,Or.inr rfl⟩) u
 old:=fun g t hg=>by
  unfold put;split
  ·rename_i hv
   rcases hb with hb|⟨g2,hb,hl⟩
   ·rw[hb]at hv;rw[h.tag g hv]at hg;exact hg
   ·rw[hb]at hv;cases hv;have:=hlow g (by rw[hg];simp);omega
  ·exact hg
 low:=fun g hg=>by
  have hz:(w4.setCell ⟨b,i,none⟩ u).heap.size=w4.heap.size:=(by simp[World.setCell]);rw[hz];unfold put at hg;split at hg
  ·rename_i hv;exact xE h' hv
  ·exact Nat.lt_of_lt_of_le (hlow g hg) k.size
 new:=fun g hn hg=>by
  unfold put at hg;split at hg
  ·rename_i hv
   rcases hb with hb|⟨g2,hb,hl⟩
   ·rw[hb]at hv;rw[h.tag g hv]at hn;cases hn
   ·rw[hb]at hv;cases hv;exact hl
  ·exact absurd hn hg
theorem z1H(own:Nat->Option T)(v:Value)(t:T):∀g,v.ownBlock=some g->put own v t g=some t:=fun g hg=>by unfold put;rw[if_pos hg]
theorem xO{w4:World}{own:Nat->Option T}{v':Value}{tag:T}{e sz n':Nat}{ys:List Value}{b i:Nat}(u:Value)(h':w4.ownsRow 0 e sz v' n' ys)(hne:v'.ownBlock≠some b):RowT (w4.setCell ⟨b,i,none⟩ u) (put own v' tag) tag e sz v' n' ys:=
 ⟨zf h' ((Keep.refl (fun g=>g=b) w4).setCell (p:=⟨b,i,none⟩) (Or.inl rfl) u) fun g hg e=>by subst e;exact hne hg,z1H own v' tag⟩
def M.arm(m:M)(f:Fault)(v:Value):M:=match m.es.getLast? with
 |some e=>{m with es:=m.es.dropLast++[{e with fv:=v,fs:=e.fs++[f]}]}
 |none=>{m with fv:=v,fs:=m.fs++[f]}
theorem M.arm_play(m:M)(f:Fault)(v:Value):(m.arm f v).play=Sc.arm m.play f/\(m.arm f v).st=m.st:=by
 unfold M.arm Sc.arm;rw[show m.play.ends.getLast? =m.es.getLast?.map ME.reopen from by unfold M.play;simp only[List.getLast?_map]];cases m.es.getLast? with
 |none=>exact⟨rfl,rfl⟩
 |some e=>
  refine⟨?_,rfl⟩;unfold M.play;simp[ME.reopen,List.map_dropLast]
def xh(m:M):T:=if m.es=[]then(1,0,0)else(9,m.es.length-1,0)
theorem PAt.arm_row{w:World}{own:Nat->Option T}{pb:Nat}{m:M}(h:PAt w own pb m):RowT w own (xh m) 114 3 (qv m) (yb m).length (fsv (yb m))/\∃t,own (yu m pb).block=some t/\(t=(0,0,0)\/t=(6,0,0))/\t≠xh m:=by
 unfold xh qv yb yu;cases hl:m.es.getLast? with
 |none=>
  have he:m.es=[]:=List.getLast?_eq_none_iff.1 hl;rw[if_pos he,if_pos he];exact⟨h.fs,_,h.tag,Or.inl rfl,by decide⟩
 |some e=>
  obtain⟨hne,hg⟩:=yR hl;rw[if_neg hne,if_neg hne];obtain⟨g,cap,hv,-,ht,-⟩:=h.shape_es hne;refine⟨(h.ends _ e hg).faults,(6,0,0),?_,Or.inr rfl,by simp⟩;rw[hv];exact ht
theorem z5U{α:Type}(f:α->List Value)(k:Nat)(hk:∀x,(f x).length=k)(l:List α)(x y:α)(j:Nat)(u:Value)(hj:j<k)(hy:f y=(f x).set j u):(l++[y]).flatMap f=((l++[x]).flatMap f).set (l.length*k+j) u:=by
 have hl:(l.flatMap f).length=l.length*k:=by
  induction l with
  |nil=>simp
  |cons z r ih=>rw[List.flatMap_cons,List.length_append,ih,hk,List.length_cons,Nat.succ_mul];omega
 rw[List.flatMap_append,List.flatMap_append,List.set_append_right _ _ (by rw[hl];omega),hl];simp[hy]
theorem PAt.arm_push{w w4:World}{own:Nat->Option T}{pb:Nat}{m:M}(h:PAt w own pb m)(f:Fault){v':Value}(h':w4.ownsRow 0 114 3 v' ((yb m).length+1) (fsv (yb m)++qH f))
  (k:Keep (fun g=>(qv m).ownBlock=some g) w w4)(hb:v'.ownBlock=(qv m).ownBlock\/∃g,v'.ownBlock=some g/\w.heap.size<=g):
  PAt (w4.setCell (yu m pb) v') (put own v' (xh m)) pb (m.arm f v')/\To own (put own v' (xh m)) w (w4.setCell (yu m pb) v'):=by
 obtain⟨hrow,t2,ht2,ht3,ht4⟩:=h.arm_row;have hsp:(yu m pb)=⟨(yu m pb).block,(yu m pb).off,none⟩:=(by unfold yu;split<;>rfl);have G:Grown (fun t=>t=xh m\/t=t2) w (w4.setCell (yu m pb) v') own (put own v' (xh m)):=(by rw[hsp];exact qm v' h.low hrow h' k hb ht2);have hne:v'.ownBlock≠some (yu m pb).block:=by
  intro e;rcases hb with hb|⟨g,hb,hl⟩
  ·rw[hb]at e;rw[hrow.tag _ e]at ht2;cases ht2;exact ht4 rfl
  ·rw[hb]at e;cases e;have:=h.low _ (by rw[ht2];simp);omega
 have hrow':RowT (w4.setCell (yu m pb) v') (put own v' (xh m)) (xh m) 114 3 v' ((yb m).length+1) (fsv (yb m)++qH f):=(by rw[hsp];exact xO v' h' hne);refine⟨?_,G.to⟩;cases hl:m.es.getLast? with
 |none=>
  have he:m.es=[]:=List.getLast?_eq_none_iff.1 hl;have e1:xh m=(1,0,0):=(by unfold xh;rw[if_pos he]);have e2:yu m pb=⟨pb,9,none⟩:=(by unfold yu;rw[if_pos he]);have e3:yb m=m.fs:=(by unfold yb;rw[hl]);have e4:qv m=m.fv:=(by unfold qv;rw[hl]);have e5:m.arm f v'={m with fv:=v',fs:=m.fs++[f]}:=(by unfold M.arm;rw[hl]);have e6:t2=(0,0,0):=(by rw[e2]at ht2;have:=h.tag;rw[show(⟨pb,9,none⟩:Addr).block=pb from rfl,this]at ht2;cases ht2;rfl);rw[e5];rw[e1,e2,e3]at hrow';rw[e1,e2,e6]at G;rw[e1,e2];rw[e4]at k
  exact{
   low:=G.low
   blk:=by have hpb:=k.same h.blk (fun e=>by have:=h.fs.tag pb e;rw[h.tag]at this;cases this);exact zg hpb 9 v'
   tag:=G.old _ _ h.tag
   fs:=by rw[show(m.fs++[f]).length=m.fs.length+1 by simp,show fsv (m.fs++[f])=fsv m.fs++qH f by simp[fsv]];exact hrow'
   ts:=h.ts.far G (by simp)
   calls:=fun i t ht=>(h.calls i t ht).far G (fun n j hn=>by rcases hn with rfl|rfl<;>simp)
   ps:=h.ps.far G (by simp)
   es:=h.es.far G (by simp)
   ends:=fun i e he=>(h.ends i e he).far G (fun n j hn=>by rcases hn with rfl|rfl|rfl<;>simp)}
 |some e=>
  obtain⟨hne2,hg⟩:=yR hl;obtain⟨pre,hpre⟩:∃pre,m.es=pre++[e]:=List.getLast?_eq_some_iff.1 hl;have hlen:m.es.length-1=pre.length:=(by rw[hpre];simp);obtain⟨g6,cap,hv,hcap,h6,-⟩:=h.shape_es hne2;have e1:xh m=(9,pre.length,0):=(by unfold xh;rw[if_neg hne2,hlen]);have e2:yu m pb=⟨g6,pre.length*3+2,none⟩:=(by unfold yu;rw[if_neg hne2,hv,hlen];rfl);have e3:yb m=e.fs:=(by unfold yb;rw[hl]);have e4:qv m=e.fv:=(by unfold qv;rw[hl]);have e5:m.arm f v'={m with es:=pre++[{e with fv:=v',fs:=e.fs++[f]}]}:=(by unfold M.arm;rw[hl,hpre,List.dropLast_concat]);have e6:t2=(6,0,0):=(by rw[e2,show(⟨g6,pre.length*3+2,none⟩:Addr).block=g6 from rfl,h6]at ht2;cases ht2;rfl);rw[e5];rw[e1,e2,e3]at hrow';rw[e1,e2,e6]at G;rw[e1]at hrow;rw[e1,e2];rw[e4]at k hrow;have hgp:g6≠pb:=(by intro e;rw[e,h.tag]at h6;cases h6);have hend:=h.ends pre.length e (by rw[<-hlen];exact hg)
  exact{
   low:=G.low
   blk:=by have hpb:=k.same h.blk (fun e=>by have:=hrow.tag pb e;rw[h.tag]at this;cases this);exact zS hpb (fun e=>hgp e.symm) _ v'
   tag:=G.old _ _ h.tag
   fs:=h.fs.far G (by simp)
   ts:=h.ts.far G (by simp)
   calls:=fun i t ht=>(h.calls i t ht).far G (fun n j hn=>by rcases hn with rfl|rfl<;>simp)
   ps:=h.ps.far G (by simp)
   es:=by have hr:=zf h.es.row k fun g hg e=>(by have a:=hrow.tag g e;have b:=h.es.tag g hg;rw[b]at a;cases a);rw[hv]at hr;have hs:=z0P hr (j:=pre.length*3+2) (by rw[hpre];simp;omega) v';refine⟨?_,fun g hg=>G.old _ _ (h.es.tag g hg)⟩;show(w4.setCell ⟨g6,pre.length*3+2,none⟩ v').ownsRow 0 82 3 m.ev (pre++[{e with fv:=v',fs:=e.fs++[f]}]).length ((pre++[{e with fv:=v',fs:=e.fs++[f]}]).flatMap ME.cells);rw[z5U ME.cells 3 (fun _=>rfl) pre e _ 2 v' (by omega) rfl,hv];rw[show m.es.length=pre.length+1 from by rw[hpre];simp];rw[hpre]at hs;simpa using hs
   ends:=fun i e0 he0=>by
    by_cases hi:i=pre.length
    ·subst hi;obtain rfl:e0={e with fv:=v',fs:=e.fs++[f]}:=(by simpa using he0.symm);refine⟨hend.keeps.far G (by simp),fun j kk hk=>(hend.junk j kk hk).far G (by simp),?_⟩;show RowT _ _ _ _ _ v' (e.fs++[f]).length (fsv (e.fs++[f]));rw[show(e.fs++[f]).length=e.fs.length+1 by simp,show fsv (e.fs++[f])=fsv e.fs++qH f by simp[fsv]];exact hrow'
    ·have hlt:i<pre.length:=by
      rcases Nat.lt_or_ge i pre.length with h|h
      ·exact h
      ·rw[List.getElem?_append_right h]at he0
       have:i-pre.length≠0:=(by omega);cases hq:i-pre.length with
       |zero=>omega
       |succ z=>rw[hq]at he0;simp at he0
     have he1:m.es[i]?=some e0:=(by rw[hpre,List.getElem?_append_left hlt];rw[List.getElem?_append_left hlt]at he0;exact he0);exact(h.ends i e0 he1).far G (fun n j hn=>by
      rcases hn with rfl|rfl|rfl<;>simp;intro e;exact absurd e hi)}
end Sc
end Go.Proofs.YtkkecpamnnojoaaGreatDoor
