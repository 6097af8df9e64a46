/- A part of the proof of ScriptParses: nothing is assumed. By an AI agent. -/
import Derived.Test.YtkkecpamnnojoaaGreatDoorBz21
set_option linter.unusedVariables false
set_option linter.unusedSimpArgs false
set_option maxRecDepth 100000
set_option maxHeartbeats 32000000
namespace Go.Proofs.YtkkecpamnnojoaaGreatDoor
open Go.ChangeShapes Go.WideShapes Go.ChangeAt Go.RowKit Go.Shelf
open Bt Dc By
namespace Sc
def mkv(σ i:Nat):Value:=.int .u8 ((i/σ%250:Nat):Int)
theorem z24{P:Program}{w:World}{ops:Array Oper}{o:Oper}{a:Act}{K:Act->World->Prop}{Q:Exit->Act->World->Prop}{E:Prop}(hgd:o.guard=none)(s x:Operand)(t:TypeId)
  (ho:o.op=.call {callee:=.builtin .append,args:=#[s,x],argTypes:=#[t,t]})
  (base:Nat)(e:TypeId)(i:TypeInfo)(size:Nat)(ht:P.underlying t=some (.slice e))(hi:P.info? e=some i)(hsize:i.size=size)
  (g n cap:Nat)(xs:List Value)(hs:a.eval s=.slice (some ⟨g,0,none⟩) n cap)(hown:w.ownsRow base e size (.slice (some ⟨g,0,none⟩) n cap) n xs)
  (ad:Addr)(m c:Nat)(news:List Value)(hx:a.eval x=.slice (some ad) m c)(hl:news.length=m*size)(hnews:∀j u,news[j]?=some u->w.cell? (ad.add j)=some u)(h1:∀u∈news,u.oneCell'=true)
  (hroom:n+m<=cap)
  (h:∀w',w'.ownsRow base e size (.slice (some ⟨g,0,none⟩) (n+m) cap) (n+m) (xs++news)->w.grownBy w' (some g)->K (a.put o.dst (.slice (some ⟨g,0,none⟩) (n+m) cap)) w'):
  if Region.wanted o (yielded ops a.tmps)=true then Oper.wp P o a w K Q else E:=by
 have hw:Region.wanted o (yielded ops a.tmps)=true:=(by simp[Region.wanted,hgd]);rw[if_pos hw];obtain⟨w',hr,h2,h3⟩:=run_append_fits (P:=P) w base t o.type e i size ht hi hsize g n cap xs hown ad m c news hl hnews h1 hroom;unfold Oper.wp execOp;simp only[ho,resolve,invoke,builtin,Sem.run_bind,Sem.run_pure,Result.andThen_ok,List.map_toArray,List.map_cons,List.map_nil,hs,hx,hr];exact h w' h2 h3
def ApB(v:Value)(L:List KS)(g:Nat):Prop:=v.ownBlock=some g\/∃s∈L,s.g=g
structure ApS (kb:Nat) (v:Value) (z:Int) (L:List KS) (B σ:Nat) (w wr:World) (i:Nat) (L':List KS):Prop where
 kp:KpBd 4300000 wr kb v z L'
 len:L'.length=L.length
 g:∀(j:Nat) (s s':KS),L[j]?=some s->L'[j]?=some s'->s'.g=s.g
 keep:Keep (ApB v L) w wr
 n:∀(j:Nat) (s:KS),L'[j]?=some s->s.n<=B+5000/\(i<=j->s.n<=B)
 marks:∀(j:Nat) (s:KS),j<i->L'[j]?=some s->s.xs=List.replicate s.n (mkv σ j)
structure ApM (kb:Nat) (v:Value) (z:Int) (L:List KS) (B σ:Nat) (w wr:World) (i:Nat) (L':List KS) (s t:KS) (k:Nat):Prop where
 kp:KpBd 4300000 wr kb v z (L'.set i t)
 g:t.g=s.g
 cap:t.cap=s.cap
 n:t.n<=B+5000
 keep:Keep (ApB v L) w wr
 marks:∀j,j<k->t.xs[j]?=some (mkv σ i)
theorem ApS.start{kb:Nat}{v:Value}{z:Int}{L:List KS}{B:Nat}(σ:Nat){w:World}(h:KpBd 4300000 w kb v z L)(hB:∀(j:Nat) (s:KS),L[j]?=some s->s.n<=B):ApS kb v z L B σ w w 0 L where
 kp:=h
 len:=rfl
 g:=fun j s s' h1 h2=>by rw[h1]at h2;cases h2;rfl
 keep:=Keep.refl _ _
 n:=fun j s hs=>⟨by have:=hB j s hs;omega,fun _=>hB j s hs⟩
 marks:=fun j s hj=>absurd hj (by omega)
theorem ApS.again{kb:Nat}{v:Value}{z:Int}{L L':List KS}{B σ:Nat}(σ':Nat){w wr:World}{i:Nat}(h:ApS kb v z L B σ w wr i L'):ApS kb v z L (B+5000) σ' w wr 0 L' where
 kp:=h.kp
 len:=h.len
 g:=h.g
 keep:=h.keep
 n:=fun j s hs=>⟨by have:=(h.n j s hs).1;omega,fun _=>(h.n j s hs).1⟩
 marks:=fun j s hj=>absurd hj (by omega)
theorem ApS.mid{kb:Nat}{v:Value}{z:Int}{L L':List KS}{B σ:Nat}{w wr:World}{i:Nat}(h:ApS kb v z L B σ w wr i L'){s:KS}(hs:L'[i]?=some s):ApM kb v z L B σ w wr i L' s s 0 where
 kp:=by
  have e:L'.set i s=L':=by
   apply List.ext_getElem?;intro j;rw[List.getElem?_set];split
   ·rename_i e;subst e;obtain⟨hl,-⟩:=List.getElem?_eq_some_iff.1 hs;rw[if_pos hl,hs]
   ·rfl
  rw[e];exact h.kp
 g:=rfl
 cap:=rfl
 n:=(h.n i s hs).1
 keep:=h.keep
 marks:=fun j hj=>absurd hj (by omega)
theorem ApM.lt{kb:Nat}{v:Value}{z:Int}{L L':List KS}{B σ:Nat}{w wr:World}{i k:Nat}{s t:KS}(h:ApM kb v z L B σ w wr i L' s t k)(hi:i<L'.length):(L'.set i t)[i]?=some t:=by rw[List.getElem?_set,if_pos rfl,if_pos hi]
theorem ApM.row{kb:Nat}{v:Value}{z:Int}{L L':List KS}{B σ:Nat}{w wr:World}{i k:Nat}{s t:KS}(h:ApM kb v z L B σ w wr i L' s t k)(hi:i<L'.length):wr.ownsRow 0 5 1 t.val t.n t.xs:=h.kp.each i t (h.lt hi)
theorem ApM.turn{kb:Nat}{v:Value}{z:Int}{L L':List KS}{B σ:Nat}{w wr w':World}{i k k':Nat}{s t t':KS}(h:ApM kb v z L B σ w wr i L' s t k)(hi:i<L'.length)(hg:t'.g=t.g)(hc:t'.cap=t.cap)(hn:t'.n<=B+5000)(hB:B<=4250000)(hb:∃s0∈L,s0.g=s.g)
  (kk:Keep (fun g=>g=t.g\/v.ownBlock=some g) wr w')(hrow:w'.ownsRow 0 53 1 v (L'.set i t).length (((L'.set i t).map KS.val).set i t'.val))(ht:w'.ownsRow 0 5 1 t'.val t'.n t'.xs)(hm:∀j,j<k'->t'.xs[j]?=some (mkv σ i)):
  ApM kb v z L B σ w w' i L' s t' k' where
 kp:=by have:=h.kp.turn (h.lt hi) hg kk hrow ht (by omega);rw[List.set_set]at this;exact this
 g:=hg.trans h.g
 cap:=hc.trans h.cap
 n:=hn
 keep:=h.keep.own kk fun g hg=>by
  rcases hg with rfl|e
  ·obtain⟨s0,h1,h2⟩:=hb;exact Or.inl (Or.inr ⟨s0,h1,by rw[h2,h.g]⟩)
  ·exact Or.inl (Or.inl e)
 marks:=hm
theorem ApM.kept{kb:Nat}{v:Value}{z:Int}{L L':List KS}{B σ:Nat}{w wr w':World}{i k:Nat}{s t:KS}(h:ApM kb v z L B σ w wr i L' s t k)(kk:Keep (fun _=>False) wr w'):ApM kb v z L B σ w w' i L' s t k:=
 ⟨h.kp.kept kk,h.g,h.cap,h.n,h.keep.own kk fun _ h=>h.elim,h.marks⟩
theorem ApS.kept{kb:Nat}{v:Value}{z:Int}{L L':List KS}{B σ:Nat}{w wr w':World}{i:Nat}(h:ApS kb v z L B σ w wr i L')(kk:Keep (fun _=>False) wr w'):ApS kb v z L B σ w w' i L':=
 ⟨h.kp.kept kk,h.len,h.g,h.keep.own kk fun _ h=>h.elim,h.n,h.marks⟩
theorem ApS.next{kb:Nat}{v:Value}{z:Int}{L L':List KS}{B σ:Nat}{w wr wr':World}{i:Nat}{s t:KS}(h:ApS kb v z L B σ w wr i L')(hs:L'[i]?=some s)(m:ApM kb v z L B σ w wr' i L' s t t.n):ApS kb v z L B σ w wr' (i+1) (L'.set i t):=by
 have hi:i<L'.length:=(List.getElem?_eq_some_iff.1 hs).1;have get:=fun j u (hu:(L'.set i t)[j]?=some u)=>z8k hu;refine⟨m.kp,by rw[List.length_set];exact h.len,fun j x u hx hu=>?_,m.keep,fun j u hu=>?_,fun j u hj hu=>?_⟩
 ·rcases get j u hu with⟨a,c⟩|⟨a,c⟩
  ·exact h.g j x u hx c
  ·rw[c,m.g];rw[a]at hx;exact h.g i x s hx hs
 ·rcases get j u hu with⟨a,c⟩|⟨a,c⟩
  ·exact⟨(h.n j u c).1,fun hij=>(h.n j u c).2 (by omega)⟩
  ·exact⟨by rw[c];exact m.n,fun hij=>by omega⟩
 ·rcases get j u hu with⟨a,c⟩|⟨a,c⟩
  ·exact h.marks j u (by omega) c
  ·have hr:=m.row hi
   have hlen:t.xs.length=t.n:=(by have:=hr.1;omega);rw[c,a];apply List.ext_getElem?;intro l;rw[List.getElem?_replicate];split
   ·rename_i hl;exact m.marks l hl
   ·exact List.getElem?_eq_none (by omega)
theorem ApM.grow{kb:Nat}{v:Value}{z:Int}{L L':List KS}{B σ:Nat}{w wr w4:World}{i g n cap gL q pL:Nat}{s:KS}{xs:List Value}(h:ApM kb v z L B σ w wr i L' s ⟨g,n,cap,xs⟩ 0)(hi:i<L'.length)(hv:v=.slice (some ⟨gL,0,none⟩) q pL)(hq:L'.length=q)(hn:n+1<=B+5000)(hB:B<=4250000)(hb:∃s0∈L,s0.g=s.g)
  (k4:Keep (fun b=>b=g) wr w4)(hown:w4.ownsRow 0 5 1 (.slice (some ⟨g,0,none⟩) (n+1) cap) (n+1) (xs++[.int .u8 0])):
  ApM kb v z L B σ w (w4.setCell ⟨gL,i,none⟩ (.slice (some ⟨g,0,none⟩) (n+1) cap)) i L' s ⟨g,n+1,cap,xs++[.int .u8 0]⟩ 0:=by
 have hfar:gL≠g:=fun e=>(h.kp.far i _ (h.lt hi)).2 (by rw[hv,e];rfl);have kk:Keep (fun b=>b=g\/v.ownBlock=some b) wr (w4.setCell ⟨gL,i,none⟩ (.slice (some ⟨g,0,none⟩) (n+1) cap)):=(k4.mono fun _ _ h=>Or.inl h).setCell (p:=⟨gL,i,none⟩) (Or.inl (Or.inr (by rw[hv];rfl))) _;refine h.turn hi rfl rfl hn hB hb kk ?_ (zf hown ((Keep.refl (fun b=>b=gL) w4).setCell (p:=⟨gL,i,none⟩) (Or.inl rfl) _) fun b hb e=>?_) fun j hj=>absurd hj (by omega)
 ·have h1:=h.kp.row
  rw[List.length_set,hq]at h1⊢
  rw[hv]at h1⊢
  exact z0P (zf h1 k4 fun b hb e=>hfar (by cases hb;exact e)) (by omega) _
 ·cases hb;exact hfar e.symm
theorem ApM.mark{kb:Nat}{v:Value}{z:Int}{L L':List KS}{B σ:Nat}{w wr w4:World}{i g n cap c:Nat}{s:KS}{xs:List Value}(h:ApM kb v z L B σ w wr i L' s ⟨g,n,cap,xs⟩ c)(hi:i<L'.length)(hc:c<n)(hB:B<=4250000)(hb:∃s0∈L,s0.g=s.g)(k4:Keep (fun _=>False) wr w4){u:Value}(hu:u=mkv σ i):
  ApM kb v z L B σ w (w4.setCell ⟨g,c,none⟩ u) i L' s ⟨g,n,cap,xs.set c u⟩ (c+1):=by
 have hr:w4.ownsRow 0 5 1 (.slice (some ⟨g,0,none⟩) n cap) n xs:=zf (h.row hi) k4 fun _ _=>id;have hlen:xs.length=n:=(by have:=hr.1;omega);have k5:Keep (fun b=>b=g) w4 (w4.setCell ⟨g,c,none⟩ u):=(Keep.refl (fun b=>b=g) w4).setCell (p:=⟨g,c,none⟩) (Or.inl rfl) _;have k6:Keep (fun b=>b=g) wr (w4.setCell ⟨g,c,none⟩ u):=(k4.mono fun _ _ h=>h.elim).trans k5;refine h.turn hi rfl rfl h.n hB hb (k6.mono fun _ _ h=>Or.inl h) ?_ (z0P hr (by omega) u) fun j hj=>?_
 ·have h1:=zf h.kp.row k6 fun b hb e=>(h.kp.far i _ (h.lt hi)).2 (by rw[hb,e]);rw[List.map_set,List.set_set];rw[List.map_set]at h1;exact h1
 ·show(xs.set c u)[j]?=_
  rw[List.getElem?_set];split
  ·rename_i e;rw[if_pos (by omega),hu]
  ·exact h.marks j (by omega)
theorem zao(kb:Nat)(v:Value)(z:Int)(L:List KS)(w:World)(h:z3O w kb v z L):
    Calls Tryz.prog 12 #[.pointer (some ⟨kb,0,none⟩)] w fun e w'=>e=.returned (.bool true)/\Keep (ApB v L) w w':=by
  obtain⟨oL,pL,hv⟩:∃oL pL,v=.slice oL L.length pL:=by
    rcases h.row.2 with⟨e1,e2⟩|⟨g,c,cur,e1, -⟩
    · exact⟨none,0,by rw[e1,e2]⟩
    · exact⟨_,c,e1⟩
  obtain⟨q,hq⟩:=Qx L.length;rw[hq]at hv;have hq2:q<=4194304:=(by have:=h.few;have:=h.z;omega);obtain⟨i0,hi0,hz0,hz1,hz2⟩:=z3q;have HI:=Qh (Qa hi0 (Qa hz0 (Qa hz1 hz2)));have HH:=Qh (Qa hv hq);have HA:=Qh (ApS.start 1 (h.up (by omega)) h.sm);clear hv hq h hi0 hz0 hz1 hz2;go_in;go_wp2_with fail;go_loopg[3,4,5,6,7,8] 2 (fun gq s3 s4 s5 s6 s7 s8 wr=>∃p σ:Nat,gq+p=2/\(p=0/\σ=1\/p=1/\σ=250\/p=2/\σ=62500)/\s3=.int .i64 (σ:Int)/\Hid (∃L',ApS kb v z L (4194304+5000*p) σ w wr 0 L'))
  case atStart=>exact⟨0,1,by omega,Or.inl ⟨rfl,rfl⟩,rfl,L,HA.out⟩
  case round=>
    obtain⟨p,σ,hgp,hps,rfl,L1,hA1⟩:=hrel;by_cases hp:p=2
    · obtain rfl:σ=62500:=by omega
      have HK:=Qh hA1.keep;clear hA1 hps hgp;go_wp2_with fail;go_ret;exact⟨rfl,HK.out⟩
    have hσ0:(1:Int)<=(σ:Int):=(by omega);have hσ1:(σ:Int)<=250:=(by omega);have hσn:((σ:Int)==0)=false:=Qb (by omega);have hσz:¬(σ:Int)=0:=(by omega);obtain⟨B,hB⟩:=Qx (4194304+5000*p);have hB1:B<=4200000:=(by omega);rw[hB]at hA1;have HP:=Qh (Qa hgp (Qa hps hB));have HA1:=Qh hA1;obtain⟨G,hG⟩:=Qx gk;have HGG:=Qh hG;have hσ:1<=σ:=(by omega);clear hA1 hps hgp hp hB hG;go_wp2_with fail;go_loopg[4,5,6] q (fun gq s4 s5 s6 wr=>∃i:Nat,gq+i=q/\s4=.int .i64 (i:Int)/\Hid (∃L',ApS kb v z L B σ w wr i L'))
    case atStart=>exact⟨0,by omega,rfl,L1,HA1.out⟩
    case round=>
      obtain⟨i,hgi,rfl,L',hAS⟩:=hrel;have c0:=za hAS.kp.blk 0;simp at c0;rw[HH.1]at c0;have hL':L'.length=q:=hAS.len.trans HH.2;obtain⟨G2,hG2⟩:=Qx gk;rw[hG2]at hgi;have HGG2:=Qh hG2;clear hG2;by_cases hi:i<q
      · have hiI:(i:Int)<(q:Int):=by omega
        have hi0:(0:Int)<=(i:Int):=(by omega);obtain⟨⟨g,n0,cap,xs0⟩,hs⟩:∃s,L'[i]?=some s:=⟨L'[i]'(by omega),List.getElem?_eq_getElem (by omega)⟩;obtain⟨gL,cp',e1,cg,fg,hgl, -⟩:=yp hAS.kp.row (j:=i) (u:=KS.val ⟨g,n0,cap,xs0⟩) (by rw[List.getElem?_map,hs];rfl);rw[HH.1,hL']at e1;cases e1;have hrow:=hAS.kp.each i _ hs;have hcm:cap<=maxLen:=by
          rcases hrow.2 with⟨e1, -⟩|⟨g',c',cur,e1, -, -, -,h4, -⟩
          · cases e1
          · cases e1;exact h4
        have hn0:n0<=B:=(hAS.n i _ hs).2 (Nat.le_refl _);have hnc:n0<=cap:=by
          rcases hrow.2 with⟨e1, -⟩|⟨g',c',cur,e1, -, -,h3, -⟩
          · cases e1
          · cases e1;exact h3
        obtain⟨R,hR⟩:=Qx (min cap (n0+5000));have HR:=Qh (fun W=>z61 n0 cap (by omega) hcm W);rw[hR]at HR;have hRB:R<=B+5000:=(by omega);have hRc:R<=cap:=(by omega);have hnR:n0<=R:=(by omega);unfold KS.val at cg;simp only[]at cg;have hb:∃s0∈L,s0.g=g:=(by have hil:i<L.length:=(by rw[HH.2];exact hi);exact⟨L[i],List.getElem_mem hil,(hAS.g i _ _ (List.getElem?_eq_getElem hil) hs).symm⟩);have hm:=hAS.mid hs;have HS:=Qh (Qa hAS (Qa hs (Qa hb (Qa hm hL'))));clear hAS hs hb hm hL' hrow hcm hnc fg hn0 hR;go_wp2_with fail;go_quiet((go_at_call 27;exact Calls.quiet_of_same ((HR.out _).mono fun _ _ h=>⟨h.1,h.2⟩)));go_wp2_with fail;clear HR c0 cg hgl;go_loopg[] (R-n0) (fun gq wr=>∃(n:Nat) (xs:List Value),gq+n=R/\n0<=n/\Hid (ApM kb v z L B σ w wr i L' ⟨g,n0,cap,xs0⟩ ⟨g,n,cap,xs⟩ 0))
        case atStart=>exact⟨n0,xs0,by omega,Nat.le_refl _,HS.2.2.2.1.kept ((Keep.refl (fun _=>False) wr).drewN _)⟩
        case round=>
          obtain⟨n,xs,hgn,hnn,hM⟩:=hrel;have hiL:i<L'.length:=(by rw[HS.2.2.2.2];exact hi);have d0:=za hM.kp.blk 0;simp at d0;rw[HH.1]at d0;obtain⟨gL',cp,e1,dg,fg,hgl, -⟩:=yp hM.kp.row (j:=i) (u:=KS.val ⟨g,n,cap,xs⟩) (by rw[List.getElem?_map,hM.lt hiL];rfl);rw[HH.1,List.length_set,HS.2.2.2.2]at e1;cases e1;unfold KS.val at dg;simp only[]at dg;have hgg:gL≠g:=fun e=>(hM.kp.far i _ (hM.lt hiL)).2 (by rw[HH.1,e];rfl);by_cases hn:n<R
          · have hnI:(n:Int)<(R:Int):=by omega
            have hr8:wr.ownsRow 0 5 1 (.slice (some ⟨g,0,none⟩) n cap) n xs:=hM.row hiL;have hrow:((wr.drew).alloc (.cells #[.int .u8 0] 5)).ownsRow 0 5 1 (.slice (some ⟨g,0,none⟩) n cap) n xs:=zf hr8 ((Keep.refl (fun _=>False) wr).drew.alloc _) fun _ _=>id;have hrow2:((wr.alloc (.cells #[.int .u8 0] 5)).drew).ownsRow 0 5 1 (.slice (some ⟨g,0,none⟩) n cap) n xs:=hrow;have kal:=(Keep.refl (fun _=>False) wr).alloc (.cells #[.int .u8 0] 5);have hkl:=lt_of_block hM.kp.blk;have d1:=kal.cell (p:=⟨kb,0,none⟩) hkl id;have d2:=kal.cell (p:=⟨gL,i,none⟩) hgl id;have f2:=kal.frozen (p:=⟨gL,i,none⟩) hgl id;rw[d0]at d1;rw[dg]at d2;rw[fg]at f2;have hkg:kb≠g:=fun e=>(hM.kp.far i _ (hM.lt hiL)).1 e.symm;have HM:=Qh (Qa hM (Qa hiL (Qa hrow (Qa hrow2 (Qa hkl (Qa hgl (Qa hgg (Qa hkg (Qa d0 (Qa dg fg))))))))));clear hM hiL hrow hrow2 kal hkl hgl hgg hkg hr8;go_wp2_with fail;go_region_law(first
              |(refine z24 rfl (.tmp 60) (.tmp 61) 53 rfl 0 5 i0 1 Tryz.underlying53 HI.1 HI.2.2.1 g n cap xs rfl (by first|exact HM.2.2.1|exact HM.2.2.2.1) ⟨wr.heap.size,0,none⟩ 1 1 [.int .u8 0] rfl rfl (zD _ _ _) (by intro u hu;simp at hu;subst hu;rfl) (by omega) ?_;intro w4 hown hgr;have k4:Keep (fun b=>b=g) wr w4:=(by first|exact((Keep.refl (fun b=>b=g) wr).drew.alloc _).grown hgr (fun k e=>by cases e;exact Or.inl rfl)|exact((Keep.refl (fun b=>b=g) wr).alloc _).drew.grown hgr (fun k e=>by cases e;exact Or.inl rfl));have x0:=(k4.cell (p:=⟨kb,0,none⟩) HM.2.2.2.2.1 HM.2.2.2.2.2.2.2.1).trans HM.2.2.2.2.2.2.2.2.1;have x1:=(k4.cell (p:=⟨gL,i,none⟩) HM.2.2.2.2.2.1 HM.2.2.2.2.2.2.1).trans HM.2.2.2.2.2.2.2.2.2.1;have x2:=(k4.frozen (p:=⟨gL,i,none⟩) HM.2.2.2.2.2.1 HM.2.2.2.2.2.2.1).trans HM.2.2.2.2.2.2.2.2.2.2;have H4:=Qh (Qa hown k4);clear hown hgr k4))
            (all_goals go_wp2_with fail);all_goals go_roundg(gk-1)
            (all_goals first|omega|skip);all_goals exact⟨n+1,xs++[Value.int .u8 0],by omega,by omega,Qh (HM.1.grow HM.2.1 HH.1 HS.2.2.2.2 (by omega) (by omega) HS.2.2.1 H4.2 H4.1)⟩
          · obtain rfl:n=R:=by omega
            have hnI:¬(n:Int)<(n:Int):=(by omega);have HM:=Qh (Qa hM hiL);obtain⟨d,hd⟩:=Qx (i/σ);obtain⟨r,hr⟩:=Qx (d%250);have hdI:Int.tdiv (i:Int) (σ:Int)=(d:Int):=(by rw[<-hd];rfl);have hrI:Int.tmod (d:Int) 250=(r:Int):=(by rw[<-hr];rfl);have hr1:r<250:=(by omega);have hd1:d<=i:=(by rw[<-hd];exact Nat.div_le_self _ _);have HD:=Qh (show Value.int .u8 (r:Int)=mkv σ i from by unfold mkv;rw[hd,hr]);have hr2:(r:Int)<250:=(by omega);have hd2:(d:Int)<=4194304:=(by omega);clear hM hiL hgn fg hgl hd hr;go_wp2_with fail;clear d0 dg;go_loopg[6] n (fun gq s6 wr=>∃(c:Nat) (xs:List Value),gq+c=n/\s6=.int .i64 (c:Int)/\Hid (ApM kb v z L B σ w wr i L' ⟨g,n0,cap,xs0⟩ ⟨g,n,cap,xs⟩ c))
            case atStart=>exact⟨0,xs,by omega,rfl,HM.1⟩
            case round=>
              obtain⟨c,xs,hgc,rfl,hM⟩:=hrel;have hiL:i<L'.length:=(by rw[HS.2.2.2.2];exact hi);have d0:=za hM.kp.blk 0;simp at d0;rw[HH.1]at d0;obtain⟨gL',cp,e1,dg,fg,hgl, -⟩:=yp hM.kp.row (j:=i) (u:=KS.val ⟨g,n,cap,xs⟩) (by rw[List.getElem?_map,hM.lt hiL];rfl);rw[HH.1,List.length_set,HS.2.2.2.2]at e1;cases e1;unfold KS.val at dg;simp only[]at dg;by_cases hc:c<n
              · have hcI:(c:Int)<(n:Int):=by omega
                (have hc0:(0:Int)<=(c:Int):=(by omega);have hrw:wr.ownsRow 0 5 1 (.slice (some ⟨g,0,none⟩) n cap) n xs:=hM.row hiL;have hxl:c<xs.length:=(by have:=hrw.1;omega);have yc:=hrw.cellAt c (by omega);obtain⟨u0,hu0⟩:∃u,xs[c]?=some u:=⟨_,List.getElem?_eq_getElem hxl⟩;rw[hu0]at yc;have yf:=hrw.frozenAt c;have HM2:=Qh (Qa hM hiL);clear hM hiL hrw hxl hu0;go_wp2_with fail;go_region;all_goals go_wp2_with fail);all_goals go_roundg(gk-1)
                (all_goals first|omega|skip);all_goals exact⟨c+1,_,by omega,by simp,Qh ((HM2.1.mark HM2.2 hc (by omega) HS.2.2.1 (Keep.refl _ _) HD.out).kept ((Keep.refl _ _).drew))⟩
              · obtain rfl:c=n:=by omega
                (have hcI:¬(c:Int)<(c:Int):=(by omega);have HF:=Qh (HS.1.next HS.2.1 hM);clear hM;go_wp2_with fail;have hG2:=HGG2.out;go_roundg(G2-1);all_goals first|omega|skip);exact⟨i+1,by omega,by simp,_,HF.out⟩
      · obtain rfl:i=q:=by omega
        have hiI:¬(i:Int)<(i:Int):=(by omega);have HS:=Qh (Qa hAS hL');clear hAS hL';go_wp2_with fail;clear c0;go_loopg[7,8] i (fun gq s7 s8 wr=>∃j:Nat,gq+j=i/\s7=.int .i64 (j:Int)/\Hid (ApS kb v z L B σ w wr i L'))
        case atStart=>exact⟨0,by omega,rfl,HS.1⟩
        case round=>
          obtain⟨j,hgj,rfl,hAS⟩:=hrel;have c0:=za hAS.kp.blk 0;simp at c0;rw[HH.1]at c0;obtain⟨G3,hG3⟩:=Qx gk;rw[hG3]at hgj;have HGG3:=Qh hG3;clear hG3;by_cases hj:j<i
          · have hjI:(j:Int)<(i:Int):=by omega
            have hj0:(0:Int)<=(j:Int):=(by omega);obtain⟨⟨g,n,cap,xs⟩,hs⟩:∃s,L'[j]?=some s:=⟨L'[j]'(by have:=HS.2;omega),List.getElem?_eq_getElem (by have:=HS.2;omega)⟩;obtain⟨gL,cp',e1,cg, -, -, -⟩:=yp hAS.kp.row (j:=j) (u:=KS.val ⟨g,n,cap,xs⟩) (by rw[List.getElem?_map,hs];rfl);rw[HH.1,HS.2]at e1;cases e1;unfold KS.val at cg;simp only[]at cg;have hn:n<=4300000:=hAS.kp.sm j _ hs;obtain⟨d,hd⟩:=Qx (j/σ);obtain⟨r,hr⟩:=Qx (d%250);have hdI:Int.tdiv (j:Int) (σ:Int)=(d:Int):=(by rw[<-hd];rfl);have hrI:Int.tmod (d:Int) 250=(r:Int):=(by rw[<-hr];rfl);have hr1:r<250:=(by omega);have hd1:d<=j:=(by rw[<-hd];exact Nat.div_le_self _ _);have hmk:xs=List.replicate n (.int .u8 (r:Int)):=(by have:=hAS.marks j _ hj hs;unfold mkv at this;rw[hd,hr]at this;exact this);have hr2:(r:Int)<250:=(by omega);have hd2:(d:Int)<=4194304:=(by omega);have HM:=Qh (Qa hmk (Qa hs hAS));clear hmk hs hAS hd hr;go_wp2_with fail;clear c0 cg;go_loopg[8] n (fun gq s8 wr=>∃c:Nat,gq+c=n/\s8=.int .i64 (c:Int)/\Hid (ApS kb v z L B σ w wr i L'))
            case atStart=>exact⟨0,by omega,rfl,HM.2.2⟩
            case round=>
              obtain⟨c,hgc,rfl,hAS⟩:=hrel;have c0:=za hAS.kp.blk 0;simp at c0;rw[HH.1]at c0;obtain⟨gL',cp,e1,cg, -, -, -⟩:=yp hAS.kp.row (j:=j) (u:=KS.val ⟨g,n,cap,xs⟩) (by rw[List.getElem?_map,HM.2.1];rfl);rw[HH.1,HS.2]at e1;cases e1;unfold KS.val at cg;simp only[]at cg;by_cases hc:c<n
              · have hcI:(c:Int)<(n:Int):=by omega
                (have hc0:(0:Int)<=(c:Int):=(by omega);have hrw:wr.ownsRow 0 5 1 (.slice (some ⟨g,0,none⟩) n cap) n xs:=hAS.kp.each j _ HM.2.1;have yc:=hrw.cellAt c (by omega);rw[HM.1,List.getElem?_replicate,if_pos hc]at yc;have HF:=Qh hAS;clear hAS hrw;go_wp2_with fail;go_quiet(fail);go_wp2_with fail;go_roundg(gk-1);all_goals first|omega|skip);exact⟨c+1,by omega,by simp,Qh (HF.kept ((Keep.refl _ _).drewN _))⟩
              · obtain rfl:c=n:=by omega
                (have hcI:¬(c:Int)<(c:Int):=(by omega);have HF:=Qh hAS;clear hAS;go_wp2_with fail;have hG3:=HGG3.out;go_roundg(G3-1);all_goals first|omega|skip);exact⟨j+1,by omega,by simp,HF.out⟩
          · obtain rfl:j=i:=by omega
            (have hjI:¬(j:Int)<(j:Int):=(by omega);have HF:=Qh hAS;clear hAS;go_wp2_with fail;have hG:=HGG.out;have hP:=HP.out;go_roundg(G-1);all_goals first|omega|skip);exact⟨p+1,σ*250,by omega,by omega,by simp,_,by
              have h:=HF.again (σ*250);rw[show B+5000=4194304+5000*(p+1)from by omega]at h;exact h⟩
end Sc
end Go.Proofs.YtkkecpamnnojoaaGreatDoor
namespace Go.Proofs.YtkkecpamnnojoaaGreatDoor
open Go.ChangeShapes Go.WideShapes Go.ChangeAt Go.RowKit
namespace Sc
def rdv(acc:Nat):Str->Nat
 |[]=>acc
 |c::r=>rdv (acc*10+(c.toNat-48)) r
def rdg(s:Str):Bool:=s.all fun c=>decide (48<=c.toNat/\c.toNat<=57)
def z28(s:Str):Bool:=decide (s.head? =some 45)
def yD(s:Str):Str:=if z28 s=true then s.tail else s
def xk(neg:Bool)(t:Str):Bool:=!(decide (t.length=0)||decide (19<t.length)||(decide (t.head? =some 48)&&(decide (1<t.length)||neg)))
def z1B(s:Str):Option Int:=
 if xk (z28 s) (yD s)=false then none
 else if rdg (yD s)=false then none
 else if z28 s=true then(if rdv 0 (yD s)<=9223372036854775808 then some (-(rdv 0 (yD s):Int))else none)
 else(if rdv 0 (yD s)<9223372036854775808 then some (rdv 0 (yD s):Int)else none)
theorem z4m{r:Str}(s:Str)(h:r≠[]):(r++s).head? =r.head?:=by
 cases r with
 |nil=>exact absurd rfl h
 |cons c r=>rfl
theorem z8s(a:Nat):∀(s t:Str),rdv a (s++t)=rdv (rdv a s) t
 |[],_=>rfl
 |c::s,t=>by show rdv _ (s++t)=rdv (rdv _ s) t;rw[z8s]
termination_by s=>s.length
theorem z05(s:Str)(c:UInt8):rdv 0 (s++[c])=rdv 0 s*10+(c.toNat-48):=by rw[z8s];rfl
theorem zbd:∀(s:Str) (a:Nat),a<=rdv a s
 |[],a=>Nat.le_refl _
 |c::s,a=>Nat.le_trans (by omega) (zbd s (a*10+(c.toNat-48)))
theorem z8r{s:Str}(hne:s≠[])(hd:rdg s=true)(hh:s.head? ≠some 48):1<=rdv 0 s:=by
 cases s with
 |nil=>exact absurd rfl hne
 |cons c r=>
  unfold rdg at hd;rw[List.all_cons,Bool.and_eq_true,decide_eq_true_eq]at hd;have hc:c.toNat≠48:=fun e=>hh (by
   have:c=48:=UInt8.toNat_inj.1 e;rw[this];rfl)
  show 1<=rdv (0*10+(c.toNat-48)) r;exact Nat.le_trans (by omega) (zbd r _)
theorem xo(s t:Str):rdg (s++t)=(rdg s&&rdg t):=by unfold rdg;rw[List.all_append]
theorem z6K{c:UInt8}(h:48<=c.toNat/\c.toNat<=57):UInt8.ofNat (48+(c.toNat-48))=c:=by rw[show 48+(c.toNat-48)=c.toNat by omega];exact UInt8.toNat_inj.1 (by rw[UInt8.toNat_ofNat'];exact Nat.mod_eq_of_lt c.toNat_lt)
theorem zd0:∀(n:Nat) (s:Str),s.length=n->s≠[]->rdg s=true->(s.head? ≠some 48\/s.length=1)->Lib.decDigits (rdv 0 s)=s:=by
 intro n
 induction n with
 |zero=>intro s h0 hne;exact absurd (List.length_eq_zero_iff.1 h0) hne
 |succ n ih=>
  intro s hl hne hd hh;obtain⟨r,c,rfl⟩:∃r c,s=r++[c]:=⟨s.dropLast,s.getLast hne,(List.dropLast_concat_getLast hne).symm⟩;rw[xo,Bool.and_eq_true]at hd;have hc:48<=c.toNat/\c.toNat<=57:=(by have:=hd.2;unfold rdg at this;simpa using this);rw[z05];by_cases hr:r=[]
  ·subst hr;show Lib.decDigits (0*10+(c.toNat-48))=[c];rw[Lib.decDigits,dif_pos (by omega),Nat.zero_mul,Nat.zero_add,z6K hc]
  ·have hrl:r.length=n:=by simpa using hl
   have hrh:r.head? ≠some 48:=by
    rcases hh with hh|hh
    ·rwa[z4m _ hr]at hh
    ·have h1:r.length+1=1:=(by simpa using hh);exact absurd (List.length_eq_zero_iff.1 (by omega)) hr
   have hp:=z8r hr hd.1 hrh;rw[Lib.decDigits,dif_neg (by omega),show(rdv 0 r*10+(c.toNat-48))/10=rdv 0 r by omega,show(rdv 0 r*10+(c.toNat-48))%10=c.toNat-48 by omega,z6K hc,ih r hrl hr hd.1 (Or.inl hrh)]
theorem zcr(u:Nat):1<=u->(Lib.decDigits u).head? ≠some 48:=by
 induction u using Nat.strongRecOn with
 |ind u ih=>
  intro h1;rw[Lib.decDigits];split
  ·rename_i h;intro e;have e2:UInt8.ofNat (48+u)=48:=(by simpa using e);have:=congrArg UInt8.toNat e2;rw[UInt8.toNat_ofNat',Nat.mod_eq_of_lt (by omega)]at this;have h48:(48:UInt8).toNat=48:=rfl;omega
  ·rename_i h;rw[z4m _ (z2l _)];exact ih (u/10) (by omega) (by omega)
theorem z5v(u:Nat):rdg (Lib.decDigits u)=true/\rdv 0 (Lib.decDigits u)=u:=by
 induction u using Nat.strongRecOn with
 |ind u ih=>
  rw[Lib.decDigits];split
  ·rename_i h
   have e:(UInt8.ofNat (48+u)).toNat=48+u:=(by rw[UInt8.toNat_ofNat',Nat.mod_eq_of_lt (by omega)]);refine⟨?_,?_⟩
   ·unfold rdg;simp only[List.all_cons,List.all_nil,Bool.and_true,e];exact decide_eq_true (by omega)
   ·show 0*10+((UInt8.ofNat (48+u)).toNat-48)=u;rw[e];omega
  ·rename_i h
   obtain⟨h1,h2⟩:=ih (u/10) (by omega);have e:(UInt8.ofNat (48+u%10)).toNat=48+u%10:=(by rw[UInt8.toNat_ofNat',Nat.mod_eq_of_lt (by omega)]);refine⟨?_,?_⟩
   ·rw[xo,h1];unfold rdg;simp only[List.all_cons,List.all_nil,Bool.and_true,Bool.true_and,e];exact decide_eq_true (by omega)
   ·rw[z05,h2,e];omega
theorem z3z:∀(n u:Nat),u<10^(n+1)->(Lib.decDigits u).length<=n+1
 |0,u,h=>by rw[Lib.decDigits,dif_pos (by simpa using h)];exact Nat.le_refl _
 |n+1,u,h=>by
  rw[Lib.decDigits];split
  ·simp
  ·rw[List.length_append];have:=z3z n (u/10) (by rw[Nat.div_lt_iff_lt_mul (by decide)];exact h);simp only[List.length_cons,List.length_nil];omega
theorem zaa{u:Nat}(h:u<=9223372036854775808):(Lib.decDigits u).length<=19:=z3z 18 u (by
 show u<10000000000000000000;omega)
theorem za9{u:Nat}(h:1<(Lib.decDigits u).length):1<=u:=by
 rcases Nat.eq_zero_or_pos u with rfl|hp
 ·rw[Lib.decDigits_one (by decide)]at h;simp at h
 ·exact hp
theorem z4n{u:Nat}{neg:Bool}(h:u<=9223372036854775808)(hn:neg=true->1<=u):xk neg (Lib.decDigits u)=true:=by
 unfold xk;have h1:(Lib.decDigits u).length≠0:=fun e=>z2l u (List.length_eq_zero_iff.1 e);have h2:=zaa h;rw[decide_eq_false h1,decide_eq_false (by omega)];by_cases hp:1<=u
 ·rw[decide_eq_false (zcr u hp)];rfl
 ·have hn0:neg=false:=(by cases neg with|false=>rfl|true=>exact absurd (hn rfl) hp);rw[hn0,decide_eq_false (fun hl=>hp (za9 hl))];cases decide ((Lib.decDigits u).head? =some 48)<;>rfl
theorem z9M{u:Nat}:(Lib.decDigits u).head? ≠some 45:=by
 have h:=(z5v u).1;have hne:=z2l u;generalize Lib.decDigits u=l at*
 cases l with
 |nil=>exact absurd rfl hne
 |cons c r=>
  intro e;have e2:c=45:=(by simpa using e);unfold rdg at h;rw[List.all_cons,Bool.and_eq_true,decide_eq_true_eq,e2]at h;exact absurd h.1.1 (by decide)
theorem zb5{v:Int}(h:IsI v):z1B (zl v)=some v:=by
 unfold zl Lib.itoa;obtain⟨h1,h2⟩:=h;by_cases hn:v<0
 ·rw[if_pos hn]
  have hneg:z28 (45::Lib.decDigits v.natAbs)=true:=rfl;have hb:yD (45::Lib.decDigits v.natAbs)=Lib.decDigits v.natAbs:=(by unfold yD;rw[if_pos hneg];rfl);have hu:v.natAbs<=9223372036854775808:=(by omega);obtain⟨d1,d2⟩:=z5v v.natAbs;unfold z1B;rw[hb,hneg,z4n hu (fun _=>by omega),if_neg (by decide),d1,if_neg (by decide),if_pos rfl,d2,if_pos hu]
  congr 1
  omega
 ·rw[if_neg hn]
  have hneg:z28 (Lib.decDigits v.toNat)=false:=decide_eq_false z9M;have hb:yD (Lib.decDigits v.toNat)=Lib.decDigits v.toNat:=(by unfold yD;rw[hneg];rfl);have hu:v.toNat<9223372036854775808:=(by omega);obtain⟨d1,d2⟩:=z5v v.toNat;unfold z1B;rw[hb,hneg,z4n (Nat.le_of_lt hu) (fun h=>by cases h),if_neg (by decide),d1,if_neg (by decide),if_neg (by decide),d2,if_pos hu]
  congr 1
  omega
theorem z9n{s:Str}{v:Int}(h:z1B s=some v):s=zl v/\IsI v:=by
 unfold z1B at h;split at h
 ·cases h
 rename_i hf;split at h
 ·cases h
 rename_i hd;have hd:rdg (yD s)=true:=(by simpa using hd);have hf:xk (z28 s) (yD s)=true:=(by simpa using hf);unfold xk at hf;rw[Bool.not_eq_true',Bool.or_eq_false_iff,Bool.or_eq_false_iff,Bool.and_eq_false_iff,Bool.or_eq_false_iff,decide_eq_false_iff_not,decide_eq_false_iff_not,decide_eq_false_iff_not,decide_eq_false_iff_not]at hf;obtain⟨⟨f1,f2⟩,f3⟩:=hf;have hne:yD s≠[]:=fun e=>f1 (by rw[e];rfl);have hh:(yD s).head? ≠some 48\/(yD s).length=1:=by
  rcases f3 with f3|f3
  ·exact Or.inl f3
  ·exact Or.inr (by omega)
 have hdec:=zd0 _ (yD s) rfl hne hd hh;cases hneg:z28 s with
 |true=>
  rw[hneg,if_pos rfl]at h;split at h
  ·rename_i hu
   cases h;have hs:s=45::yD s:=by
    unfold yD;rw[if_pos hneg];unfold z28 at hneg;rw[decide_eq_true_eq]at hneg;cases s with
    |nil=>simp at hneg
    |cons c r=>simp at hneg;rw[hneg];rfl
   have hp:1<=rdv 0 (yD s):=by
    rcases f3 with f3|f3
    ·exact z8r hne hd f3
    ·rw[hneg]at f3;exact absurd f3.2 (by decide)
   refine⟨?_,by omega,by omega⟩;unfold zl Lib.itoa;rw[if_pos (by omega),show(-(rdv 0 (yD s):Int)).natAbs=rdv 0 (yD s) by omega,hdec];exact hs
  ·cases h
 |false=>
  rw[hneg,if_neg (by decide)]at h;split at h
  ·rename_i hu;cases h;have hs:yD s=s:=(by unfold yD;rw[hneg];rfl);refine⟨?_,by omega,by omega⟩;unfold zl Lib.itoa;rw[if_neg (by omega),show((rdv 0 (yD s):Int)).toNat=rdv 0 (yD s) by omega,hdec,hs]
  ·cases h
theorem zbv{s:Str}{v:Int}(h:zh s=some v):s=zl v:=by
 unfold zh at h;split at h
 ·split at h
  ·rename_i e;cases h;exact e.symm
  ·cases h
 ·cases h
theorem z58(s:Str):z1B s=zh s:=by
 cases h1:z1B s with
 |some v=>
  obtain⟨e,hv⟩:=z9n h1;rw[e,xr hv]
 |none=>
  cases h2:zh s with
  |none=>rfl
  |some v=>
   have:=zb5 (qk h2);rw[<-zbv h2,h1]at this;cases this
theorem z29(s:Str)(h:s.length<=19)(hd:rdg s=true):rdv 0 s<10000000000000000000:=by
 have key:∀(n:Nat) (s:Str),s.length=n->rdg s=true->rdv 0 s<10^n:=by
  intro n
  induction n with
  |zero=>intro s hl _;rw[List.length_eq_zero_iff.1 hl];decide
  |succ n ih=>
   intro s hl hd;have hne:s≠[]:=fun e=>(by rw[e]at hl;simp at hl);obtain⟨r,c,rfl⟩:∃r c,s=r++[c]:=⟨s.dropLast,s.getLast hne,(List.dropLast_concat_getLast hne).symm⟩;rw[xo,Bool.and_eq_true]at hd;have hc:48<=c.toNat/\c.toNat<=57:=(by have:=hd.2;unfold rdg at this;simpa using this);have:=ih r (by simpa using hl) hd.1;rw[z05,Nat.pow_succ];omega
 have h1:=key s.length s rfl hd;exact Nat.lt_of_lt_of_le h1 (Nat.pow_le_pow_right (by decide) h)
end Sc
end Go.Proofs.YtkkecpamnnojoaaGreatDoor
namespace Go.Proofs.YtkkecpamnnojoaaGreatDoor
open Go.ChangeShapes Go.WideShapes Go.ChangeAt Go.RowKit
open Bt Dc By
namespace Sc
theorem zdS(n:Nat)(h:n<256):qS n=if 48<=n/\n<=57 then(n:Int)-48 else if 97<=n/\n<=102 then(n:Int)-87 else-1:=by have:∀n:Fin 256,qS n.val=if 48<=n.val/\n.val<=57 then(n.val:Int)-48 else if 97<=n.val/\n.val<=102 then(n.val:Int)-87 else-1:=(by decide+kernel);exact this ⟨n,h⟩
theorem z7z(n:Nat)(w:World)(hn:n<256):Calls Tryz.prog 105 #[.int .u8 (n:Int)] w fun e w'=>e=.returned (.int .i64 (qS n))/\w'=w:=by
 have HD:=Qh (zdS n hn);by_cases h1:48<=n/\n<=57
 ·obtain⟨m,hm⟩:∃m,n=48+m:=⟨n-48,by omega⟩;have i1:(48:Int)<=(n:Int):=(by omega);have i2:(n:Int)<=57:=(by omega);have hw:IntKind.u8.wrap ((n:Int)-48)=(m:Int):=(by rw[IntKind.wrap_u8];omega);have hv:IntKind.i64.wrap (m:Int)=(m:Int):=(by rw[IntKind.wrap_i64];omega);have HR:=Qh (show qS n=(m:Int)from by rw[HD.out,if_pos h1];omega);clear hm h1;go_in;go_wp2_with fail;go_ret;exact⟨by rw[HR.out];rfl,rfl⟩
 have HD2:=Qh (show qS n=if 97<=n/\n<=102 then(n:Int)-87 else-1 from by rw[HD.out,if_neg h1]);by_cases h2:97<=n/\n<=102
 ·obtain⟨m,hm⟩:∃m,n=97+m:=⟨n-97,by omega⟩;have i1:(48:Int)<=(n:Int):=(by omega);have i2:¬(n:Int)<=57:=(by omega);have i3:(97:Int)<=(n:Int):=(by omega);have i4:(n:Int)<=102:=(by omega);have hw:IntKind.u8.wrap ((n:Int)-97)=(m:Int):=(by rw[IntKind.wrap_u8];omega);have hv:IntKind.i64.wrap (m:Int)=(m:Int):=(by rw[IntKind.wrap_i64];omega);have hv2:IntKind.i64.wrap ((m:Int)+10)=(m:Int)+10:=(by rw[IntKind.wrap_i64];omega);have HR:=Qh (show qS n=(m:Int)+10 from by rw[HD2.out,if_pos h2];omega);clear hm h1 h2;go_in;go_wp2_with fail;go_ret;exact⟨by rw[HR.out];rfl,rfl⟩
 have HR:=Qh (show qS n= -1 from by rw[HD2.out,if_neg h2]);have hc:n<48\/(57<n/\n<97)\/102<n:=(by omega);clear h1 h2;rcases hc with hc|hc|hc
 ·have i1:¬(48:Int)<=(n:Int):=(by omega);have i3:¬(97:Int)<=(n:Int):=(by omega);clear hc;go_in;go_wp2_with fail;go_ret;exact⟨by rw[HR.out];rfl,rfl⟩
 ·have i1:(48:Int)<=(n:Int):=(by omega);have i2:¬(n:Int)<=57:=(by omega);have i3:¬(97:Int)<=(n:Int):=(by omega);clear hc;go_in;go_wp2_with fail;go_ret;exact⟨by rw[HR.out];rfl,rfl⟩
 ·have i1:(48:Int)<=(n:Int):=(by omega);have i2:¬(n:Int)<=57:=(by omega);have i3:(97:Int)<=(n:Int):=(by omega);have i4:¬(n:Int)<=102:=(by omega);clear hc;go_in;go_wp2_with fail;go_ret;exact⟨by rw[HR.out];rfl,rfl⟩
def zfg(s:Str)(w:World)(e:Ending)(w':World):Prop:=∃(n:Int) (b:Bool),e=.returned (.tuple #[.int .i64 n,.bool b])/\(match zh s with
 |some v=>b=true/\n=v
 |none=>b=false)/\Keep (fun _=>False) w w'
theorem z62(s:Str)(w:World)(hs:s.length<=1073741824)(hneg:z28 s=false)(hne:s≠[]):
  Calls Tryz.prog 87 #[.string (zc s)] w (zfg s w):=by
 obtain⟨t,ht⟩:=Qx (yD s);have HFI:=Qh (show zh s=(if xk false t=false then none else if rdg t=false then none else if rdv 0 t<9223372036854775808 then some (rdv 0 t:Int)else none)from by
  rw[<-z58];unfold z1B;rw[hneg,ht];rfl)
 obtain⟨N,hN⟩:=Qx s.length;obtain⟨M,hM⟩:=Qx t.length;have hpos:0<N:=(by rw[<-hN];exact List.length_pos_iff.2 hne);have hZ:((zc s).size:Int)=(N:Int):=(by rw[zw s,hN]);have hZ2:((zc t).size:Int)=(M:Int):=(by rw[zw t,hM]);have hZn:(zc s).size=N:=(by omega);have hsl:0<(zc s).size:=(by omega);have hNI:(0:Int)<(N:Int):=(by omega);have hNm:(N:Int)<=1073741824:=(by omega);have hc0:¬ch (zc s) 0=45:=by
  intro h;have h2:=qu s 0 (by rw[hN];exact hpos);rw[show((0:Nat):Int)=0 from rfl,h]at h2;unfold z28 at hneg;rw[decide_eq_false_iff_not]at hneg;cases s with
  |nil=>exact hne rfl
  |cons c r=>
   apply hneg;have:c=45:=UInt8.toNat_inj.1 h2.symm;rw[this];rfl
 have hc1:((ch (zc s) 0:Nat):Int)≠45:=(by omega);have hts:t=s:=(by rw[<-ht];unfold yD;rw[hneg];rfl);subst hts;have hMN:M=N:=(by rw[<-hN,<-hM]);subst hMN;have HT:=Qh (Qa hM (show xk false t= !(decide (M=0)||decide (19<M)||(decide (t.head? =some 48)&&(decide (1<M)||false)))from by unfold xk;rw[hM]));have HCH:=Qh (qu t);generalize hT:zc t=T at*
 clear hs hneg hne ht hM hT;have hno:xk false t=false->zh t=none:=fun h=>(by rw[HFI.out,if_pos h]);by_cases m0:M=0
 ·have HR:=Qh (hno (by rw[HT.2,decide_eq_true m0];rfl));exact absurd m0 (by omega)
 have m0I:¬(M:Int)=0:=(by omega);have m0b:((M:Int)==0)=false:=(by rw[beq_eq_false_iff_ne];exact m0I);have mpos:0<T.size:=(by omega);have mposI:(0:Int)<(M:Int):=(by omega);have hix:∀W:World,(Instr.index 9 (.string T) (.int .i64 0)).run Tryz.prog W=.ok (.int .u8 ((ch T 0:Nat):Int)) W:=fun W=>z1y _ T _ 0 Tryz.underlying9 (Int.le_refl _) (by omega);by_cases m19:19<M
 ·have HR:=Qh (hno (by rw[HT.2,decide_eq_true m19,Bool.or_true];rfl));have i19:(19:Int)<(M:Int):=(by omega);clear hno m0 m19;go_in;go_wp2_with fail;go_ret2;exact⟨0,false,rfl,by rw[HR.out],Keep.refl _ _⟩
 have i19:¬(19:Int)<(M:Int):=(by omega);have hch0:t.head? =some 48↔ch T 0=48:=by
  have h:=HCH.out 0 (by rw[HT.1];omega);rw[show((0:Nat):Int)=0 from rfl]at h;rw[h];cases t with
  |nil=>have:=HT.1;simp at this;omega
  |cons c r=>
   show some c=some 48↔c.toNat=48;constructor
   ·intro e;rw[Option.some.inj e];rfl
   ·intro e;rw[show c=48 from UInt8.toNat_inj.1 e]
 have mM:(M:Int)<=19:=(by omega);by_cases h48:ch T 0=48
 ·have h48I:((ch T 0:Nat):Int)=48:=by omega
  by_cases m1:1<M
  ·have HR:=Qh (hno (by rw[HT.2,decide_eq_true (hch0.2 h48),decide_eq_true m1,Bool.true_or,Bool.and_true,Bool.or_true];rfl));have i1:(1:Int)<(M:Int):=(by omega);clear hno m0 m19 hch0 m1;go_in;go_wp2_with fail;go_ret2;exact⟨0,false,rfl,by rw[HR.out],Keep.refl _ _⟩
  have i1:¬(1:Int)<(M:Int):=(by omega);have hok:xk false t=true:=(by rw[HT.2,decide_eq_false m0,decide_eq_false m19,decide_eq_false m1];cases decide (t.head? =some 48)<;>rfl);have HFJ:=Qh (show zh t=(if rdg t=false then none else if rdv 0 t<9223372036854775808 then some (rdv 0 t:Int)else none)from by rw[HFI.out,if_neg (by rw[hok];decide)]);clear hno m0 m19 hch0 m1 hok HFI;go_in;go_wp2_with fail;go_loopg[5,6] M (fun gq s5 s6 wr=>∃(k v:Nat),gq+k=M/\s6=.int .i64 (k:Int)/\s5=.int .u64 (v:Int)/\Hid (rdv 0 (t.take k)=v/\rdg (t.take k)=true/\Keep (fun _=>False) w wr))
  case atStart=>exact⟨0,0,by omega,rfl,rfl,rfl,rfl,Keep.refl _ _⟩
  case round=>
   obtain⟨k,v,hgk,rfl,rfl,HK⟩:=hrel;by_cases hk:k<M
   ·have hkI:(k:Int)<(M:Int):=by omega
    have hk0:(0:Int)<=(k:Int):=(by omega);have hkn:k<T.size:=(by omega);have hkl:k<t.length:=(by rw[HT.1];exact hk);have hcc:=HCH.out k hkl;have htk:t.take (k+1)=t.take k++[t[k]]:=(by rw[List.take_add_one,List.getElem?_eq_getElem hkl];rfl);obtain⟨c,hc⟩:∃c,ch T (k:Int)=c:=⟨_,rfl⟩;rw[hc]at hcc;have hgo:rdg (t.take (k+1))=decide (48<=c/\c<=57):=(by rw[htk,xo,HK.2.1,hcc];unfold rdg;simp);have hst:rdg (t.take (k+1))=false->rdg t=false:=fun h=>(by have e:rdg t=(rdg (t.take (k+1))&&rdg (t.drop (k+1))):=(by rw[<-xo,List.take_append_drop]);rw[e,h];rfl);by_cases c1:c<48
    ·have HR:=Qh (show zh t=none from by rw[HFJ.out,if_pos (hst (by rw[hgo,decide_eq_false (by omega)]))]);have i1:(c:Int)<48:=(by omega);have HB:=Qh HK.2.2;clear hst hgo htk hcc HK hkl c1;go_wp2_with fail;go_ret2;exact⟨0,false,rfl,by rw[HR.out],HB.out⟩
    have i1:¬(c:Int)<48:=(by omega);by_cases c2:57<c
    ·have HR:=Qh (show zh t=none from by rw[HFJ.out,if_pos (hst (by rw[hgo,decide_eq_false (by omega)]))]);have i2:(57:Int)<(c:Int):=(by omega);have HB:=Qh HK.2.2;clear hst hgo htk hcc HK hkl c1 c2;go_wp2_with fail;go_ret2;exact⟨0,false,rfl,by rw[HR.out],HB.out⟩
    (have i2:¬(57:Int)<(c:Int):=(by omega);obtain⟨d,hd⟩:∃d,c=48+d:=⟨c-48,by omega⟩;have hgt:rdg (t.take (k+1))=true:=(by rw[hgo,decide_eq_true (by omega)]);have hv2:rdv 0 (t.take (k+1))=v*10+d:=(by rw[htk,z05,HK.1,<-hcc];omega);have hlt:=z29 _ (by rw[List.length_take];omega) hgt;rw[hv2]at hlt;have w1:IntKind.u8.wrap ((c:Int)-48)=(d:Int):=(by rw[IntKind.wrap_u8];omega);have w2:IntKind.u64.wrap (d:Int)=(d:Int):=(by rw[IntKind.wrap_u64];omega);have w3:IntKind.u64.wrap ((v:Int)*10)=(v:Int)*10:=(by rw[IntKind.wrap_u64];omega);obtain⟨v2,hv⟩:=Qx (v*10+d);have w4:IntKind.u64.wrap ((v:Int)*10+(d:Int))=(v2:Int):=(by rw[IntKind.wrap_u64];omega);rw[hv]at hv2;have HV:=Qh (Qa hv2 (Qa hgt HK.2.2));clear hst hgo htk hcc hkl c1 c2 hd hgt hv2 hlt hv HK;go_wp2_with fail;go_roundg(gk-1);all_goals first|omega|skip);exact⟨k+1,v2,by omega,by simp,rfl,HV.out⟩
   ·obtain rfl:k=M:=by omega
    have hkI:¬(k:Int)<(k:Int):=(by omega);have h1:=HK.1;have h2:=HK.2.1;rw[List.take_of_length_le (by rw[HT.1];exact Nat.le_refl _)]at h1 h2;have hlt:=z29 t (by rw[HT.1];omega) h2;rw[h1]at hlt;have HR:=Qh (show zh t=(if v<9223372036854775808 then some (v:Int)else none)from by rw[HFJ.out,if_neg (by rw[h2];decide),h1]);have HB:=Qh HK.2.2;clear h1 h2 HK;by_cases hv:v<9223372036854775808
    ·have hvI:(v:Int)<9223372036854775808:=(by omega);have w1:IntKind.i64.wrap (v:Int)=(v:Int):=(by rw[IntKind.wrap_i64];omega);have HZ:=Qh (show zh t=some (v:Int)from by rw[HR.out,if_pos hv]);clear hv hlt;go_wp2_with fail;go_ret2;exact⟨_,true,rfl,by rw[HZ.out];exact⟨rfl,rfl⟩,HB.out⟩
    ·have hvI:¬(v:Int)<9223372036854775808:=(by omega);have HZ:=Qh (show zh t=none from by rw[HR.out,if_neg hv]);clear hv hlt;go_wp2_with fail;go_ret2;exact⟨_,false,rfl,by rw[HZ.out],HB.out⟩
 have h48I:¬((ch T 0:Nat):Int)=48:=(by omega);have hok:xk false t=true:=(by rw[HT.2,decide_eq_false m0,decide_eq_false m19,decide_eq_false (fun h=>h48 (hch0.1 h))];rfl);have HFJ:=Qh (show zh t=(if rdg t=false then none else if rdv 0 t<9223372036854775808 then some (rdv 0 t:Int)else none)from by rw[HFI.out,if_neg (by rw[hok];decide)]);clear hno m0 m19 hch0 hok HFI;go_in;go_wp2_with fail;go_loopg[5,6] M (fun gq s5 s6 wr=>∃(k v:Nat),gq+k=M/\s6=.int .i64 (k:Int)/\s5=.int .u64 (v:Int)/\Hid (rdv 0 (t.take k)=v/\rdg (t.take k)=true/\Keep (fun _=>False) w wr))
 case atStart=>exact⟨0,0,by omega,rfl,rfl,rfl,rfl,Keep.refl _ _⟩
 case round=>
  obtain⟨k,v,hgk,rfl,rfl,HK⟩:=hrel;by_cases hk:k<M
  ·have hkI:(k:Int)<(M:Int):=by omega
   have hk0:(0:Int)<=(k:Int):=(by omega);have hkn:k<T.size:=(by omega);have hkl:k<t.length:=(by rw[HT.1];exact hk);have hcc:=HCH.out k hkl;have htk:t.take (k+1)=t.take k++[t[k]]:=(by rw[List.take_add_one,List.getElem?_eq_getElem hkl];rfl);obtain⟨c,hc⟩:∃c,ch T (k:Int)=c:=⟨_,rfl⟩;rw[hc]at hcc;have hgo:rdg (t.take (k+1))=decide (48<=c/\c<=57):=(by rw[htk,xo,HK.2.1,hcc];unfold rdg;simp);have hst:rdg (t.take (k+1))=false->rdg t=false:=fun h=>(by have e:rdg t=(rdg (t.take (k+1))&&rdg (t.drop (k+1))):=(by rw[<-xo,List.take_append_drop]);rw[e,h];rfl);by_cases c1:c<48
   ·have HR:=Qh (show zh t=none from by rw[HFJ.out,if_pos (hst (by rw[hgo,decide_eq_false (by omega)]))]);have i1:(c:Int)<48:=(by omega);have HB:=Qh HK.2.2;clear hst hgo htk hcc HK hkl c1;go_wp2_with fail;go_ret2;exact⟨0,false,rfl,by rw[HR.out],HB.out⟩
   have i1:¬(c:Int)<48:=(by omega);by_cases c2:57<c
   ·have HR:=Qh (show zh t=none from by rw[HFJ.out,if_pos (hst (by rw[hgo,decide_eq_false (by omega)]))]);have i2:(57:Int)<(c:Int):=(by omega);have HB:=Qh HK.2.2;clear hst hgo htk hcc HK hkl c1 c2;go_wp2_with fail;go_ret2;exact⟨0,false,rfl,by rw[HR.out],HB.out⟩
   (have i2:¬(57:Int)<(c:Int):=(by omega);obtain⟨d,hd⟩:∃d,c=48+d:=⟨c-48,by omega⟩;have hgt:rdg (t.take (k+1))=true:=(by rw[hgo,decide_eq_true (by omega)]);have hv2:rdv 0 (t.take (k+1))=v*10+d:=(by rw[htk,z05,HK.1,<-hcc];omega);have hlt:=z29 _ (by rw[List.length_take];omega) hgt;rw[hv2]at hlt;have w1:IntKind.u8.wrap ((c:Int)-48)=(d:Int):=(by rw[IntKind.wrap_u8];omega);have w2:IntKind.u64.wrap (d:Int)=(d:Int):=(by rw[IntKind.wrap_u64];omega);have w3:IntKind.u64.wrap ((v:Int)*10)=(v:Int)*10:=(by rw[IntKind.wrap_u64];omega);obtain⟨v2,hv⟩:=Qx (v*10+d);have w4:IntKind.u64.wrap ((v:Int)*10+(d:Int))=(v2:Int):=(by rw[IntKind.wrap_u64];omega);rw[hv]at hv2;have HV:=Qh (Qa hv2 (Qa hgt HK.2.2));clear hst hgo htk hcc hkl c1 c2 hd hgt hv2 hlt hv HK;go_wp2_with fail;go_roundg(gk-1);all_goals first|omega|skip);exact⟨k+1,v2,by omega,by simp,rfl,HV.out⟩
  ·obtain rfl:k=M:=by omega
   have hkI:¬(k:Int)<(k:Int):=(by omega);have h1:=HK.1;have h2:=HK.2.1;rw[List.take_of_length_le (by rw[HT.1];exact Nat.le_refl _)]at h1 h2;have hlt:=z29 t (by rw[HT.1];omega) h2;rw[h1]at hlt;have HR:=Qh (show zh t=(if v<9223372036854775808 then some (v:Int)else none)from by rw[HFJ.out,if_neg (by rw[h2];decide),h1]);have HB:=Qh HK.2.2;clear h1 h2 HK;by_cases hv:v<9223372036854775808
   ·have hvI:(v:Int)<9223372036854775808:=(by omega);have w1:IntKind.i64.wrap (v:Int)=(v:Int):=(by rw[IntKind.wrap_i64];omega);have HZ:=Qh (show zh t=some (v:Int)from by rw[HR.out,if_pos hv]);clear hv hlt;go_wp2_with fail;go_ret2;exact⟨_,true,rfl,by rw[HZ.out];exact⟨rfl,rfl⟩,HB.out⟩
   ·have hvI:¬(v:Int)<9223372036854775808:=(by omega);have HZ:=Qh (show zh t=none from by rw[HR.out,if_neg hv]);clear hv hlt;go_wp2_with fail;go_ret2;exact⟨_,false,rfl,by rw[HZ.out],HB.out⟩
theorem z63(s:Str)(w:World)(hs:s.length<=1073741824)(hneg:z28 s=true)(hne:s≠[]):
  Calls Tryz.prog 87 #[.string (zc s)] w (zfg s w):=by
 obtain⟨t,ht⟩:=Qx (yD s);have HFI:=Qh (show zh s=(if xk true t=false then none else if rdg t=false then none else if rdv 0 t<=9223372036854775808 then some (-(rdv 0 t:Int))else none)from by
  rw[<-z58];unfold z1B;rw[hneg,ht];rfl)
 obtain⟨N,hN⟩:=Qx s.length;obtain⟨M,hM⟩:=Qx t.length;have hpos:0<N:=(by rw[<-hN];exact List.length_pos_iff.2 hne);have hZ:((zc s).size:Int)=(N:Int):=(by rw[zw s,hN]);have hZ2:((zc t).size:Int)=(M:Int):=(by rw[zw t,hM]);have hZn:(zc s).size=N:=(by omega);have hsl:0<(zc s).size:=(by omega);have hNI:(0:Int)<(N:Int):=(by omega);have hNm:(N:Int)<=1073741824:=(by omega);obtain⟨s0,hs0⟩:∃r,s=45::r:=by
  unfold z28 at hneg;rw[decide_eq_true_eq]at hneg;cases s with
  |nil=>exact absurd rfl hne
  |cons c r=>simp at hneg;rw[hneg];exact⟨r,rfl⟩
 have hc0:ch (zc s) 0=45:=(by have h:=qu s 0 (by rw[hN];exact hpos);rw[show((0:Nat):Int)=0 from rfl]at h;rw[h];subst hs0;rfl);have ht0:t=s0:=(by rw[<-ht];unfold yD;rw[if_pos hneg,hs0];rfl);have hext:(zc s).extract 1 N=zc t:=by
  rw[ht0,<-hN,hs0];have h:=z0p (s:=45::s0) (fr:=1) (k:=(45::s0).length) (by simp) (Nat.le_refl _);rw[h];unfold cur
  congr 1
  rw[List.drop_succ_cons,List.drop_zero];exact List.take_of_length_le (by simp)
 have hMN:M+1=N:=(by rw[<-hN,<-hM,ht0,hs0];rfl);clear hs0 ht0;have HT:=Qh (Qa hM (show xk true t= !(decide (M=0)||decide (19<M)||(decide (t.head? =some 48)&&(decide (1<M)||true)))from by unfold xk;rw[hM]));have HCH:=Qh (qu t);generalize hT:zc t=T at*
 generalize hS:zc s=S at*
 clear hs hneg hne ht hN hM hT hS;have hno:xk true t=false->zh s=none:=fun h=>(by rw[HFI.out,if_pos h]);by_cases m0:M=0
 ·have HR:=Qh (hno (by rw[HT.2,decide_eq_true m0];rfl));subst m0;clear hno;go_in;go_wp2_with fail;go_ret2;exact⟨0,false,rfl,by rw[HR.out],Keep.refl _ _⟩
 have m0I:¬(M:Int)=0:=(by omega);have m0b:((M:Int)==0)=false:=(by rw[beq_eq_false_iff_ne];exact m0I);have mpos:0<T.size:=(by omega);have mposI:(0:Int)<(M:Int):=(by omega);have hix:∀W:World,(Instr.index 9 (.string T) (.int .i64 0)).run Tryz.prog W=.ok (.int .u8 ((ch T 0:Nat):Int)) W:=fun W=>z1y _ T _ 0 Tryz.underlying9 (Int.le_refl _) (by omega);by_cases m19:19<M
 ·have HR:=Qh (hno (by rw[HT.2,decide_eq_true m19,Bool.or_true];rfl));have i19:(19:Int)<(M:Int):=(by omega);clear hno m0 m19;go_in;go_wp2_with fail;go_ret2;exact⟨0,false,rfl,by rw[HR.out],Keep.refl _ _⟩
 have i19:¬(19:Int)<(M:Int):=(by omega);have hch0:t.head? =some 48↔ch T 0=48:=by
  have h:=HCH.out 0 (by rw[HT.1];omega);rw[show((0:Nat):Int)=0 from rfl]at h;rw[h];cases t with
  |nil=>have:=HT.1;simp at this;omega
  |cons c r=>
   show some c=some 48↔c.toNat=48;constructor
   ·intro e;rw[Option.some.inj e];rfl
   ·intro e;rw[show c=48 from UInt8.toNat_inj.1 e]
 have mM:(M:Int)<=19:=(by omega);by_cases h48:ch T 0=48
 ·have h48I:((ch T 0:Nat):Int)=48:=by omega
  have HR:=Qh (hno (by rw[HT.2,decide_eq_true (hch0.2 h48),Bool.or_true,Bool.and_true,Bool.or_true];rfl));clear hno m0 m19 hch0;by_cases m1:1<M
  ·have i1:(1:Int)<(M:Int):=(by omega);clear m1;go_in;go_wp2_with fail;go_ret2;exact⟨0,false,rfl,by rw[HR.out],Keep.refl _ _⟩
  ·have i1:¬(1:Int)<(M:Int):=(by omega);clear m1;go_in;go_wp2_with fail;go_ret2;exact⟨0,false,rfl,by rw[HR.out],Keep.refl _ _⟩
 have h48I:¬((ch T 0:Nat):Int)=48:=(by omega);have hok:xk true t=true:=(by rw[HT.2,decide_eq_false m0,decide_eq_false m19,decide_eq_false (fun h=>h48 (hch0.1 h))];rfl);have HFJ:=Qh (show zh s=(if rdg t=false then none else if rdv 0 t<=9223372036854775808 then some (-(rdv 0 t:Int))else none)from by rw[HFI.out,if_neg (by rw[hok];decide)]);clear hno m0 m19 hch0 hok HFI;go_in;go_wp2_with fail;go_loopg[5,6] M (fun gq s5 s6 wr=>∃(k v:Nat),gq+k=M/\s6=.int .i64 (k:Int)/\s5=.int .u64 (v:Int)/\Hid (rdv 0 (t.take k)=v/\rdg (t.take k)=true/\Keep (fun _=>False) w wr))
 case atStart=>exact⟨0,0,by omega,rfl,rfl,rfl,rfl,Keep.refl _ _⟩
 case round=>
  obtain⟨k,v,hgk,rfl,rfl,HK⟩:=hrel;by_cases hk:k<M
  ·have hkI:(k:Int)<(M:Int):=by omega
   have hk0:(0:Int)<=(k:Int):=(by omega);have hkn:k<T.size:=(by omega);have hkl:k<t.length:=(by rw[HT.1];exact hk);have hcc:=HCH.out k hkl;have htk:t.take (k+1)=t.take k++[t[k]]:=(by rw[List.take_add_one,List.getElem?_eq_getElem hkl];rfl);obtain⟨c,hc⟩:∃c,ch T (k:Int)=c:=⟨_,rfl⟩;rw[hc]at hcc;have hgo:rdg (t.take (k+1))=decide (48<=c/\c<=57):=(by rw[htk,xo,HK.2.1,hcc];unfold rdg;simp);have hst:rdg (t.take (k+1))=false->rdg t=false:=fun h=>(by have e:rdg t=(rdg (t.take (k+1))&&rdg (t.drop (k+1))):=(by rw[<-xo,List.take_append_drop]);rw[e,h];rfl);by_cases c1:c<48
   ·have HR:=Qh (show zh s=none from by rw[HFJ.out,if_pos (hst (by rw[hgo,decide_eq_false (by omega)]))]);have i1:(c:Int)<48:=(by omega);have HB:=Qh HK.2.2;clear hst hgo htk hcc HK hkl c1;go_wp2_with fail;go_ret2;exact⟨0,false,rfl,by rw[HR.out],HB.out⟩
   have i1:¬(c:Int)<48:=(by omega);by_cases c2:57<c
   ·have HR:=Qh (show zh s=none from by rw[HFJ.out,if_pos (hst (by rw[hgo,decide_eq_false (by omega)]))]);have i2:(57:Int)<(c:Int):=(by omega);have HB:=Qh HK.2.2;clear hst hgo htk hcc HK hkl c1 c2;go_wp2_with fail;go_ret2;exact⟨0,false,rfl,by rw[HR.out],HB.out⟩
   (have i2:¬(57:Int)<(c:Int):=(by omega);obtain⟨d,hd⟩:∃d,c=48+d:=⟨c-48,by omega⟩;have hgt:rdg (t.take (k+1))=true:=(by rw[hgo,decide_eq_true (by omega)]);have hv2:rdv 0 (t.take (k+1))=v*10+d:=(by rw[htk,z05,HK.1,<-hcc];omega);have hlt:=z29 _ (by rw[List.length_take];omega) hgt;rw[hv2]at hlt;have w1:IntKind.u8.wrap ((c:Int)-48)=(d:Int):=(by rw[IntKind.wrap_u8];omega);have w2:IntKind.u64.wrap (d:Int)=(d:Int):=(by rw[IntKind.wrap_u64];omega);have w3:IntKind.u64.wrap ((v:Int)*10)=(v:Int)*10:=(by rw[IntKind.wrap_u64];omega);obtain⟨v2,hv⟩:=Qx (v*10+d);have w4:IntKind.u64.wrap ((v:Int)*10+(d:Int))=(v2:Int):=(by rw[IntKind.wrap_u64];omega);rw[hv]at hv2;have HV:=Qh (Qa hv2 (Qa hgt HK.2.2));clear hst hgo htk hcc hkl c1 c2 hd hgt hv2 hlt hv HK;go_wp2_with fail;go_roundg(gk-1);all_goals first|omega|skip);exact⟨k+1,v2,by omega,by simp,rfl,HV.out⟩
  ·obtain rfl:k=M:=by omega
   have hkI:¬(k:Int)<(k:Int):=(by omega);have h1:=HK.1;have h2:=HK.2.1;rw[List.take_of_length_le (by rw[HT.1];exact Nat.le_refl _)]at h1 h2;have hlt:=z29 t (by rw[HT.1];omega) h2;rw[h1]at hlt;have HR:=Qh (show zh s=(if v<=9223372036854775808 then some (-(v:Int))else none)from by rw[HFJ.out,if_neg (by rw[h2];decide),h1]);have HB:=Qh HK.2.2;clear h1 h2 HK;by_cases hv:v<=9223372036854775808
   ·have hvI:(v:Int)<=9223372036854775808:=(by omega);have HW:=Qh (show wrap64 (-wrap64 (v:Int))= -(v:Int)from by unfold wrap64;omega);have HZ:=Qh (show zh s=some (-(v:Int))from by rw[HR.out,if_pos hv]);clear hv hlt;go_wp2_with fail;go_ret2;exact⟨_,true,rfl,by rw[HZ.out];exact⟨rfl,HW.out⟩,HB.out⟩
   ·have hvI:¬(v:Int)<=9223372036854775808:=(by omega);have HZ:=Qh (show zh s=none from by rw[HR.out,if_neg hv]);clear hv hlt;go_wp2_with fail;go_ret2;exact⟨_,false,rfl,by rw[HZ.out],HB.out⟩
theorem yN(s:Str)(w:World)(hs:s.length<=1073741824):Calls Tryz.prog 87 #[.string (zc s)] w (zfg s w):=by
 by_cases h0:s=[]
 ·subst h0;have HR:=Qh (show zh []=none from by rw[<-z58];rfl);have hz:((zc []).size:Int)=0:=rfl;go_in;go_wp2_with fail;go_ret2;exact⟨0,false,rfl,by rw[HR.out],Keep.refl _ _⟩
 cases hn:z28 s with
 |true=>exact z63 s w hs hn h0
 |false=>exact z62 s w hs hn h0
end Sc
end Go.Proofs.YtkkecpamnnojoaaGreatDoor
