/- A part of the proof of ScriptParses: nothing is assumed. By an AI agent. -/
import Derived.Test.YtkkecpamnnojoaaGreatDoorBz16
set_option linter.unusedVariables false
set_option linter.unusedSimpArgs false
set_option maxRecDepth 100000
set_option maxHeartbeats 32000000
namespace Go.Proofs.YtkkecpamnnojoaaGreatDoor
open Go.ChangeShapes Go.WideShapes Go.ChangeAt Go.RowKit Go.Shelf
open Bt Dc By
namespace Sc
theorem xV{w w':World}(h:Below w.heap.size w w'):Keep (fun _=>False) w w':=⟨h.os,h.tape,h.output,h.size,fun i hi _=>h.block i hi⟩
def IsI(n:Int):Prop:=-9223372036854775808<=n/\n<=9223372036854775807
def zl(n:Int):Str:=Lib.itoa n
def z0Z(w:World)(o:Option Addr)(xs:List Value):Prop:=∀i,i<xs.length->∃g f,o=some ⟨g,f,none⟩/\w.cell? ⟨g,f+i,none⟩=xs[i]?/\g<w.heap.size
theorem z0Z.kept{w w':World}{o:Option Addr}{xs:List Value}(h:z0Z w o xs)(k:Keep (fun _=>False) w w'):z0Z w' o xs:=fun i hi=>by obtain⟨g,f,h1,h2,h3⟩:=h i hi;exact⟨g,f,h1,(k.cell (p:=⟨g,f+i,none⟩) h3 id).trans h2,Nat.lt_of_lt_of_le h3 k.size⟩
theorem z0W(n:Int)(B:Nat)(w:World)(hE:Ev B w)(hn:IsI n):Calls Tryz.prog 62 #[.int .i64 n] w fun e w'=>e=.returned (.string (zc (zl n)))/\Keep (fun _=>False) w w':=by have HF:=Qh (Tryz.strconv_FormatInt_10 n hn.1 hn.2 w (hE.tb.tens w (Below.refl _ _)));clear hE;go_in;go_wp2_with(go_at_call 91;refine HF.mono ?_;rintro e w' ⟨rfl,k,os,rfl⟩;rw[show(⟨(Lib.itoa n).toArray⟩:ByteArray)=zc (zl n)from rfl]);go_ret;exact⟨rfl,xV (Lib.below_grow _ _ (Nat.le_refl _) k os)⟩
theorem z2m(n:Int)(B:Nat)(w:World)(hE:Ev B w)(hn:IsI n):Calls Tryz.prog 63 #[.int .i64 n] w fun e w'=>e=.returned (.string (zc (zl n)))/\Keep (fun _=>False) w w':=by have HF:=Qh (Tryz.strconv_FormatInt_10 n hn.1 hn.2 w (hE.tb.tens w (Below.refl _ _)));clear hE;go_in;go_wp2_with(go_at_call 91;refine HF.mono ?_;rintro e w' ⟨rfl,k,os,rfl⟩;rw[show(⟨(Lib.itoa n).toArray⟩:ByteArray)=zc (zl n)from rfl]);go_ret;exact⟨rfl,xV (Lib.below_grow _ _ (Nat.le_refl _) k os)⟩
theorem z1N{w:World}{own:Nat->Option T}{xb:Nat}{v:Value}{B:Str}(h:Pr w own xb v B):Calls Tryz.prog 31 #[.pointer (some ⟨xb,0,none⟩)] w fun e w'=>e=.returned (.bool (decide (65536<B.length)))/\w'=w:=by
 have c0:=za h.blk 0;simp at c0;obtain⟨o,p,hv⟩:=h.row.len;rw[hv]at c0;obtain⟨L,hL⟩:=Qx B.length;rw[hL]at c0⊢
 have HL:=Qh hL;clear hv h hL;by_cases hl:65536<L
 ·have hl1:(65536:Int)<(L:Int):=(by omega);rw[decide_eq_true hl];go_in;go_wp2_with fail;go_ret;exact⟨rfl,rfl⟩
 ·have hl1:¬(65536:Int)<(L:Int):=(by omega);rw[decide_eq_false hl];go_in;go_wp2_with fail;go_ret;exact⟨rfl,rfl⟩
theorem z52(s:Str):strOfNums (s.map fun b=>(b.toNat:Int))=zc s:=by
 unfold strOfNums zc;simp only[List.map_map]
 congr 2
 induction s with
 |nil=>rfl
 |cons c s ih=>rw[List.map_cons,ih];simp
theorem z6M{base n:Nat}{v:Value}{s:Str}{w:World}(h:w.ownsRow base 5 1 v n (u8v s)):(convert 53 9 v).run Tryz.prog w=.ok (.string (zc s)) w:=by
 have hl:s.length=n:=(by have:=h.1;rw[z0e]at this;omega);rcases h.2 with⟨rfl,h2⟩|⟨g,cap,cells,rfl,-⟩
 ·have:s=[]:=List.length_eq_zero_iff.1 (by rw[hl];exact h2);subst this;exact run_convert_bytes_nil w 53 5 Tryz.underlying53 Tryz.underlying5 0 0 9 Tryz.underlying9
 ·rw[<-z52];refine run_convert_bytes_arg w 53 5 Tryz.underlying53 Tryz.underlying5 g 0 _ cap _ (by simpa using hl) (fun i hi=>?_) 9 Tryz.underlying9;have hi':i<s.length:=(by omega);have hc:=h.cells rfl i (.int .u8 (s[i].toNat:Int)) (by unfold u8v;rw[List.getElem?_map,List.getElem?_eq_getElem hi'];rfl);rw[qg,Nat.zero_add]at hc;rw[Nat.zero_add,hc,List.getD_eq_getElem?_getD,List.getElem?_map,List.getElem?_eq_getElem hi'];rfl
def z1l(c:Nat):UInt8:=(zcp.getD c 0)
def xC(c:UInt8):Str:=[z1l (c.toNat/16),z1l (c.toNat%16)]
theorem zfB(m:Nat)(h:m<256):bits BinOp.and IntKind.u8 (m:Int) 15=((m%16:Nat):Int):=by have:∀n:Fin 256,bits BinOp.and IntKind.u8 (n.val:Int) 15=((n.val%16:Nat):Int):=(by decide+kernel);exact this ⟨m,h⟩
theorem zcq(P:Nat)(h:P<16):ch ⟨#[48,49,50,51,52,53,54,55,56,57,97,98,99,100,101,102]⟩ (P:Int)=(z1l P).toNat:=by have:∀n:Fin 16,ch ⟨#[48,49,50,51,52,53,54,55,56,57,97,98,99,100,101,102]⟩ ((n.val:Nat):Int)=(z1l n.val).toNat:=(by decide+kernel);exact this ⟨P,h⟩
theorem zaC(b:Str)(k:Nat)(h:k<b.length):(b.take (k+1)).flatMap xC=(b.take k).flatMap xC++xC (b.getD k 0):=by have e1:b.take (k+1)=b.take k++[b.getD k 0]:=(by rw[List.take_add_one,List.getElem?_eq_getElem h,List.getD_eq_getElem?_getD,List.getElem?_eq_getElem h];rfl);rw[e1,List.flatMap_append];simp
def yB(b:Str):Str:=if b=[]then[45]else b.flatMap xC
theorem z4t(o:Option Addr)(cap:Nat)(b:Str)(w:World)(h:z0Z w o (u8v b))(hn:b.length<=1073741824):
    Calls Tryz.prog 94 #[.slice o b.length cap] w fun e w'=>e=.returned (.string (zc (yB b)))/\Keep (fun _=>False) w w':=by
  obtain⟨N,hN⟩:=Qx b.length;by_cases h0:b=[]
  · subst h0
    rw[show(([]:Str).length)=0 from rfl];go_in;go_wp2_with fail;go_ret;exact⟨rfl,Keep.refl _ _⟩
  · have HX:=Qh (show yB b=b.flatMap xC from by unfold yB;rw[if_neg h0])
    have hpos:0<N:=(by rw[<-hN];exact List.length_pos_iff.2 h0);have hz:((N:Int)==0)=false:=Qb (by omega);have HC:=Qh (Qa h hN);rw[hN]at hn⊢
    clear h0 h hN;go_in;go_wp2_with fail;go_loopg[3,5,11] N (fun gq s3 s5 s11 wr=>∃k:Nat,gq+k=N/\s11=.int .i64 (k:Int)/\Hid (wr.ownsRow w.heap.size 5 1 s3 (2*k) (u8v ((b.take k).flatMap xC))/\Keep (fun _=>False) w wr))
    case atStart=>exact⟨0,by omega,rfl,yi _ _ _ _,Keep.refl _ _⟩
    case round=>
      obtain⟨k,hgk,rfl,HK⟩:=hrel;by_cases hk:k<N
      · have hkI:(k:Int)<(N:Int):=by omega
        have hk0:(0:Int)<=(k:Int):=(by omega);obtain⟨g,f,rfl,hc,hl⟩:=HC.1 k (by rw[z0e,HC.2];exact hk);have cg:wr.cell? ⟨g,f+k,none⟩=some (.int .u8 ((b.getD k 0).toNat:Int)):=(by have:=(HK.2.cell (p:=⟨g,f+k,none⟩) hl id).trans hc;rw[this];unfold u8v;rw[List.getElem?_map,List.getElem?_eq_getElem (by rw[HC.2];exact hk),List.getD_eq_getElem?_getD,List.getElem?_eq_getElem (by rw[HC.2];exact hk)];rfl);obtain⟨c,hcc⟩:=Qx (b.getD k 0);have hcl:=c.toNat_lt;rw[hcc]at cg;obtain⟨m,hm⟩:=Qx c.toNat;rw[hm]at cg hcl;have HM:=Qh (Qa hcc hm);have HKK:=Qh HK.out;clear hc hcc hm;go_wp2_with fail;obtain⟨P,hP⟩:=Qx (m/16);obtain⟨Q,hQ⟩:=Qx (m%16);have hp:(m:Int)/16=(P:Int):=(by omega);have hq:bits BinOp.and IntKind.u8 (m:Int) 15=(Q:Int):=(by rw[zfB m hcl,hQ]);have hp0:(0:Int)<=(P:Int):=(by omega);have hp1:(P:Int)<16:=(by omega);have hq0:(0:Int)<=(Q:Int):=(by omega);have hq1:(Q:Int)<16:=(by omega);obtain⟨A,hA⟩:∃A,ch ⟨#[48,49,50,51,52,53,54,55,56,57,97,98,99,100,101,102]⟩ (P:Int)=A:=⟨_,rfl⟩;obtain⟨C,hC⟩:∃C,ch ⟨#[48,49,50,51,52,53,54,55,56,57,97,98,99,100,101,102]⟩ (Q:Int)=C:=⟨_,rfl⟩;have HPQ:=Qh (Qa (show A=(z1l (m/16)).toNat from by rw[<-hA,zcq P (by omega),hP]) (show C=(z1l (m%16)).toNat from by rw[<-hC,zcq Q (by omega),hQ]));obtain⟨i0,hi0,hz0,hz1,hz2⟩:=z7U;clear hP hQ;go_region_law(first
          |(refine zy rfl (.tmp 15) (.tmp 22) 53 rfl w.heap.size 5 i0 (.int .u8 0) 1 1 Tryz.underlying53 hi0 hz0 hz1 hz2 rfl (by decide) u3 (2*k) _ rfl (zf HKK.1 (((Keep.refl (fun _=>False) wr).drew).alloc _) fun _ _=>id) ⟨wr.heap.size,0,none⟩ 2 2 [.int .u8 (A:Int),.int .u8 (C:Int)] rfl rfl (zD _ _ _) (by intro u hu;simp at hu;rcases hu with rfl|rfl<;>rfl) (by unfold maxLen;omega) (by omega) (by have:=HKK.2.size;simp[World.drew];omega) ?_;intro v4 w4 hown hgr hblk;have k4:Keep (fun q=>u3.ownBlock=some q) wr w4:=((Keep.refl (fun q=>u3.ownBlock=some q) wr).drew.alloc _).trans (zp hgr);have H4:=Qh (Qa hown k4);clear hown hgr hblk k4))
        (all_goals go_wp2_with fail);all_goals go_roundg(gk-1)
        all_goals first|omega|skip
        all_goals
          refine⟨k+1,by omega,by simp,?_,?_⟩
          · have h:=H4.1
            rw[zaC b k (by rw[HC.2];exact hk),z4Y];unfold xC;rw[HM.1,HM.2];simp only[u8v,List.map_cons,List.map_nil];rw[<-HPQ.1,<-HPQ.2];exact h
          · refine HKK.2.own H4.2 fun i hi=>Or.inr ?_
            rcases HKK.1.2 with⟨h1, -⟩|⟨g2,c2,cur,h1,h2, -⟩
            · rw[h1]at hi;cases hi
            · rw[h1]at hi;cases hi;exact h2
      · obtain rfl:k=N:=by omega
        have hkI:¬(k:Int)<(k:Int):=(by omega);have htk:b.take k=b:=List.take_of_length_le (by rw[HC.2];exact Nat.le_refl _);have h1:=HK.1;rw[htk,<-HX.out]at h1;have hcv:=z6M h1;have HB:=Qh HK.2;clear HK h1;go_wp2_with fail;go_ret;exact⟨rfl,HB.out⟩
def qp(w:World)(v:Value)(n:Nat)(xs:List Value):Prop:=∃o cap,v=.slice o n cap/\n<=cap/\z0Z w o xs/\(o=none->cap=0)
theorem qp.kept{w w':World}{v:Value}{n:Nat}{xs:List Value}(h:qp w v n xs)(k:Keep (fun _=>False) w w'):qp w' v n xs:=by obtain⟨o,cap,h1,h2,h3,h4⟩:=h;exact⟨o,cap,h1,h2,h3.kept k,h4⟩
structure TaskS (w:World) (t:MT):Prop where
 row:qp w t.v t.l.length (t.l.flatMap MC.cells)
 data:∀c∈t.l,qp w c.d c.c.data.length (u8v c.c.data)
structure EndS (w:World) (e:ME):Prop where
 keeps:qp w e.kv e.ks.length (e.ks.flatMap MK.cells)
 junk:∀k∈e.ks,qp w k.d k.k.junk.length (u8v k.k.junk)
 faults:qp w e.fv e.fs.length (fsv e.fs)
structure Seen (w:World) (m:M):Prop where
 fs:qp w m.fv m.fs.length (fsv m.fs)
 ts:qp w m.tv m.ts.length (m.ts.map (·.v))
 calls:∀t∈m.ts,TaskS w t
 ps:qp w m.pv m.ps.length (m.ps.map (Value.int .i64))
 es:qp w m.ev m.es.length (m.es.flatMap ME.cells)
 ends:∀e∈m.es,EndS w e
theorem TaskS.kept{w w':World}{t:MT}(h:TaskS w t)(k:Keep (fun _=>False) w w'):TaskS w' t:=⟨h.row.kept k,fun c hc=>(h.data c hc).kept k⟩
theorem EndS.kept{w w':World}{e:ME}(h:EndS w e)(k:Keep (fun _=>False) w w'):EndS w' e:=⟨h.keeps.kept k,fun c hc=>(h.junk c hc).kept k,h.faults.kept k⟩
theorem Seen.kept{w w':World}{m:M}(h:Seen w m)(k:Keep (fun _=>False) w w'):Seen w' m:=
 ⟨h.fs.kept k,h.ts.kept k,fun t ht=>(h.calls t ht).kept k,h.ps.kept k,h.es.kept k,fun e he=>(h.ends e he).kept k⟩
theorem qp.of_row{w:World}{base sz n:Nat}{e:TypeId}{v:Value}{xs:List Value}(h:w.ownsRow base e sz v n xs):qp w v n xs:=by
 rcases h.2 with⟨rfl,h0⟩|⟨g,cap,cur,rfl,-,hg,hnc,-⟩
 ·have:xs=[]:=List.length_eq_zero_iff.1 (by have:=h.1;rw[h0]at this;simpa using this);subst this;exact⟨none,0,by rw[h0],by omega,fun i hi=>absurd hi (by simp),fun _=>rfl⟩
 ·refine⟨_,cap,rfl,hnc,fun i hi=>⟨g,0,rfl,?_,lt_of_block hg⟩,fun e=>nomatch e⟩;have hc:=h.cells rfl i _ (List.getElem?_eq_getElem hi);rw[qg,Nat.zero_add]at hc;rw[Nat.zero_add,hc,List.getElem?_eq_getElem hi]
theorem LAt.seen{w:World}{own:Nat->Option T}{m:M}(h:LAt w own m):Seen w m where
 fs:=.of_row h.fs.row
 ts:=.of_row h.ts.row
 calls:=fun t ht=>by obtain⟨i,hi,rfl⟩:=List.getElem_of_mem ht;have H:=h.calls i _ (List.getElem?_eq_getElem hi);refine⟨.of_row H.row.row,fun c hc=>?_⟩;obtain⟨j,hj,rfl⟩:=List.getElem_of_mem hc;exact .of_row (H.data j _ (List.getElem?_eq_getElem hj)).row
 ps:=.of_row h.ps.row
 es:=.of_row h.es.row
 ends:=fun e he=>by obtain⟨i,hi,rfl⟩:=List.getElem_of_mem he;have H:=h.ends i _ (List.getElem?_eq_getElem hi);refine⟨.of_row H.keeps.row,fun c hc=>?_,.of_row H.faults.row⟩;obtain⟨j,hj,rfl⟩:=List.getElem_of_mem hc;exact .of_row (H.junk j _ (List.getElem?_eq_getElem hj)).row
theorem z4J{α:Type}(f:α->List Value)(k:Nat)(hf:∀x,(f x).length=k):∀(l:List α) (i:Nat) (x:α),l[i]?=some x->∀j,j<k->(l.flatMap f)[k*i+j]?=(f x)[j]?
 |[],i,x,h,j,hj=>by simp at h
 |y::l,0,x,h,j,hj=>by simp at h;subst h;rw[List.flatMap_cons,Nat.mul_zero,Nat.zero_add,List.getElem?_append_left (by rw[hf];exact hj)]
 |y::l,i+1,x,h,j,hj=>by rw[List.flatMap_cons,List.getElem?_append_right (by rw[hf];rw[Nat.mul_succ];omega),hf,show k*(i+1)+j-k=k*i+j by rw[Nat.mul_succ];omega];exact z4J f k hf l i x (by simpa using h) j hj
theorem zB{α:Type}(f:α->List Value)(k:Nat)(hf:∀x,(f x).length=k)(l:List α):(l.flatMap f).length=k*l.length:=by
 induction l with
 |nil=>simp
 |cons y l ih=>rw[List.flatMap_cons,List.length_append,hf,ih,List.length_cons,Nat.mul_succ];omega
theorem z0Z.get{α:Type}{w:World}{g fo:Nat}{f:α->List Value}{l:List α}(k:Nat)(h:z0Z w (some ⟨g,fo,none⟩) (l.flatMap f))(hf:∀x,(f x).length=k){i:Nat}{x:α}(hi:l[i]?=some x)(j:Nat)(hj:j<k):w.cell? ⟨g,fo+i*k+j,none⟩=(f x)[j]?:=by
 have hl:i<l.length:=(List.getElem?_eq_some_iff.1 hi).1
 obtain⟨g',f',e,hc,-⟩:=h (k*i+j) (by rw[zB f k hf];calc k*i+j<k*i+k:=by omega
   _=k*(i+1):=by rw[Nat.mul_succ]
   _<=k*l.length:=Nat.mul_le_mul_left _ hl)
 cases e;rw[show fo+i*k+j=fo+(k*i+j) by rw[Nat.mul_comm];omega,hc,z4J f k hf l i x hi j hj]
theorem z0Z.some{w:World}{o:Option Addr}{xs:List Value}(h:z0Z w o xs)(hx:0<xs.length):∃g f,o=some ⟨g,f,none⟩/\g<w.heap.size:=by obtain⟨g,f,e,-,hl⟩:=h 0 hx;exact⟨g,f,e,hl⟩
def qr(p:Play):Bool:=decide (64<p.faults.length\/16<p.tasks.length\/65536<p.picks.length\/16<p.ends.length)||p.tasks.any (fun l=>decide (256<l.length))||p.ends.any (fun x=>decide (64<x.faults.length\/256<x.keeps.length))
theorem qp.val{w:World}{v:Value}{n:Nat}{xs:List Value}(h:qp w v n xs):∃o cap,v=.slice o n cap:=by obtain⟨o,cap,h1,-⟩:=h;exact⟨o,cap,h1⟩
theorem z8D{p:Play}(h:64<p.faults.length\/16<p.tasks.length\/65536<p.picks.length\/16<p.ends.length):qr p=true:=by unfold qr;rw[decide_eq_true h];rfl
theorem zbC(m:M)(w:World)(h:Seen w m)(hb:m.fs.length<=1099511627776/\m.ts.length<=1099511627776/\m.ps.length<=1099511627776/\m.es.length<=1099511627776):
  Calls Tryz.prog 28 #[.agg m.val] w fun e w'=>e=.returned (.bool (qr m.play))/\Keep (fun _=>False) w w':=by
 obtain⟨o1,c1,hv1⟩:=h.fs.val;obtain⟨o2,c2,hv2⟩:=h.ts.val;obtain⟨o3,c3,hv3⟩:=h.ps.val;obtain⟨o4,c4,hv4⟩:=h.es.val;obtain⟨n1,hn1⟩:=Qx m.fs.length;obtain⟨n2,hn2⟩:=Qx m.ts.length;obtain⟨n3,hn3⟩:=Qx m.ps.length;obtain⟨n4,hn4⟩:=Qx m.es.length;have HP:=Qh (Qa (show m.play.faults.length=n1 from hn1) (Qa (show m.play.tasks.length=n2 from by unfold M.play;simpa using hn2) (Qa (show m.play.picks.length=n3 from hn3) (show m.play.ends.length=n4 from by unfold M.play;simpa using hn4))));unfold M.val;rw[hv1,hv2,hv3,hv4,hn1,hn2,hn3,hn4];have HH:=Qh (Qa h (Qa hn2 (Qa hn4 (Qa hv2 hv4))));rw[hn1,hn2,hn3,hn4]at hb;obtain⟨hb1,hb2,hb3,hb4⟩:=hb;clear h hv1 hv2 hv3 hv4 hn1 hn2 hn3 hn4;by_cases g1:64<n1
 ·have HR:=Qh (z8D (p:=m.play) (by rw[HP.1];exact Or.inl g1));have i1:(64:Int)<(n1:Int):=(by omega);go_in;go_wp2_with fail;go_ret;exact⟨by rw[HR.out];rfl,(Keep.refl _ w).alloc _⟩
 have i1:¬(64:Int)<(n1:Int):=(by omega);by_cases g2:16<n2
 ·have HR:=Qh (z8D (p:=m.play) (by rw[HP.2.1];exact Or.inr (Or.inl g2)));have i2:(16:Int)<(n2:Int):=(by omega);go_in;go_wp2_with fail;go_ret;exact⟨by rw[HR.out];rfl,(Keep.refl _ w).alloc _⟩
 have i2:¬(16:Int)<(n2:Int):=(by omega);by_cases g3:65536<n3
 ·have HR:=Qh (z8D (p:=m.play) (by rw[HP.2.2.1];exact Or.inr (Or.inr (Or.inl g3))));have i3:(65536:Int)<(n3:Int):=(by omega);go_in;go_wp2_with fail;go_ret;exact⟨by rw[HR.out];rfl,(Keep.refl _ w).alloc _⟩
 have i3:¬(65536:Int)<(n3:Int):=(by omega);by_cases g4:16<n4
 ·have HR:=Qh (z8D (p:=m.play) (by rw[HP.2.2.2];exact Or.inr (Or.inr (Or.inr g4))));have i4:(16:Int)<(n4:Int):=(by omega);go_in;go_wp2_with fail;go_ret;exact⟨by rw[HR.out];rfl,(Keep.refl _ w).alloc _⟩
 have i4:¬(16:Int)<(n4:Int):=(by omega);have HM:=Qh (show qr m.play=(m.ts.any (fun t=>decide (256<t.l.length))||m.es.any (fun x=>decide (64<x.fs.length\/256<x.ks.length)))from by
  unfold qr;rw[HP.1,HP.2.1,HP.2.2.1,HP.2.2.2,decide_eq_false (by omega)];simp[M.play,List.any_map,Function.comp_def,ME.reopen];rfl)
 go_in;go_wp2_with fail;have hbx:=zm w (.cells #[.int .i64 m.disk,.int .i64 m.segMax,.int .i64 m.base,.int .i64 m.qcap,.int .i64 m.qbytes,.int .i64 m.pmost,.int .i64 m.pbytes,.float .f64 m.linger,.float .f64 m.alpha,.slice o1 n1 c1,.slice o2 n2 c2,.slice o3 n3 c3,.int .i64 m.most,.slice o4 n4 c4] 40);have HBX:=Qh hbx;clear hbx;go_loopg[4,32] n2 (fun gq s4 s32 wr=>∃k:Nat,gq+k=n2/\s32=.int .i64 (k:Int)/\Hid ((m.ts.take k).any (fun t=>decide (256<t.l.length))=false/\Keep (fun _=>False) w wr/\wr.cell? ⟨w.heap.size,13,none⟩=some (.slice o4 n4 c4)/\w.heap.size<wr.heap.size))
 case atStart=>exact⟨0,by omega,rfl,by simp,(Keep.refl _ w).alloc _,za HBX.out 13,by simp⟩
 case round=>
  obtain⟨k,hgk,rfl,HK⟩:=hrel;by_cases hk:k<n2
  ·have hkI:(k:Int)<(n2:Int):=by omega
   have hk0:(0:Int)<=(k:Int):=(by omega);have hkl:k<m.ts.length:=(by rw[HH.2.1];exact hk);obtain⟨o',c',e',-,hcs,-⟩:=HH.1.ts;rw[HH.2.2.2.1]at e';cases e';obtain⟨g,f,rfl,hc,hl⟩:=hcs k (by simpa using hkl);have ht:=HH.1.calls _ (List.getElem_mem hkl);obtain⟨o5,c5,hv5⟩:=ht.row.val;obtain⟨n5,hn5⟩:=Qx ((m.ts[k]).l.length);have cg:wr.cell? ⟨g,f+k,none⟩=some (.slice o5 n5 c5):=(by rw[(HK.2.1.cell (p:=⟨g,f+k,none⟩) hl id).trans hc,List.getElem?_map,List.getElem?_eq_getElem hkl,<-hn5,<-hv5];rfl);have htk:m.ts.take (k+1)=m.ts.take k++[m.ts[k]]:=(by rw[List.take_add_one,List.getElem?_eq_getElem hkl];rfl);have HS:=Qh (show(m.ts.take (k+1)).any (fun t=>decide (256<t.l.length))=decide (256<n5)from by rw[htk,List.any_append,HK.1,<-hn5];simp);have HTK:=Qh (show m.ts.any (fun t=>decide (256<t.l.length))=(decide (256<n5)||(m.ts.drop (k+1)).any (fun t=>decide (256<t.l.length)))from by
    rw[<-HS.out,<-List.any_append,List.take_append_drop])
   clear hc hcs ht hv5 htk hkl hn5;by_cases h5:256<n5
   ·have i5:(256:Int)<(n5:Int):=(by omega);have HR:=Qh (show qr m.play=true from by rw[HM.out,HTK.out,decide_eq_true h5];rfl);clear h5;go_wp2_with fail;go_ret;exact⟨by rw[HR.out];rfl,HK.2.1⟩
   ·have i5:¬(256:Int)<(n5:Int):=by omega
    (have HR:=Qh (show(m.ts.take (k+1)).any (fun t=>decide (256<t.l.length))=false from by rw[HS.out,decide_eq_false h5]);clear h5;go_wp2_with fail;go_roundg(gk-1);all_goals first|omega|skip);exact⟨k+1,by omega,by simp,HR.out,HK.2⟩
  ·obtain rfl:k=n2:=by omega
   have hkI:¬(k:Int)<(k:Int):=(by omega);have hc13:=HK.2.2.1;have hlt:=HK.2.2.2;have HM2:=Qh (show qr m.play=m.es.any (fun x=>decide (64<x.fs.length\/256<x.ks.length))from by
    have h:=HK.1;rw[List.take_of_length_le (by rw[HH.2.1];exact Nat.le_refl _)]at h;rw[HM.out,h];rfl)
   have HK1:=Qh HK.2.1;clear HM HK;go_wp2_with fail;go_loopg[6,43] n4 (fun gq s6 s43 wr=>∃j:Nat,gq+j=n4/\s43=.int .i64 (j:Int)/\Hid ((m.es.take j).any (fun x=>decide (64<x.fs.length\/256<x.ks.length))=false/\Keep (fun _=>False) w wr))
   case atStart=>exact⟨0,by omega,rfl,by simp,HK1.out⟩
   case round=>
    obtain⟨j,hgj,rfl,HJ⟩:=hrel;by_cases hj:j<n4
    ·have hjI:(j:Int)<(n4:Int):=by omega
     have hj0:(0:Int)<=(j:Int):=(by omega);have hjl:j<m.es.length:=(by rw[HH.2.2.1];exact hj);obtain⟨o',c',e',-,hcs,-⟩:=HH.1.es;rw[HH.2.2.2.2]at e';cases e';obtain⟨g,f,rfl,hgl⟩:=hcs.some (by rw[zB _ 3 (fun _=>rfl)];omega);have he:=HH.1.ends _ (List.getElem_mem hjl);have hcs2:=hcs.kept HJ.2;have d0:=hcs2.get 3 (fun _=>rfl) (List.getElem?_eq_getElem hjl) 0 (by omega);have d1:=hcs2.get 3 (fun _=>rfl) (List.getElem?_eq_getElem hjl) 1 (by omega);have d2:=hcs2.get 3 (fun _=>rfl) (List.getElem?_eq_getElem hjl) 2 (by omega);unfold ME.cells at d0 d1 d2;simp at d0 d1 d2;obtain⟨o5,c5,hv5⟩:=he.keeps.val;obtain⟨o6,c6,hv6⟩:=he.faults.val;obtain⟨n5,hn5⟩:=Qx ((m.es[j]).ks.length);obtain⟨n6,hn6⟩:=Qx ((m.es[j]).fs.length);rw[hv5,hn5]at d1;rw[hv6,hn6]at d2;have htk:m.es.take (j+1)=m.es.take j++[m.es[j]]:=(by rw[List.take_add_one,List.getElem?_eq_getElem hjl];rfl);have HS:=Qh (show(m.es.take (j+1)).any (fun x=>decide (64<x.fs.length\/256<x.ks.length))=decide (64<n6\/256<n5)from by rw[htk,List.any_append,HJ.1,<-hn5,<-hn6];simp);have HTK:=Qh (show m.es.any (fun x=>decide (64<x.fs.length\/256<x.ks.length))=(decide (64<n6\/256<n5)||(m.es.drop (j+1)).any (fun x=>decide (64<x.fs.length\/256<x.ks.length)))from by
      rw[<-HS.out,<-List.any_append,List.take_append_drop])
     generalize(m.es[j]).dir=dr at*
     clear he hcs hcs2 hv5 hv6 htk hjl hn5 hn6;by_cases h6:64<n6
     ·have i6:(64:Int)<(n6:Int):=(by omega);have HR:=Qh (show qr m.play=true from by rw[HM2.out,HTK.out,decide_eq_true (Or.inl h6)];rfl);clear h6;go_wp2_with fail;go_ret;exact⟨by rw[HR.out];rfl,HJ.2.alloc _⟩
     ·have i6:¬(64:Int)<(n6:Int):=by omega
      by_cases h5:256<n5
      ·have i5:(256:Int)<(n5:Int):=(by omega);have HR:=Qh (show qr m.play=true from by rw[HM2.out,HTK.out,decide_eq_true (Or.inr h5)];rfl);clear h5 h6;go_wp2_with fail;go_ret;exact⟨by rw[HR.out];rfl,HJ.2.alloc _⟩
      ·have i5:¬(256:Int)<(n5:Int):=by omega
       (have HR:=Qh (show(m.es.take (j+1)).any (fun x=>decide (64<x.fs.length\/256<x.ks.length))=false from by rw[HS.out,decide_eq_false (by omega)]);clear h5 h6;go_wp2_with fail;go_roundg(gk-1);all_goals first|omega|skip);exact⟨j+1,by omega,by simp,HR.out,HJ.2.alloc _⟩
    ·obtain rfl:j=n4:=by omega
     have hjI:¬(j:Int)<(j:Int):=(by omega);have HR:=Qh (show qr m.play=false from by
      have h:=HJ.1;rw[List.take_of_length_le (by rw[HH.2.2.1];exact Nat.le_refl _)]at h;rw[HM2.out,h])
     have HJ1:=Qh HJ.2;clear HJ;go_wp2_with fail;go_ret;exact⟨by rw[HR.out];rfl,HJ1.out⟩
def zE(c:Call):Bool:=
 if c.kind=1\/c.kind=2 then decide (c.lsn=0)else if c.kind=3\/c.kind=7 then decide (c.lsn=0/\c.data=[])else if c.kind=4\/c.kind=5\/c.kind=6 then decide (c.data=[])else false
theorem z03(c:MC)(w:World)(h:qp w c.d c.c.data.length (u8v c.c.data)):
  Calls Tryz.prog 60 #[.agg #[.int .i64 c.c.kind,.int .i64 c.c.lsn,c.d]] w fun e w'=>e=.returned (.bool (zE c.c))/\Keep (fun _=>False) w w':=by
 obtain⟨o,cp,hv⟩:=h.val;rw[hv];obtain⟨n,hn⟩:=Qx c.c.data.length;have hd:c.c.data=[]↔n=0:=(by rw[<-hn];exact List.length_eq_zero_iff.symm);obtain⟨k,hk⟩:=Qx c.c.kind;obtain⟨l,hl⟩:=Qx c.c.lsn;have HX:=Qh (show zE c.c=(if k=1\/k=2 then decide (l=0)else if k=3\/k=7 then decide (l=0/\n=0)else if k=4\/k=5\/k=6 then decide (n=0)else false)from by
  unfold zE;rw[hk,hl];simp only[hd])
 rw[hn,hk,hl];clear h hv hn hk hl hd;have hK:=(Keep.refl (fun _=>False) w).alloc (.cells #[.int .i64 k,.int .i64 l,.slice o n cp] 76);have HK:=Qh hK;clear hK;have b1:∀j:Int,k≠j->(k==j)=false:=fun j h=>(by rw[beq_eq_false_iff_ne];exact h);have hl0:(l==0)=decide (l=0):=(by by_cases h:l=0<;>simp[h]);have hn0:((n:Int)==0)=decide (n=0):=(by by_cases h:n=0<;>simp[h]);have finish:∀b:Bool,(if k=1\/k=2 then decide (l=0)else if k=3\/k=7 then decide (l=0/\n=0)else if k=4\/k=5\/k=6 then decide (n=0)else false)=b->zE c.c=b:=fun b h=>(by rw[HX.out,h]);have HF:=Qh finish;clear finish;rcases(show k=1\/k=2\/k=3\/k=7\/k=4\/k=5\/k=6\/(k≠1/\k≠2/\k≠3/\k≠7/\k≠4/\k≠5/\k≠6) by omega)with rfl|rfl|rfl|rfl|rfl|rfl|rfl|⟨k1,k2,k3,k7,k4,k5,k6⟩
 ·clear b1;go_in;go_wp2_with fail;go_ret;exact⟨by rw[HF.out _ rfl];simp[hl0],HK.out⟩
 ·clear b1;go_in;go_wp2_with fail;go_ret;exact⟨by rw[HF.out _ rfl];simp[hl0],HK.out⟩
 ·clear b1
  by_cases h:l=0
  ·have hb:(l==0)=true:=(by rw[h];rfl);have hx:decide (l=0/\n=0)=decide (n=0):=(by simp[h]);have HQ:=Qh hx;clear h hx hl0;go_in;go_wp2_with fail;go_ret;exact⟨by rw[HF.out _ rfl];simp[HQ.out,hn0],HK.out⟩
  ·have hb:(l==0)=false:=(by rw[beq_eq_false_iff_ne];exact h);have hx:decide (l=0/\n=0)=false:=(by simp[h]);have HQ:=Qh hx;clear h hx hl0;go_in;go_wp2_with fail;go_ret;exact⟨by rw[HF.out _ rfl];simp[HQ.out],HK.out⟩
 ·clear b1
  by_cases h:l=0
  ·have hb:(l==0)=true:=(by rw[h];rfl);have hx:decide (l=0/\n=0)=decide (n=0):=(by simp[h]);have HQ:=Qh hx;clear h hx hl0;go_in;go_wp2_with fail;go_ret;exact⟨by rw[HF.out _ rfl];simp[HQ.out,hn0],HK.out⟩
  ·have hb:(l==0)=false:=(by rw[beq_eq_false_iff_ne];exact h);have hx:decide (l=0/\n=0)=false:=(by simp[h]);have HQ:=Qh hx;clear h hx hl0;go_in;go_wp2_with fail;go_ret;exact⟨by rw[HF.out _ rfl];simp[HQ.out],HK.out⟩
 ·clear b1;go_in;go_wp2_with fail;go_ret;exact⟨by rw[HF.out _ rfl];simp[hl0,hn0],HK.out⟩
 ·clear b1;go_in;go_wp2_with fail;go_ret;exact⟨by rw[HF.out _ rfl];simp[hl0,hn0],HK.out⟩
 ·clear b1;go_in;go_wp2_with fail;go_ret;exact⟨by rw[HF.out _ rfl];simp[hl0,hn0],HK.out⟩
 ·have e1:=b1 1 k1;have e2:=b1 2 k2;have e3:=b1 3 k3;have e4:=b1 4 k4;have e5:=b1 5 k5;have e6:=b1 6 k6;have e7:=b1 7 k7;have HQ:=Qh (HF.out false (by simp[k1,k2,k3,k4,k5,k6,k7]));clear b1 HF HX;go_in;go_wp2_with fail;go_ret;exact⟨by rw[HQ.out];rfl,HK.out⟩
theorem xN{P:Program}(w:World){ops:Array Oper}{rest:List Oper}{o:Oper}{a:Act}{Q:Exit->Act->World->Prop}(hgd:o.guard=none)(s x:Operand)(t:TypeId)
  (ho:o.op=.call {callee:=.builtin .append,args:=#[s,x],argTypes:=#[t,t]})
  (base:Nat)(e:TypeId)(i:TypeInfo)(z:Value)(size bytes:Nat)(ht:P.underlying t=some (.slice e))(hi:P.info? e=some i)(hz:i.zero=some z)
  (hsize:i.size=size)(hby:i.bytes=bytes)(hzs:z.cells.size=size)(hsz:0<size)
  (v:Value)(n:Nat)(xs:List Value)(hs:a.eval s=v)(hown:w.ownsRow base e size v n xs)
  (m:Nat)(news:List Value)(oa:Option Addr)(c:Nat)(hx:a.eval x=.slice oa m c)(hl:news.length=m*size)(hnews:z0Z w oa news)(h1:∀u∈news,u.oneCell'=true)
  (hc:oa=none->c=0)(h63:n+m<=maxLen)(hbytes:(n+m)*bytes<=140737488355328)(hbase:base<=w.heap.size)
  (h:∀v' w',w'.ownsRow base e size v' (n+m) (xs++news)->w.grownBy w' v.ownBlock->(v'.ownBlock=v.ownBlock\/v'.ownBlock=some w.heap.size)->wpList P ops Q rest (a.put o.dst v') w'):
  wpList P ops Q (o::rest) a w:=by
 cases oa with
 |some ad=>
  refine wpList_append_own_at (P:=P) w hgd s x t ho base e i z size bytes ht hi hz hsize hby hzs hsz v n xs hs hown ad m c news hx hl ?_ h1 h63 hbytes hbase fun v' w' h2 h3 _ h5=>h v' w' h2 h3 h5;intro j u hj;obtain⟨g,f,e1,e2,-⟩:=hnews j (List.getElem?_eq_some_iff.1 hj).1;cases e1;rw[qg,e2,hj]
 |none=>
  have hn0:news=[]:=by
   cases news with
   |nil=>rfl
   |cons y r=>obtain⟨_,_,e1,_⟩:=hnews 0 (by simp);cases e1
  subst hn0;have hm0:m=0:=by
   rcases Nat.eq_zero_or_pos m with h|h
   ·exact h
   ·have:=Nat.mul_pos h hsz;simp at hl;omega
  subst hm0;rw[hc rfl]at hx;refine wpList_plain hgd fun K hK=>?_;have hr:=run_append_owned_none (P:=P) (w:=w) base t o.type e i size ht hi v n xs hown;unfold Oper.wp execOp;simp only[ho,resolve,invoke,builtin,Sem.run_bind,Sem.run_pure,Result.andThen_ok,List.map_toArray,List.map_cons,List.map_nil,hs,hx,hr];refine hK _ _ (h v w ?_ ?_ (Or.inl rfl))
  ·rw[List.append_nil];exact hown
  ·exact⟨rfl,rfl,rfl,Nat.le_refl _,fun _ _ _=>rfl⟩
theorem z2g{w w':World}(h:w.grownBy w' (Value.slice none 0 0).ownBlock):Keep (fun _=>False) w w':=⟨h.os,h.tape,h.output,h.size,fun i hi _=>h.block i hi (by simp[Value.ownBlock])⟩
theorem z3J{w w':World}{b:Nat}{o:Obj}(h:w.grownBy w' (Value.slice none 0 0).ownBlock)(hb:w.heap[b]?=some o):w'.heap[b]?=some o:=(z2g h).same hb id
def z0a(es:List ME):List Fault:=es.flatMap fun e=>e.fs
def yY(p:Play):Bool:=(p.faults++p.ends.flatMap (fun e=>e.faults)).all (fun f=>decide (zn f.kind≠[]))&&p.tasks.all (fun l=>l.all zE)
theorem zdE(A B:List Fault):fsv (A++B)=fsv A++fsv B:=by simp[fsv]
theorem z8K{A:List Fault}:∀u∈fsv A,u.oneCell'=true:=by intro u hu;obtain⟨f,-,h⟩:=List.mem_flatMap.1 hu;simp[qH]at h;rcases h with rfl|rfl|rfl<;>rfl
theorem zeU:∃i z,Tryz.prog.info? 114=some i/\i.zero=some z/\i.size=3/\i.bytes=24/\z.cells.size=3:=by have h:(Tryz.prog.info? 114).map (fun i=>(i.zero,i.size,i.bytes))=some (some (.agg #[.int .i64 0,.int .i64 0,.int .i64 0]),3,24):=(by kernel_rfl);obtain⟨i,h1,h2,h3,h4⟩:=info_parts h;exact⟨i,_,h1,h2,h3,h4,rfl⟩
theorem z2j:∀(l:List ME),(∀e∈l,e.fs.length<=64)->(z0a l).length<=64*l.length
 |[],_=>by simp[z0a]
 |e::l,h=>by
  have h1:=z2j l fun x hx=>h x (List.mem_cons_of_mem _ hx);have h2:=h e (by simp);unfold z0a at h1⊢
  rw[List.flatMap_cons,List.length_append,List.length_cons];omega
theorem z1S{w w2:World}{base sz n:Nat}{e:TypeId}{v:Value}{xs:List Value}{o:Obj}(h:w.ownsRow base e sz v n xs)(hg:(w.alloc o).grownBy w2 v.ownBlock):Keep (fun g=>base<=g) w w2:=
 ((Keep.refl (fun g=>base<=g) w).alloc o).trans ((zp hg).mono fun g _ hv=>by
  rcases h.2 with⟨h1,-⟩|⟨g2,c2,cur,h1,h2,-⟩
  ·rw[h1]at hv;cases hv
  ·rw[h1]at hv;cases hv;exact h2)
theorem z9T(m:M)(w:World)(h:Seen w m)(hb:m.fs.length<=64/\m.ts.length<=16/\(∀t∈m.ts,t.l.length<=256)/\m.es.length<=16/\∀e∈m.es,e.fs.length<=64):
  Calls Tryz.prog 29 #[.agg m.val] w fun e w'=>e=.returned (.bool (yY m.play))/\Keep (fun _=>False) w w':=by
 obtain⟨o1,c1,hv1,-,hcs1,hcn1⟩:=h.fs;obtain⟨o2,c2,hv2⟩:=h.ts.val;obtain⟨o3,c3,hv3⟩:=h.ps.val;obtain⟨o4,c4,hv4⟩:=h.es.val;obtain⟨n1,hn1⟩:=Qx m.fs.length;obtain⟨n2,hn2⟩:=Qx m.ts.length;obtain⟨n3,hn3⟩:=Qx m.ps.length;obtain⟨n4,hn4⟩:=Qx m.es.length;have HM:=Qh (show yY m.play=((m.fs++z0a m.es).all (fun f=>decide (zn f.kind≠[]))&&m.ts.all (fun t=>t.l.all (fun c=>zE c.c)))from by
  unfold yY z0a;simp[M.play,List.flatMap_map,List.all_map,Function.comp_def,ME.reopen])
 unfold M.val;rw[hv1,hv2,hv3,hv4,hn1,hn2,hn3,hn4];have HH:=Qh (Qa h (Qa hn2 (Qa hn4 (Qa hv2 (Qa hv4 (Qa hn1 hb))))));have HC1:=Qh (Qa hcs1 hcn1);have hb1:n1<=64:=(by rw[<-hn1];exact hb.1);have hb2:n2<=16:=(by rw[<-hn2];exact hb.2.1);have hb4:n4<=16:=(by rw[<-hn4];exact hb.2.2.2.1);clear h hv1 hv2 hv3 hv4 hn1 hn2 hn3 hn4 hcs1 hcn1 hb;obtain⟨i0,z0,hi0,hz0,hz1,hz2,hz3⟩:=zeU;have HI:=Qh (Qa hi0 (Qa hz0 (Qa hz1 (Qa hz2 hz3))));clear hi0 hz0 hz1 hz2 hz3;go_in;obtain⟨W,hW⟩:∃W,w.alloc (.cells #[.int .i64 m.disk,.int .i64 m.segMax,.int .i64 m.base,.int .i64 m.qcap,.int .i64 m.qbytes,.int .i64 m.pmost,.int .i64 m.pbytes,.float .f64 m.linger,.float .f64 m.alpha,.slice o1 n1 c1,.slice o2 n2 c2,.slice o3 n3 c3,.int .i64 m.most,.slice o4 n4 c4] 40)=W:=⟨_,rfl⟩;have kW:Keep (fun _=>False) w W:=(by rw[<-hW];exact(Keep.refl _ w).alloc _);have bW:W.heap[w.heap.size]?=some (.cells #[.int .i64 m.disk,.int .i64 m.segMax,.int .i64 m.base,.int .i64 m.qcap,.int .i64 m.qbytes,.int .i64 m.pmost,.int .i64 m.pbytes,.float .f64 m.linger,.float .f64 m.alpha,.slice o1 n1 c1,.slice o2 n2 c2,.slice o3 n3 c3,.int .i64 m.most,.slice o4 n4 c4] 40 (0,0)):=(by rw[<-hW];exact zm _ _);have sW:W.heap.size=w.heap.size+1:=(by rw[<-hW];simp);have HW:=Qh (Qa kW (Qa bW sW));have cw9:=za bW 9;simp at cw9;clear kW bW sW;go_wp2_with(at_builtin;refine xN W rfl (.const (.slice none 0 0)) (.tmp 13) 35 rfl (w.heap.size+1) 114 i0 z0 3 24 Tryz.underlying35 HI.1 HI.2.1 HI.2.2.1 HI.2.2.2.1 HI.2.2.2.2 (by decide) (.slice none 0 0) 0 [] rfl (yi _ _ _ _) n1 (fsv m.fs) o1 c1 rfl (by unfold fsv;rw[zB _ 3 (fun _=>rfl),HH.2.2.2.2.2.1,Nat.mul_comm]) (HC1.1.kept HW.1) z8K HC1.2 (by unfold maxLen;omega) (by omega) (by rw[HW.2.2];exact Nat.le_refl _) ?_;intro v1 w1 hrow hgr _;have k1:=HW.1.trans (z2g hgr);have b1:=z3J hgr HW.2.1;have H1:=Qh (Qa hrow (Qa k1 b1));have cc13:=za b1 13;simp at cc13;clear hrow hgr k1 b1);go_loopg[3,5,18] n4 (fun gq s3 s5 s18 wr=>∃k:Nat,gq+k=n4/\s18=.int .i64 (k:Int)/\Hid (∃L,L=(m.fs++z0a (m.es.take k)).length/\wr.ownsRow (w.heap.size+1) 114 3 s3 L (fsv (m.fs++z0a (m.es.take k)))/\Keep (fun _=>False) w wr/\wr.heap[w.heap.size]?=W.heap[w.heap.size]?))
 case atStart=>exact⟨0,by omega,rfl,n1,by rw[<-HH.2.2.2.2.2.1];simp[z0a],by simpa[z0a]using H1.1,H1.2.1,by rw[H1.2.2,HW.2.1]⟩
 case round=>
  obtain⟨k,hgk,rfl,HK⟩:=hrel;obtain⟨L,hL,hrow,hkp,hbw⟩:=HK;have HK:=Qh (Qa hL (Qa hrow (Qa hkp hbw)));by_cases hk:k<n4
  ·have hkI:(k:Int)<(n4:Int):=by omega
   have hk0:(0:Int)<=(k:Int):=(by omega);have hkl:k<m.es.length:=(by rw[HH.2.2.1];exact hk);obtain⟨o',c',e',-,hcs,-⟩:=HH.1.es;rw[HH.2.2.2.2.1]at e';cases e';obtain⟨g,f,rfl,hgl⟩:=hcs.some (by rw[zB _ 3 (fun _=>rfl)];omega);have he:=HH.1.ends _ (List.getElem_mem hkl);have hcs2:=hcs.kept hkp;have d0:=hcs2.get 3 (fun _=>rfl) (List.getElem?_eq_getElem hkl) 0 (by omega);have d1:=hcs2.get 3 (fun _=>rfl) (List.getElem?_eq_getElem hkl) 1 (by omega);have d2:=hcs2.get 3 (fun _=>rfl) (List.getElem?_eq_getElem hkl) 2 (by omega);unfold ME.cells at d0 d1 d2;simp at d0 d1 d2;obtain⟨o5,c5,hv5⟩:=he.keeps.val;obtain⟨o6,c6,hv6,-,hcs6,hcn6⟩:=he.faults;obtain⟨n6,hn6⟩:=Qx ((m.es[k]).fs.length);have hb6:n6<=64:=(by rw[<-hn6];exact HH.2.2.2.2.2.2.2.2.2.2 _ (List.getElem_mem hkl));rw[hv5]at d1;rw[hv6,hn6]at d2;have htk:m.es.take (k+1)=m.es.take k++[m.es[k]]:=(by rw[List.take_add_one,List.getElem?_eq_getElem hkl];rfl);have hap:m.fs++z0a (m.es.take (k+1))=(m.fs++z0a (m.es.take k))++(m.es[k]).fs:=(by rw[htk];unfold z0a;rw[List.flatMap_append];simp only[List.flatMap_cons,List.flatMap_nil,List.append_nil,List.append_assoc]);have HS:=Qh (Qa hap (Qa hcs6 (Qa hcn6 hn6)));have hLb:L<=64+64*16:=(by have h1:=z2j (m.es.take k) (fun e he=>HH.2.2.2.2.2.2.2.2.2.2 e (List.mem_of_mem_take he));have h2:=HH.2.2.2.2.2.1;rw[hL,List.length_append];rw[List.length_take]at h1;omega);clear hcs hcs2 he hv5 hv6 htk hap hcs6 hcn6 hL hrow hkp hbw hn6;generalize(m.es[k]).ks.length=n5 at*
   generalize(m.es[k]).dir=dr at*
   (go_wp2_with(at_builtin;refine xN _ rfl (.tmp 22) (.tmp 24) 35 rfl (w.heap.size+1) 114 i0 z0 3 24 Tryz.underlying35 HI.1 HI.2.1 HI.2.2.1 HI.2.2.2.1 HI.2.2.2.2 (by decide) u3 L _ rfl (zf HK.2.1 ((Keep.refl (fun _=>False) wr).alloc _) fun _ _=>id) n6 (fsv (m.es[k]).fs) o6 c6 rfl (by unfold fsv;rw[zB _ 3 (fun _=>rfl),HS.2.2.2,Nat.mul_comm]) (HS.2.1.kept (HK.2.2.1.alloc _)) z8K HS.2.2.1 (by unfold maxLen;omega) (by omega) (by have:=lt_of_block (HK.2.2.2.trans HW.2.1);simp;omega) ?_;intro v2 w2 hrow hgr _;have hr2:=z1S HK.2.1 hgr;have H2:=Qh (Qa hrow hr2);clear hrow hgr hr2);go_roundg(gk-1);all_goals first|omega|skip);refine⟨k+1,by omega,by simp,L+n6,?_,?_,HK.2.2.1.own H2.2 (fun i hi=>Or.inr (by omega)),?_⟩
   ·rw[HS.1,List.length_append,HS.2.2.2,HK.1]
   ·rw[HS.1,zdE];exact H2.1
   ·exact(H2.2.block _ (lt_of_block (HK.2.2.2.trans HW.2.1)) (by omega)).trans HK.2.2.2
  ·obtain rfl:k=n4:=by omega
   have hkI:¬(k:Int)<(k:Int):=(by omega);have htk:m.es.take k=m.es:=List.take_of_length_le (by rw[HH.2.2.1];exact Nat.le_refl _);rw[htk]at hL hrow;obtain⟨F,hF⟩:=Qx (m.fs++z0a m.es);rw[hF]at hL hrow;have HM2:=Qh (show yY m.play=(F.all (fun f=>decide (zn f.kind≠[]))&&m.ts.all (fun t=>t.l.all (fun c=>zE c.c)))from by rw[HM.out,hF]);obtain⟨o7,c7,hv7,-,hcs7,-⟩:=qp.of_row hrow;have hLb:L<=64+64*16:=(by have h1:=z2j m.es (fun e he=>HH.2.2.2.2.2.2.2.2.2.2 e he);have h2:=HH.2.2.2.2.2.1;have h3:=HH.2.2.1;rw[hL,<-hF,List.length_append];omega);have cw10:wr.cell? ⟨w.heap.size,10,none⟩=some (.slice o2 n2 c2):=(by rw[World.cell?_of_block hbw,za HW.2.1 10];rfl);have HF:=Qh (Qa hL (Qa hcs7 (Qa hkp (Qa cw10 (lt_of_block (hbw.trans HW.2.1))))));clear HK hL hrow hkp hbw htk hF hcs7 cw10 HM H1;generalize wr=wA at*
   go_wp2_with fail;go_loopg[7,29] L (fun gq s7 s29 wr2=>∃j:Nat,gq+j=L/\s29=.int .i64 (j:Int)/\Hid ((F.take j).all (fun f=>decide (zn f.kind≠[]))=true/\Keep (fun _=>False) wA wr2))
   case atStart=>exact⟨0,by omega,rfl,by simp,Keep.refl _ _⟩
   case round=>
    obtain⟨j,hgj,rfl,HJ⟩:=hrel;by_cases hj:j<L
    ·have hjI:(j:Int)<(L:Int):=by omega
     have hj0:(0:Int)<=(j:Int):=(by omega);have hjl:j<F.length:=(by rw[<-HF.1];exact hj);have hcs7:z0Z wA o7 (F.flatMap qH):=HF.2.1;obtain⟨g,f,rfl,hgl⟩:=hcs7.some (by rw[zB _ 3 (fun _=>rfl)];omega);have hcs2:=hcs7.kept HJ.2;have d0:=hcs2.get 3 (fun _=>rfl) (List.getElem?_eq_getElem hjl) 0 (by omega);have d1:=hcs2.get 3 (fun _=>rfl) (List.getElem?_eq_getElem hjl) 1 (by omega);have d2:=hcs2.get 3 (fun _=>rfl) (List.getElem?_eq_getElem hjl) 2 (by omega);unfold qH at d0 d1 d2;simp at d0 d1 d2;have htk:F.take (j+1)=F.take j++[F[j]]:=(by rw[List.take_add_one,List.getElem?_eq_getElem hjl];rfl);have HS:=Qh (show(F.take (j+1)).all (fun f=>decide (zn f.kind≠[]))=decide (zn (F[j]).kind≠[])from by rw[htk,List.all_append,HJ.1];simp);have HTK:=Qh (show F.all (fun f=>decide (zn f.kind≠[]))=(decide (zn (F[j]).kind≠[])&&(F.drop (j+1)).all (fun f=>decide (zn f.kind≠[])))from by
      rw[<-HS.out,<-List.all_append,List.take_append_drop])
     generalize(F[j]).kind=kd at*
     generalize(F[j]).at_=ka at*
     generalize(F[j]).part=kp at*
     have HFW:=Qh (fun W=>xd kd W);have HZ:=Qh (HJ.2.alloc (.cells #[.int .i64 ka,.int .i64 kd,.int .i64 kp] 114));clear hcs7 hcs2 htk;by_cases hw:zn kd=[]
     ·have HR:=Qh (show yY m.play=false from by rw[HM2.out,HTK.out,decide_eq_false (by simp[hw])];rfl);rw[hw]at HFW;have hs':(zc []).toList.isEmpty=true:=(by rw[ByteArray.toList_eq,ze];rfl);clear hw;go_wp2_with(go_at_call 59;refine(HFW.out _).mono ?_;rintro e w' ⟨rfl,rfl⟩);go_ret;exact⟨by rw[HR.out];rfl,HF.2.2.1.trans HZ.out⟩
     ·have HR:=Qh (show(F.take (j+1)).all (fun f=>decide (zn f.kind≠[]))=true from by rw[HS.out,decide_eq_true hw])
      have hs':(zc (zn kd)).toList.isEmpty=false:=by
       rw[ByteArray.toList_eq,ze];cases hq:zn kd with
       |nil=>exact absurd hq hw
       |cons a b=>rfl
      generalize zc (zn kd)=sw at*
      (clear hw;go_wp2_with(go_at_call 59;refine(HFW.out _).mono ?_;rintro e w' ⟨rfl,rfl⟩);go_roundg(gk-1);all_goals first|omega|skip);exact⟨j+1,by omega,by simp,HR.out,HZ.out⟩
    ·obtain rfl:j=L:=by omega
     have hjI:¬(j:Int)<(j:Int):=(by omega);have HM3:=Qh (show yY m.play=m.ts.all (fun t=>t.l.all (fun c=>zE c.c))from by
      have h:=HJ.1;rw[List.take_of_length_le (by rw[HF.1];exact Nat.le_refl _)]at h;rw[HM2.out,h];rfl)
     have cw10:wr.cell? ⟨w.heap.size,10,none⟩=some (.slice o2 n2 c2):=(HJ.2.cell (p:=⟨w.heap.size,10,none⟩) HF.2.2.2.2 id).trans HF.2.2.2.1;have HJ1:=Qh (HF.2.2.1.trans HJ.2);clear HJ HM2 HF;generalize wr=wB at*
     go_wp2_with fail;go_loopg[9,11,41] n2 (fun gq s9 s11 s41 wr2=>∃a:Nat,gq+a=n2/\s41=.int .i64 (a:Int)/\Hid ((m.ts.take a).all (fun t=>t.l.all (fun c=>zE c.c))=true/\Keep (fun _=>False) w wr2))
     case atStart=>exact⟨0,by omega,rfl,by simp,HJ1.out⟩
     case round=>
      obtain⟨a,hga,rfl,HA⟩:=hrel;obtain⟨G,hG⟩:=Qx gk;rw[hG]at hga;have HGG:=Qh hG;clear hG;by_cases ha:a<n2
      ·have haI:(a:Int)<(n2:Int):=by omega
       have ha0:(0:Int)<=(a:Int):=(by omega);have hal:a<m.ts.length:=(by rw[HH.2.1];exact ha);obtain⟨o',c',e',-,hcs,-⟩:=HH.1.ts;rw[HH.2.2.2.1]at e';cases e';obtain⟨g,f,rfl,hc,hl⟩:=hcs a (by simpa using hal);have ht:=HH.1.calls _ (List.getElem_mem hal);obtain⟨o5,c5,hv5,-,hcs5,-⟩:=ht.row;obtain⟨n5,hn5⟩:=Qx ((m.ts[a]).l.length);have hb5:n5<=256:=(by rw[<-hn5];exact HH.2.2.2.2.2.2.2.2.1 _ (List.getElem_mem hal));have cg:wr.cell? ⟨g,f+a,none⟩=some (.slice o5 n5 c5):=(by rw[(HA.2.cell (p:=⟨g,f+a,none⟩) hl id).trans hc,List.getElem?_map,List.getElem?_eq_getElem hal,<-hn5,<-hv5];rfl);have htk:m.ts.take (a+1)=m.ts.take a++[m.ts[a]]:=(by rw[List.take_add_one,List.getElem?_eq_getElem hal];rfl);obtain⟨tl,htl⟩:=Qx ((m.ts[a]).l);have HS:=Qh (show(m.ts.take (a+1)).all (fun t=>t.l.all (fun c=>zE c.c))=tl.all (fun c=>zE c.c)from by rw[htk,List.all_append,HA.1,<-htl];simp);have HTK:=Qh (show m.ts.all (fun t=>t.l.all (fun c=>zE c.c))=(tl.all (fun c=>zE c.c)&&(m.ts.drop (a+1)).all (fun t=>t.l.all (fun c=>zE c.c)))from by
        rw[<-HS.out,<-List.all_append,List.take_append_drop])
       have HT:=Qh (Qa (show z0Z w o5 (tl.flatMap MC.cells)from by rw[<-htl];exact hcs5) (Qa (show tl.length=n5 from by rw[<-htl];exact hn5) (show ∀c∈tl,qp w c.d c.c.data.length (u8v c.c.data)from by rw[<-htl];exact ht.data)));have HA1:=Qh HA.2;clear hc hcs ht hv5 htk hal hn5 htl hcs5 HA;generalize wr=wC at*
       go_wp2_with fail;go_loopg[11,47] n5 (fun gq s11 s47 wr2=>∃b:Nat,gq+b=n5/\s47=.int .i64 (b:Int)/\Hid ((tl.take b).all (fun c=>zE c.c)=true/\Keep (fun _=>False) w wr2))
       case atStart=>exact⟨0,by omega,rfl,by simp,HA1.out⟩
       case round=>
        obtain⟨b,hgb,rfl,HB⟩:=hrel;by_cases hbb:b<n5
        ·have hbI:(b:Int)<(n5:Int):=by omega
         have hb0:(0:Int)<=(b:Int):=(by omega);have hbl:b<tl.length:=(by rw[HT.2.1];exact hbb);obtain⟨g2,f2,rfl,hgl⟩:=HT.1.some (by rw[zB _ 3 (fun _=>rfl)];omega);have hcs2:=HT.1.kept HB.2;have d0:=hcs2.get 3 (fun _=>rfl) (List.getElem?_eq_getElem hbl) 0 (by omega);have d1:=hcs2.get 3 (fun _=>rfl) (List.getElem?_eq_getElem hbl) 1 (by omega);have d2:=hcs2.get 3 (fun _=>rfl) (List.getElem?_eq_getElem hbl) 2 (by omega);unfold MC.cells at d0 d1 d2;simp at d0 d1 d2;have hdd:=HT.2.2 _ (List.getElem_mem hbl);have htk:tl.take (b+1)=tl.take b++[tl[b]]:=(by rw[List.take_add_one,List.getElem?_eq_getElem hbl];rfl);obtain⟨c,hcc⟩:=Qx (tl[b]);have HS2:=Qh (show(tl.take (b+1)).all (fun c=>zE c.c)=zE c.c from by rw[htk,List.all_append,HB.1,hcc];simp);have HTK2:=Qh (show tl.all (fun c=>zE c.c)=(zE c.c&&(tl.drop (b+1)).all (fun c=>zE c.c))from by
          rw[<-HS2.out,<-List.all_append,List.take_append_drop])
         rw[hcc]at d0 d1 d2 hdd;obtain⟨oD,cD,hvD⟩:=hdd.val;rw[hvD]at d2;obtain⟨nD,hnD⟩:=Qx c.c.data.length;rw[hnD]at d2;obtain⟨ck,hck⟩:=Qx c.c.kind;obtain⟨cl,hcl⟩:=Qx c.c.lsn;have HRT:=Qh (fun W (k:Keep (fun _=>False) w W)=>z03 c W (hdd.kept k));rw[hvD,hnD,hck,hcl]at HRT;rw[hck]at d0;rw[hcl]at d1;have HZ:=Qh (HB.2.alloc (.cells #[.int .i64 ck,.int .i64 cl,.slice oD nD cD] 76));clear hcs2 htk hdd hvD hnD hcc hbl hck hcl;cases hr:zE c.c with
         |false=>
          rw[hr]at HRT;have HR:=Qh (show yY m.play=false from by rw[HM3.out,HTK.out,HTK2.out,hr];rfl);clear hr;go_wp2_with(go_at_call 60;refine(HRT.out _ HZ.out).mono ?_;rintro e w' ⟨rfl,k5⟩;have HK5:=Qh k5;clear k5);go_ret;exact⟨by rw[HR.out];rfl,HZ.trans HK5.out⟩
         |true=>
          (rw[hr]at HRT;have HR:=Qh (show(tl.take (b+1)).all (fun c=>zE c.c)=true from by rw[HS2.out,hr]);clear hr;go_wp2_with(go_at_call 60;refine(HRT.out _ HZ.out).mono ?_;rintro e w' ⟨rfl,k5⟩;have HK5:=Qh k5;clear k5);go_roundg(gk-1);all_goals first|omega|skip);exact⟨b+1,by omega,by simp,HR.out,HZ.trans HK5.out⟩
        ·obtain rfl:b=n5:=by omega
         have hbI:¬(b:Int)<(b:Int):=(by omega);have HR:=Qh (show(m.ts.take (a+1)).all (fun t=>t.l.all (fun c=>zE c.c))=true from by
          have h:=HB.1;rw[List.take_of_length_le (by rw[HT.2.1];exact Nat.le_refl _)]at h;rw[HS.out,h])
         (have HB1:=Qh HB.2;clear HB;go_wp2_with fail;have hG:=HGG.out;go_roundg(G-1);all_goals first|omega|skip);exact⟨a+1,by omega,by simp,HR.out,HB1.out⟩
      ·obtain rfl:a=n2:=by omega
       have haI:¬(a:Int)<(a:Int):=(by omega);have HR:=Qh (show yY m.play=true from by
        have h:=HA.1;rw[List.take_of_length_le (by rw[HH.2.1];exact Nat.le_refl _)]at h;rw[HM3.out,h])
       have HA1:=Qh HA.2;clear HA;go_wp2_with fail;go_ret;exact⟨by rw[HR.out];rfl,HA1.out⟩
def z5p(f:Fault):Str:=ye [[102,97,117,108,116],zl f.at_,zn f.kind,zl f.part]
def zM(l:List Fault):Str:=l.flatMap z5p
def xu(f:Fault):Prop:=IsI f.at_/\IsI f.part
theorem zj{w w':World}{a:Addr}{u:Value}(k:Keep (fun _=>False) w w')(h:w.cell? a=some u):w'.cell? a=some u:=by have hl:a.block<w.heap.size:=World.block_lt_of_cell? w a h;exact(k.cell (p:=a) hl id).trans h
theorem z16(w:World)(ws:List Str):qh (w.alloc (.cells (ws.map qE).toArray 9)) (some ⟨w.heap.size,0,none⟩) ws:=fun i hi=>by refine⟨w.heap.size,0,rfl,?_,by simp⟩;rw[za (zm w _) (0+i)];simp[List.getElem?_map,List.getElem?_eq_getElem hi,List.getD_eq_getElem?_getD]
theorem Pr.past{w:World}{own:Nat->Option T}{xb:Nat}{v:Value}{B:Str}(h:Pr w own xb v B){g:Nat}(hg:w.heap.size<=g):own g=none:=by
 cases hq:own g with
 |none=>rfl
 |some t=>have:=h.low g (by rw[hq];simp);omega
theorem z7D{w w':World}{own:Nat->Option T}{xb q:Nat}{B:Str}{u0 u1 u2:Value}(h:z3M w own xb B w')(hq:own q=none)(hc:w.cell? ⟨q,0,none⟩=some u0/\w.cell? ⟨q,1,none⟩=some u1/\w.cell? ⟨q,2,none⟩=some u2):
  z3M w own xb B w'/\w'.cell? ⟨q,0,none⟩=some u0/\w'.cell? ⟨q,1,none⟩=some u1/\w'.cell? ⟨q,2,none⟩=some u2:=by
 have H:=h;obtain⟨own',v',-,ht⟩:=h;have hl:q<w.heap.size:=World.block_lt_of_cell? w _ hc.1;refine⟨H,?_,?_,?_⟩
 ·exact(ht.keep.cell (p:=⟨q,0,none⟩) hl (by rw[hq];simp)).trans hc.1
 ·exact(ht.keep.cell (p:=⟨q,1,none⟩) hl (by rw[hq];simp)).trans hc.2.1
 ·exact(ht.keep.cell (p:=⟨q,2,none⟩) hl (by rw[hq];simp)).trans hc.2.2
theorem qp.to{w w':World}{own own':Nat->Option T}{v:Value}{n:Nat}{xs:List Value}(h:qp w v n xs)(t:To own own' w w')(hf:0<xs.length->∀o cap n,v=.slice (some o) n cap->own o.block=none):qp w' v n xs/\(0<xs.length->∀o cap n,v=.slice (some o) n cap->own' o.block=none):=by
 obtain⟨o,cap,rfl,h1,h2,h3⟩:=h;refine⟨⟨o,cap,rfl,h1,fun i hi=>?_,h3⟩,fun hx o' cap' n' e=>?_⟩
 ·obtain⟨g,f,rfl,hc,hl⟩:=h2 i hi;exact⟨g,f,rfl,(t.keep.cell (p:=⟨g,f+i,none⟩) hl (by rw[hf (by omega) _ _ _ rfl];simp)).trans hc,Nat.lt_of_lt_of_le hl t.keep.size⟩
 ·cases e;obtain⟨g,f,e,hc,hl⟩:=h2 0 hx;cases e;exact t.old g hl (hf hx _ _ _ rfl)
theorem z2x{w:World}{own:Nat->Option T}{xb:Nat}{v:Value}{B:Str}(N0:Nat)(fv:Value)(fs:List Fault)(h:Pr w own xb v B)(hE:Ev N0 w)(hlow:∀g,own g≠none->N0<=g)(hfs:qp w fv fs.length (fsv fs))(hfree:0<fs.length->∀o cap n,fv=.slice (some o) n cap->own o.block=none)(hok:∀f∈fs,xu f)(hn:fs.length<=1073741824)(hb:(B++zM fs).length<=1099511627776):
  Calls Tryz.prog 65 #[.pointer (some ⟨xb,0,none⟩),fv] w fun e w'=>e=.returned (.tuple #[])/\z3M w own xb (B++zM fs) w':=by
 obtain⟨o1,c1,rfl,-,hcs,-⟩:=hfs;obtain⟨n,hN⟩:=Qx fs.length;have HH:=Qh (Qa h (Qa hE (Qa hlow (Qa hcs (Qa hfree (Qa hok (Qa hN hb)))))));rw[hN]at hn⊢
 clear h hE hlow hcs hfree hok hN hb;go_in;go_wp2_with fail;go_loopg[5,8] n (fun gq s5 s8 wr=>∃k:Nat,gq+k=n/\s8=.int .i64 (k:Int)/\Hid (∃own' v',Pr wr own' xb v' (B++zM (fs.take k))/\To own own' w wr))
 case atStart=>exact⟨0,by omega,rfl,own,v,by simpa[zM]using HH.1,To.refl _ _⟩
 case round=>
  obtain⟨k,hgk,rfl,HK⟩:=hrel;obtain⟨own',v',hp,hto⟩:=HK;by_cases hk:k<n
  ·have hkI:(k:Int)<(n:Int):=by omega
   have hk0:(0:Int)<=(k:Int):=(by omega);have hkl:k<fs.length:=(by rw[HH.2.2.2.2.2.2.1];exact hk);obtain⟨g,f,rfl,hgl⟩:=HH.2.2.2.1.some (by unfold fsv;rw[zB _ 3 (fun _=>rfl)];omega);have hgo:own g=none:=HH.2.2.2.2.1 (by omega) ⟨g,f,none⟩ _ _ rfl;have hcs2:z0Z wr (some ⟨g,f,none⟩) (fs.flatMap qH):=fun i hi=>(by obtain⟨g',f',e,h1,h2⟩:=HH.2.2.2.1 i hi;cases e;exact⟨g,f,rfl,(hto.keep.cell (p:=⟨g,f+i,none⟩) hgl (by rw[hgo];simp)).trans h1,Nat.lt_of_lt_of_le hgl hto.keep.size⟩);have d0:=hcs2.get 3 (fun _=>rfl) (List.getElem?_eq_getElem hkl) 0 (by omega);have d1:=hcs2.get 3 (fun _=>rfl) (List.getElem?_eq_getElem hkl) 1 (by omega);have d2:=hcs2.get 3 (fun _=>rfl) (List.getElem?_eq_getElem hkl) 2 (by omega);unfold qH at d0 d1 d2;simp at d0 d1 d2;have hfo:=HH.2.2.2.2.2.1 _ (List.getElem_mem hkl);have htk:fs.take (k+1)=fs.take k++[fs[k]]:=(by rw[List.take_add_one,List.getElem?_eq_getElem hkl];rfl);have hsn:zM (fs.take (k+1))=zM (fs.take k)++z5p fs[k]:=(by rw[htk];unfold zM;rw[List.flatMap_append];simp only[List.flatMap_cons,List.flatMap_nil,List.append_nil]);have hle:(B++zM (fs.take (k+1))).length<=1099511627776:=by
    have h1:=HH.2.2.2.2.2.2.2;have h2:zM fs=zM (fs.take (k+1))++zM (fs.drop (k+1)):=(by unfold zM;rw[<-List.flatMap_append,List.take_append_drop]);rw[h2]at h1;simp only[List.length_append]at h1⊢
    omega
   unfold z5p at hsn;unfold xu at hfo;generalize(fs[k]).kind=kd at*
   generalize(fs[k]).at_=ka at*
   generalize(fs[k]).part=kp at*
   have HD1:=Qh (fun W hE=>z2m ka N0 W hE hfo.1);have HD2:=Qh (fun W hE=>z0W kp N0 W hE hfo.2);have HFW:=Qh (fun W=>xd kd W);have hev:Ev N0 wr:=HH.2.1.on (hto.keep.below HH.2.1.le HH.2.2.1);obtain⟨W0,hW0⟩:∃W0,wr.alloc (.cells #[.int .i64 ka,.int .i64 kd,.int .i64 kp] 114)=W0:=⟨_,rfl⟩;obtain⟨q,hq⟩:=Qx wr.heap.size;have b0:W0.heap[q]?=some (.cells #[.int .i64 ka,.int .i64 kd,.int .i64 kp] 114 (0,0)):=(by rw[<-hW0,<-hq];exact zm _ _);have k0:Keep (fun _=>False) wr W0:=(by rw[<-hW0];exact(Keep.refl _ wr).alloc _);have HP:=Qh (Qa hp (Qa hto (Qa hsn (Qa hle (Qa hev k0)))));have HE0:=Qh (hev.kept k0.none);have e0:=za b0 0;have e1:=za b0 1;have e2:=za b0 2;simp at e0 e1 e2;clear hp hto hcs2 hgo hfo htk hsn hle hev k0 b0 hkl;have HNow:=Qh ((Keep.refl (fun _=>False) W0).drewN 1);obtain⟨s1,hs1⟩:=Qx (zl ka);obtain⟨s2,hs2⟩:=Qx (zn kd);obtain⟨s3,hs3⟩:=Qx (zl kp);rw[hs1]at HD1;rw[hs2]at HFW;rw[hs3]at HD2;have HSS:=Qh (Qa hs1 (Qa hs2 hs3));have HQ:=Qh hq;clear hs1 hs2 hs3;go_wp2_with fail;clear hq
   go_region_held3(fun W'=>W'.cell? ⟨q,0,none⟩=some (.int .i64 ka)/\W'.cell? ⟨q,1,none⟩=some (.int .i64 kd)/\W'.cell? ⟨q,2,none⟩=some (.int .i64 kp))
    (first
     |exact⟨zj HNow.out e0,zj HNow.out e1,zj HNow.out e2⟩
     |exact⟨zj (HNow.alloc _) e0,zj (HNow.alloc _) e1,zj (HNow.alloc _) e2⟩
     |exact HPut.2)
    (first
     |(go_at_call 63;refine(HD1.out _ (HE0.kept HNow.none)).mono ?_;rintro e w' ⟨rfl,kx⟩;have HNow:=Qh (HNow.trans kx);clear kx)
     |(go_at_call 59;refine(HFW.out _).mono ?_;rintro e w' ⟨rfl,hw⟩;obtain rfl:=hw)
     |(go_at_call 62;refine(HD2.out _ (HE0.kept HNow.none)).mono ?_;rintro e w' ⟨rfl,kx⟩;have HNow:=Qh (HNow.trans kx);clear kx)
     |(go_at_call 61;refine(xp _ 0 4 [[102,97,117,108,116],s1,s2,s3] (HP.1.kept ((HP.2.2.2.2.2.trans HNow.out).alloc _)) (z16 _ [[102,97,117,108,116],s1,s2,s3]) (HP.1.past ((HP.2.2.2.2.2.trans HNow.out).size)) (Nat.le_refl _) (by simp) (by rw[<-HSS.1,<-HSS.2.1,<-HSS.2.2,List.append_assoc,<-HP.2.2.1];exact HP.2.2.2.1)).mono ?_;rintro e w' ⟨rfl,hpt⟩;have HPut:=Qh (z7D hpt (HP.1.past (Nat.le_of_eq HQ.out)) ⟨zj (HNow.alloc _) e0,zj (HNow.alloc _) e1,zj (HNow.alloc _) e2⟩);have HNow:=Qh (HNow.alloc (.cells ([[102,97,117,108,116],s1,s2,s3].map qE).toArray 9));clear hpt))
   (all_goals go_wp2_with fail);go_roundg(gk-1)
   all_goals first|omega|skip
   case rel=>
    refine⟨k+1,by omega,by simp,?_⟩;obtain⟨own2,v2,h1,h2⟩:=HPut.1;refine⟨own2,v2,?_,(HP.2.1.trans (To.kept (HP.2.2.2.2.2.trans HNow.out))).trans h2⟩;rw[HP.2.2.1,HSS.1,HSS.2.1,HSS.2.2,<-List.append_assoc];exact h1
  ·obtain rfl:k=n:=(by omega);have hkI:¬(k:Int)<(k:Int):=(by omega);rw[List.take_of_length_le (by rw[HH.2.2.2.2.2.2.1];exact Nat.le_refl _)]at hp;have HP:=Qh (Qa hp hto);clear hp hto;go_wp2_with fail;go_end0;exact⟨rfl,own',v',HP.1,HP.2⟩
end Sc
end Go.Proofs.YtkkecpamnnojoaaGreatDoor
