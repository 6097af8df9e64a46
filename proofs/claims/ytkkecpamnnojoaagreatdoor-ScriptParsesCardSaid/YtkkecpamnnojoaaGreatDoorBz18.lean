/- A part of the proof of ScriptParses: nothing is assumed. By an AI agent. -/
import Derived.Deep.Strs
import Derived.Test.YtkkecpamnnojoaaGreatDoorBz17
set_option linter.unusedVariables false
set_option linter.unusedSimpArgs false
set_option maxRecDepth 100000
set_option maxHeartbeats 32000000
namespace Go.Proofs.YtkkecpamnnojoaaGreatDoor
open Go.ChangeShapes Go.WideShapes Go.ChangeAt Go.RowKit Go.Shelf
open Bt Dc By
namespace Sc
def yV(c:Call):Str:=
 if c.kind=1\/c.kind=2 then(if 65536<c.data.length then c.data else ye [zo c.kind,yB c.data])
 else if c.kind=3\/c.kind=7 then ye [zo c.kind]else ye [zo c.kind,zl c.lsn]
theorem z2a{w W w':World}{own:Nat->Option T}{xb:Nat}{B:Str}(k:Keep (fun _=>False) w W)(h:z3M W own xb B w'):z3M w own xb B w':=by obtain⟨own',v',h1,h2⟩:=h;exact⟨own',v',h1,(To.kept k).trans h2⟩
theorem zac{w:World}{g f:Nat}{xs:List Value}(h:z0Z w (some ⟨g,f,none⟩) xs):∀j u,xs[j]?=some u->w.cell? ((⟨g,f,none⟩:Addr).add j)=some u:=fun j u hj=>by obtain⟨g',f',e1,e2,-⟩:=h j (List.getElem?_eq_some_iff.1 hj).1;cases e1;rw[qg,e2,hj]
theorem zay{s:Str}:∀u∈u8v s,u.oneCell'=true:=by intro u hu;obtain⟨b,-,rfl⟩:=List.mem_map.1 hu;rfl
theorem z9D{w:World}{own:Nat->Option T}{xb:Nat}{v:Value}{B:Str}(N0:Nat)(c:MC)(h:Pr w own xb v B)(hE:Ev N0 w)(hlow:∀g,own g≠none->N0<=g)(hd:qp w c.d c.c.data.length (u8v c.c.data))(hok:IsI c.c.lsn)(hn:c.c.data.length<=1073741824)(hb:(B++yV c.c).length<=1099511627776):
    Calls Tryz.prog 66 #[.pointer (some ⟨xb,0,none⟩),.agg #[.int .i64 c.c.kind,.int .i64 c.c.lsn,c.d]] w fun e w'=>e=.returned (.tuple #[])/\z3M w own xb (B++yV c.c) w':=by
  obtain⟨oD,cD,hv,hcap,hcs,hcn⟩:=hd;obtain⟨k,hk⟩:=Qx c.c.kind;obtain⟨l,hl⟩:=Qx c.c.lsn;obtain⟨D,hD⟩:=Qx c.c.data;obtain⟨n,hN⟩:=Qx D.length;have hX:yV c.c=(if k=1\/k=2 then(if 65536<n then D else ye [zo k,yB D])else if k=3\/k=7 then ye [zo k]else ye [zo k,zl l]):=(by unfold yV;rw[hk,hl,hD,hN]);rw[hD]at hv hcap hcs hn;rw[hN]at hv hcap hn;rw[hX]at hb⊢
  rw[hv,hk,hl];rw[hl]at hok;have hfr:=True.intro;obtain⟨q,hq⟩:=Qx w.heap.size;obtain⟨W0,hW0⟩:∃W0,w.alloc (.cells #[.int .i64 k,.int .i64 l,.slice oD n cD] 76)=W0:=⟨_,rfl⟩;have b0:W0.heap[q]?=some (.cells #[.int .i64 k,.int .i64 l,.slice oD n cD] 76 (0,0)):=(by rw[<-hW0,<-hq];exact zm _ _);have k0:Keep (fun _=>False) w W0:=(by rw[<-hW0];exact(Keep.refl _ w).alloc _);have HH:=Qh (Qa h (Qa hE (Qa hlow (Qa hcs (Qa hfr (Qa hok (Qa hN (Qa k0 hcn))))))));have HE0:=Qh (hE.kept k0.none);have HQ:=Qh (h.past (Nat.le_of_eq hq));have hp0:=h.kept k0;have HP:=Qh hp0;have HW:=Qh (fun W=>z0q k W);have HB:=Qh hb;have e0:=za b0 0;have e1:=za b0 1;have e2:=za b0 2;simp at e0 e1 e2;clear h hE hlow hcs hfr hok hN k0 hp0 b0 hv hk hl hD hX hcn hb;have b1:∀j:Int,k≠j->(k==j)=false:=fun j h=>(by rw[beq_eq_false_iff_ne];exact h);by_cases h12:k=1\/k=2
  · rw[if_pos h12]at HB⊢
    by_cases hbig:65536<n
    · rw[if_pos hbig]at HB⊢
      have hb2:(65536:Int)<(n:Int):=(by omega);have c0:=za HP.blk 0;have f0:=zd HP.blk 0;simp at c0;obtain⟨o,p,hv⟩:=HP.row.len;have hrw:=HP.row.row;rw[hv]at hrw c0;obtain⟨L,hL⟩:=Qx B.length;have HL:=Qh hL;rw[hL]at hv hrw c0;have hsz:L+n<=1099511627776:=(by have:=HB.out;rw[List.length_append,hL,HH.2.2.2.2.2.2.1]at this;exact this);have HR:=Qh (Qa hrw (Qa hv hsz));obtain⟨g,f,rfl,hgl⟩:=HH.2.2.2.1.some (by rw[z0e,HH.2.2.2.2.2.2.1];omega);obtain⟨i0,hi0,hz0,hz1,hz2⟩:=z7U;clear hv hrw hL hsz hbig;rcases h12 with rfl|rfl
      all_goals
        clear b1;go_in;go_wp2_with(go_at_call 93;refine(HW.out _).mono ?_;rintro e w' ⟨rfl,hw⟩;obtain rfl:W0=w':=hw.symm);go_region_law(first
          |(refine zy rfl (.tmp 28) (.tmp 30) 53 rfl 0 5 i0 (.int .u8 0) 1 1 Tryz.underlying53 hi0 hz0 hz1 hz2 rfl (by decide) (.slice o L p) L (u8v B) rfl (zf HR.1 ((Keep.refl (fun _=>False) W0).drewN 1) fun _ _=>id) ⟨g,f,none⟩ n cD (u8v D) rfl (by rw[z0e,HH.2.2.2.2.2.2.1,Nat.mul_one]) (zac (HH.2.2.2.1.kept (HH.2.2.2.2.2.2.2.1.drewN 1))) zay (by have:=HR.2.2;unfold maxLen;omega) (by have:=HR.2.2;omega) (Nat.zero_le _) ?_;intro v4 w4 hown hgr hblk;rw[<-HH.2.2.2.2.2.2.1]at hown;rw[<-HR.2.1]at hgr hblk;obtain⟨o2,L2,p2,hv2,hm⟩:=z7L (HP.kept ((Keep.refl (fun _=>False) W0).drewN 1)) HL.out hown hgr (hblk.imp_right fun e=>⟨_,e,Nat.le_refl _⟩);have c4:=z7O (HP.kept ((Keep.refl (fun _=>False) W0).drewN 1)) hgr c0;have f4:=z7N (HP.kept ((Keep.refl (fun _=>False) W0).drewN 1)) hgr f0;have HM:=Qh hm;rw[hv2];clear hown hgr hblk hm hv2))
        (all_goals go_wp2_with fail);all_goals refine bodyPost_ret (results_none rfl _ _ _) rfl ?_
        all_goals exact⟨rfl,_,.slice o2 L2 p2,HM.1,(To.kept (HH.2.2.2.2.2.2.2.1.drewN 1)).trans HM.2.1⟩
    · rw[if_neg hbig]at HB⊢
      have hb2:¬(65536:Int)<(n:Int):=(by omega);have HPA:=Qh (fun W k=>z4t oD cD D W (HH.2.2.2.1.kept k) (by rw[HH.2.2.2.2.2.2.1];exact hn));rw[HH.2.2.2.2.2.2.1]at HPA;obtain⟨s1,hs1⟩:=Qx (zo k);obtain⟨s2,hs2⟩:=Qx (yB D);rw[hs1]at HW HB⊢
      rw[hs2]at HPA HB⊢
      have HNow:=Qh (Keep.refl (fun _=>False) W0);clear hbig hs1 hs2;rcases h12 with rfl|rfl
      all_goals
        clear b1;go_in;go_wp2_with(first
          |(go_at_call 93;refine(HW.out _).mono ?_;rintro e w' ⟨rfl,hw⟩;obtain rfl:W0=w':=hw.symm)
          |(go_at_call 94;refine(HPA.out _ (HH.2.2.2.2.2.2.2.1.trans HNow.out)).mono ?_;rintro e w' ⟨rfl,kx⟩;have HNow:=Qh (HNow.trans kx);clear kx)
          |(go_at_call 61;refine(xp _ 0 2 [s1,s2] (HP.kept (HNow.alloc _)) (z16 _ [s1,s2]) (HP.past HNow.size) (Nat.le_refl _) (by simp) (by skip;exact HB.out)).mono ?_;rintro e w' ⟨rfl,hpt⟩;have HPut:=Qh hpt;have HNow:=Qh (HNow.alloc (.cells ([s1,s2].map qE).toArray 9));clear hpt))
        go_end0;exact⟨rfl,z2a (HH.2.2.2.2.2.2.2.1.trans HNow.out) HPut.out⟩
  · rw[if_neg h12]at HB⊢
    have n1:k≠1:=fun e=>h12 (Or.inl e);have n2:k≠2:=fun e=>h12 (Or.inr e);have e1':=b1 1 n1;have e2':=b1 2 n2;obtain⟨s1,hs1⟩:=Qx (zo k);have HNow:=Qh (Keep.refl (fun _=>False) W0);by_cases h37:k=3\/k=7
    · rw[if_pos h37]at HB⊢
      rw[hs1]at HW HB⊢
      clear hs1 h12 n1 n2;rcases h37 with rfl|rfl
      all_goals
        clear b1 e1' e2';go_in;go_wp2_with(first
          |(go_at_call 93;refine(HW.out _).mono ?_;rintro e w' ⟨rfl,hw⟩;obtain rfl:W0=w':=hw.symm)
          |(go_at_call 61;refine(xp _ 0 1 [s1] (HP.kept (HNow.alloc _)) (z16 _ [s1]) (HP.past HNow.size) (Nat.le_refl _) (by simp) (by skip;exact HB.out)).mono ?_;rintro e w' ⟨rfl,hpt⟩;have HPut:=Qh hpt;have HNow:=Qh (HNow.alloc (.cells ([s1].map qE).toArray 9));clear hpt))
        go_end0;exact⟨rfl,z2a (HH.2.2.2.2.2.2.2.1.trans HNow.out) HPut.out⟩
    · rw[if_neg h37]at HB⊢
      have e3':=b1 3 (fun e=>h37 (Or.inl e));have e7':=b1 7 (fun e=>h37 (Or.inr e));have HDC:=Qh (fun W hE=>z2m l N0 W hE HH.2.2.2.2.2.1);obtain⟨s2,hs2⟩:=Qx (zl l);rw[hs1]at HW HB⊢
      rw[hs2]at HDC HB⊢
      clear hs1 hs2 h12 n1 n2 h37 b1;go_in;go_wp2_with(first
        |(go_at_call 93;refine(HW.out _).mono ?_;rintro e w' ⟨rfl,hw⟩;obtain rfl:W0=w':=hw.symm)
        |(go_at_call 63;refine(HDC.out _ (HE0.kept HNow.none)).mono ?_;rintro e w' ⟨rfl,kx⟩;have HNow:=Qh (HNow.trans kx);clear kx)
        |(go_at_call 61;refine(xp _ 0 2 [s1,s2] (HP.kept (HNow.alloc _)) (z16 _ [s1,s2]) (HP.past HNow.size) (Nat.le_refl _) (by simp) (by skip;exact HB.out)).mono ?_;rintro e w' ⟨rfl,hpt⟩;have HPut:=Qh hpt;have HNow:=Qh (HNow.alloc (.cells ([s1,s2].map qE).toArray 9));clear hpt))
      go_end0;exact⟨rfl,z2a (HH.2.2.2.2.2.2.2.1.trans HNow.out) HPut.out⟩
def yH(k:Kp):Str:=zl k.n++(if k.junk=[]then[]else 58::yB (k.junk.take 65536))
def xI(r:Reopen):Str:=ye ([101,110,100]::zl r.dir::r.keeps.map yH)++zM r.faults
def z3Q(r:Reopen):Prop:=IsI r.dir/\(∀k∈r.keeps,IsI k.n)/\∀f∈r.faults,xu f
theorem z3c(b:Str):(yB b).length<=2*b.length+1:=by
 unfold yB;split
 ·simp
 ·have:∀l:Str,(l.flatMap xC).length=2*l.length:=fun l=>by
   induction l with
   |nil=>rfl
   |cons c l ih=>rw[List.flatMap_cons,List.length_append,ih];simp[xC];omega
  rw[this];omega
theorem zaK(a b:Str):zc a++(⟨#[58]⟩++zc b)=zc (a++58::b):=by unfold zc;apply ByteArray.ext;simp[ByteArray.data_append]
theorem zab{w:World}{o:Option Addr}{s:Str}(h:z0Z w o (u8v s))(n:Nat):z0Z w o (u8v (s.take n)):=fun i hi=>by
 have e:u8v (s.take n)=(u8v s).take n:=(by unfold u8v;rw[List.map_take]);rw[e]at hi⊢
 rw[List.length_take]at hi;obtain⟨g,f,h1,h2,h3⟩:=h i (by omega);exact⟨g,f,h1,by rw[h2,List.getElem?_take_of_lt (by omega)],h3⟩
theorem z6d{w:World}{own:Nat->Option T}{xb:Nat}{v:Value}{B:Str}(N0:Nat)(e:ME)(h:Pr w own xb v B)(hE:Ev N0 w)(hlow:∀g,own g≠none->N0<=g)(he:EndS w e)
  (hfr:0<e.fs.length->∀o cap n,e.fv=.slice (some o) n cap->own o.block=none)(hok:z3Q e.reopen)(hn:e.ks.length<=256/\e.fs.length<=64/\∀k∈e.ks,k.k.junk.length<=1073741824)(hb:(B++xI e.reopen).length<=1099511627776):
  Calls Tryz.prog 67 #[.pointer (some ⟨xb,0,none⟩),.agg #[.int .i64 e.dir,e.kv,e.fv]] w fun r w'=>r=.returned (.tuple #[])/\z3M w own xb (B++xI e.reopen) w':=by
 obtain⟨o1,c1,hv1,-,hcs1,-⟩:=he.keeps;obtain⟨o2,c2,hv2⟩:=he.faults.val;obtain⟨n1,hn1⟩:=Qx e.ks.length;obtain⟨n2,hn2⟩:=Qx e.fs.length;have hb1:n1<=256:=(by rw[<-hn1];exact hn.1);have hb2:n2<=64:=(by rw[<-hn2];exact hn.2.1);obtain⟨dr,hdr⟩:=Qx e.dir;obtain⟨dS,hdS⟩:=Qx (zl dr);have HT:=Qh (show xI e.reopen=ye ([101,110,100]::dS::e.ks.map (fun k=>yH k.k))++zM e.fs from by
  unfold xI ME.reopen;rw[hdr,hdS];simp[Function.comp_def])
 obtain⟨q,hq⟩:=Qx w.heap.size;rw[hv1,hv2,hn1,hn2,hdr];obtain⟨W0,hW0⟩:∃W0,w.alloc (.cells #[.int .i64 dr,.slice o1 n1 c1,.slice o2 n2 c2] 82)=W0:=⟨_,rfl⟩;have b0:W0.heap[q]?=some (.cells #[.int .i64 dr,.slice o1 n1 c1,.slice o2 n2 c2] 82 (0,0)):=(by rw[<-hW0,<-hq];exact zm _ _);have k0:Keep (fun _=>False) w W0:=(by rw[<-hW0];exact(Keep.refl _ w).alloc _);have hs0:W0.heap.size=q+1:=(by rw[<-hW0,<-hq];simp);have hdk:IsI dr:=(by have:=hok.1;rw[<-hdr];exact this);have HD:=Qh (fun W hE=>z0W dr N0 W hE hdk);rw[hdS]at HD;have HH:=Qh (Qa h (Qa hE (Qa hlow (Qa he (Qa hok (Qa hcs1 (Qa hn1 (Qa hn2 (Qa k0 (Qa hs0 hn.2.2))))))))));have HV:=Qh (Qa (show e.fv=.slice o2 n2 c2 from by rw[hv2,hn2]) hfr);have HB:=Qh hb;have HE0:=Qh (hE.kept k0.none);have HB0:=Qh b0;have e0:=za b0 0;have e1:=za b0 1;have e2:=za b0 2;simp at e0 e1 e2;have HNow:=Qh (Keep.refl (fun _=>False) W0);clear h hE hlow he hok hcs1 hn1 hn2 k0 hs0 hb b0 hv1 hv2 hdk hn hdr hdS hfr;obtain⟨iS,hi0,hi1,hi2,hi3⟩:=z8G;have HI:=Qh (Qa hi0 (Qa hi1 (Qa hi2 hi3)));clear hi0 hi1 hi2 hi3;go_in;go_wp2_with(go_at_call 62;refine(HD.out _ (HE0.kept HNow.none)).mono ?_;rintro e' w' ⟨rfl,kx⟩;have HNow:=Qh ((HNow.trans kx).alloc (.cells #[.string ⟨#[101,110,100]⟩,.string (zc dS)] 9));have f1:=zj HNow.out e1;have f2:=zj HNow.out e2;have HR0:=Qh (z8o w' (q+1) 9 ([[101,110,100],dS].map qE) (by have:=kx.size;have:=HH.2.2.2.2.2.2.2.2.2.1;omega) (by unfold maxLen;simp));clear kx);go_loopg[4,6,7,17] n1 (fun gq s4 s6 s7 s17 wr=>∃k:Nat,gq+k=n1/\s17=.int .i64 (k:Int)/\Hid (wr.ownsRow (q+1) 9 1 s4 (k+2) (([101,110,100]::dS::(e.ks.take k).map (fun k=>yH k.k)).map qE)/\Keep (fun _=>False) W0 wr))
 case atStart=>exact⟨0,by omega,rfl,HR0.out,HNow.out⟩
 case round=>
  obtain⟨k,hgk,rfl,hrow,hkp⟩:=hrel;have HK:=Qh (Qa hrow hkp);by_cases hk:k<n1
  ·have hkI:(k:Int)<(n1:Int):=by omega
   have hk0:(0:Int)<=(k:Int):=(by omega);have hkl:k<e.ks.length:=(by rw[HH.2.2.2.2.2.2.1];exact hk);obtain⟨g,f,rfl,hgl⟩:=HH.2.2.2.2.2.1.some (by rw[zB _ 2 (fun _=>rfl)];omega);have hcs2:=HH.2.2.2.2.2.1.kept (HH.2.2.2.2.2.2.2.2.1.trans hkp);have d0:=hcs2.get 2 (fun _=>rfl) (List.getElem?_eq_getElem hkl) 0 (by omega);have d1:=hcs2.get 2 (fun _=>rfl) (List.getElem?_eq_getElem hkl) 1 (by omega);unfold MK.cells at d0 d1;simp at d0 d1;have hj:=HH.2.2.2.1.junk _ (List.getElem_mem hkl);have hjn:=HH.2.2.2.2.2.2.2.2.2.2 _ (List.getElem_mem hkl);have hok:=HH.2.2.2.2.1.2.1 _ (List.mem_map.2 ⟨_,List.getElem_mem hkl,rfl⟩);have htk:e.ks.take (k+1)=e.ks.take k++[e.ks[k]]:=(by rw[List.take_add_one,List.getElem?_eq_getElem hkl];rfl);have hsn:[101,110,100]::dS::(e.ks.take (k+1)).map (fun k=>yH k.k)=([101,110,100]::dS::(e.ks.take k).map (fun k=>yH k.k))++[yH (e.ks[k]).k]:=(by rw[htk];simp only[List.map_append,List.map_cons,List.map_nil,List.cons_append]);obtain⟨o3,c3,hv3,hcap3,hcs3,-⟩:=hj;obtain⟨kp,hkp2⟩:=Qx ((e.ks[k]).k);rw[hkp2]at hok hv3 hcap3 hcs3 hjn hsn d0;rw[hv3]at d1;obtain⟨nj,hnj⟩:=Qx kp.n;obtain⟨J,hJ⟩:=Qx kp.junk;obtain⟨m,hm⟩:=Qx J.length;obtain⟨sN,hsN⟩:=Qx (zl nj);have hkT:yH kp=sN++(if J=[]then[]else 58::yB (J.take 65536)):=(by unfold yH;rw[hnj,hJ,hsN]);rw[hnj]at hok d0;rw[hJ]at hcap3 hcs3 hjn d1;rw[hm]at hcap3 hjn d1;have HD2:=Qh (fun W hE=>z0W nj N0 W hE hok);rw[hsN]at HD2;have HS:=Qh (Qa hsn (Qa hcs3 (Qa hcap3 (Qa hm hkT))));obtain⟨q2,hq2⟩:=Qx wr.heap.size;obtain⟨W1,hW1⟩:∃W1,wr.alloc (.cells #[.int .i64 nj,.slice o3 m c3] 84)=W1:=⟨_,rfl⟩;have b1:W1.heap[q2]?=some (.cells #[.int .i64 nj,.slice o3 m c3] 84 (0,0)):=(by rw[<-hW1,<-hq2];exact zm _ _);have k1:Keep (fun _=>False) wr W1:=(by rw[<-hW1];exact(Keep.refl _ wr).alloc _);have HK1:=Qh k1;have x0:=za b1 0;have x1:=za b1 1;simp at x0 x1;have HN1:=Qh (Keep.refl (fun _=>False) W1);have hev1:=Qh (HE0.kept (hkp.trans k1).none);have HSN:=Qh (show sN.length<=21 from by rw[<-hsN];exact Lib.itoa_length_le nj hok.1 hok.2);clear hrow hkp hcs2 hkp2 hv3 hcap3 hcs3 hnj hJ hm hsN hkT hok hsn htk hkl b1 k1 f1 f2;by_cases h0:m=0
   ·subst h0
    go_wp2_with(first
     |(go_at_call 62;refine(HD2.out _ (hev1.out.kept HN1.none)).mono ?_;rintro e' w' ⟨rfl,kx⟩;have y1:=zj kx x1;have HN1:=Qh (HN1.trans kx);clear kx)
     |(at_builtin;refine wpList_append_own_at _ rfl (.tmp 39) (.tmp 41) 22 rfl (q+1) 9 iS _ 1 16 Tryz.underlying22 HI.1 HI.2.1 HI.2.2.1 HI.2.2.2 rfl (by decide) u4 (k+2) _ rfl (zf HK.1 ((HK1.trans HN1.out).alloc _) fun _ _=>id) ⟨_,0,none⟩ 1 1 [.string (zc sN)] rfl rfl (cell_one_new _ _ _) (by simp[Value.oneCell']) (by unfold maxLen;omega) (by omega) (by have:=HN1.size;have:=HK1.size;have:=HK.2.size;have:=HH.2.2.2.2.2.2.2.2.2.1;simp;omega) ?_;intro v4 w4 hown hgr _ _;have HQ:=Qh (Qa hown (z1S (zf HK.1 (HK1.trans HN1.out) fun _ _=>id) hgr));clear hown hgr))
    go_roundg(gk-1);all_goals first|omega|skip
    case rel=>
     refine⟨k+1,by omega,by simp,?_,((HK.2.trans HK1.out).trans HN1.out).own HQ.2 fun i hi=>Or.inr (by have:=HH.2.2.2.2.2.2.2.2.2.1;omega)⟩;have h:=HQ.1;rw[HS.1,HS.2.2.2.2,if_pos (List.length_eq_zero_iff.1 HS.2.2.2.1),List.append_nil,List.map_append];exact h
   ·have hm0:(0:Int)<(m:Int):=by omega
    obtain⟨g3,f3,rfl,hg3⟩:=HS.2.1.some (by rw[z0e,HS.2.2.2.1];omega);obtain⟨P,hP⟩:=Qx ((J.take 65536).length);have hmn:min (m:Int) 65536=(P:Int):=(by rw[<-hP,List.length_take,HS.2.2.2.1];omega);have hPm:P<=m:=(by rw[<-hP,List.length_take,HS.2.2.2.1];omega);have HPX:=Qh (fun W k=>z4t (some ⟨g3,f3,none⟩) c3 (J.take 65536) W ((zab (HS.2.1) 65536).kept k) (by rw[hP];omega));rw[hP]at HPX;have hP0:(0:Int)<=(P:Int):=(by omega);have hPc:(P:Int)<=(c3:Int):=(by have:=HS.2.2.1;omega);have hc3:¬c3=0:=(by have:=HS.2.2.1;omega);have hjt:J≠[]:=fun e=>h0 (by rw[<-HS.2.2.2.1,e];rfl);obtain⟨sP,hsP⟩:=Qx (yB (J.take 65536));rw[hsP]at HPX;have HS2:=Qh (show yH kp=sN++58::sP from by rw[HS.2.2.2.2,if_neg hjt,hsP]);have hz1:¬9223372036854775807<1+(zc sP).size:=(by have:=z3c (J.take 65536);rw[zw,<-hsP];rw[List.length_take]at this;omega);have hz2:¬9223372036854775807<(zc sN).size+(1+(zc sP).size):=(by have:=z3c (J.take 65536);rw[zw,zw,<-hsP];rw[List.length_take]at this;have:=HSN.out;omega);obtain⟨sT,hsT⟩:∃s,sN++58::sP=s:=⟨_,rfl⟩;have hcat:zc sN++(⟨#[58]⟩++zc sP)=zc sT:=(by rw[<-hsT];exact zaK sN sP);rw[hsT]at HS2;clear hP hsP hjt hg3 hsT;go_wp2_with(first
     |(go_at_call 62;refine(HD2.out _ (hev1.out.kept HN1.none)).mono ?_;rintro e' w' ⟨rfl,kx⟩;have y1:=zj kx x1;have HN1:=Qh (HN1.trans kx);clear kx)
     |(go_at_call 94;refine(HPX.out _ (((HH.2.2.2.2.2.2.2.2.1.trans HK.2).trans HK1.out).trans HN1.out)).mono ?_;rintro e' w' ⟨rfl,kx⟩;have HN1:=Qh (HN1.trans kx);clear kx)
     |(at_builtin;refine wpList_append_own_at _ rfl (.tmp 39) (.tmp 41) 22 rfl (q+1) 9 iS _ 1 16 Tryz.underlying22 HI.1 HI.2.1 HI.2.2.1 HI.2.2.2 rfl (by decide) u4 (k+2) _ rfl (zf HK.1 ((HK1.trans HN1.out).alloc _) fun _ _=>id) ⟨_,0,none⟩ 1 1 [.string (zc sT)] rfl rfl (cell_one_new _ _ _) (by simp[Value.oneCell']) (by unfold maxLen;omega) (by omega) (by have:=HN1.size;have:=HK1.size;have:=HK.2.size;have:=HH.2.2.2.2.2.2.2.2.2.1;simp;omega) ?_;intro v4 w4 hown hgr _ _;have HQ:=Qh (Qa hown (z1S (zf HK.1 (HK1.trans HN1.out) fun _ _=>id) hgr));clear hown hgr))
    go_roundg(gk-1);all_goals first|omega|skip
    case rel=>
     refine⟨k+1,by omega,by simp,?_,((HK.2.trans HK1.out).trans HN1.out).own HQ.2 fun i hi=>Or.inr (by have:=HH.2.2.2.2.2.2.2.2.2.1;omega)⟩;have h:=HQ.1;rw[HS.1,HS2.out,List.map_append];exact h
  ·obtain rfl:k=n1:=by omega
   have hkI:¬(k:Int)<(k:Int):=(by omega);rw[List.take_of_length_le (by rw[HH.2.2.2.2.2.2.1];exact Nat.le_refl _)]at hrow;obtain⟨ws,hws⟩:∃ws,[101,110,100]::dS::e.ks.map (fun k=>yH k.k)=ws:=⟨_,rfl⟩;have hwl:ws.length=k+2:=(by rw[<-hws];simp[HH.2.2.2.2.2.2.1]);rw[hws]at hrow HT;rw[<-hwl]at hrow;have hbase:=hrow;obtain⟨o,cap,rfl,-,hcap,hwat⟩:=qh.of_row hrow;obtain⟨g,f,rfl,-,hgl⟩:=hwat 0 (by omega);have hgb:q+1<=g:=by
    rcases hbase.2 with⟨h1,-⟩|⟨g',c',cur,h1,h2,-⟩
    ·cases h1
    ·cases h1;exact h2
   have hpr:=HH.1.kept (HH.2.2.2.2.2.2.2.2.1.trans hkp);have hgo:own g=none:=HH.1.past (by omega);have hB:=HB.out;rw[HT.out,<-List.append_assoc]at hB;have HPU:=Qh (xp g f cap ws hpr hwat hgo hcap (by omega) (by rw[List.length_append]at hB;omega));rw[hwl]at HPU⊢
   have hqo:own q=none:=HH.1.past (Nat.le_of_eq hq);have HG:=Qh (fun(w2:World) (B2:Str) (own2:Nat->Option T) (v2:Value) (hp:Pr w2 own2 xb v2 B2) (ht:To own own2 wr w2) (hle:(B2++zM e.fs).length<=1099511627776)=>by
    have htw:To own own2 w w2:=(To.kept (HH.2.2.2.2.2.2.2.2.1.trans hkp)).trans ht;have hsl:=HH.2.2.2.1.faults.to htw (fun h0=>HV.2 (by unfold fsv at h0;rw[zB _ 3 (fun _=>rfl)]at h0;omega));exact z2x N0 e.fv e.fs hp (HH.2.1.on (htw.keep.below HH.2.1.le HH.2.2.1)) (fun g hg=>by
     rcases Nat.lt_or_ge g w.heap.size with h|h
     ·refine HH.2.2.1 g fun e0=>hg (htw.old g h e0)
     ·exact Nat.le_trans HH.2.1.le h) hsl.1 (fun h0=>hsl.2 (by unfold fsv;rw[zB _ 3 (fun _=>rfl)];omega)) (fun f hf=>HH.2.2.2.2.1.2.2 f hf) (by have:=HH.2.2.2.2.2.2.2.1;omega) hle)
   rw[HV.1]at HG;have hf2:=zj hkp e2;have HX:=Qh (Qa hf2 (Qa hqo (Qa (lt_of_block (hkp.same HB0.out id)) hB)));have HKP:=Qh hkp;clear hrow hkp HK hws hwl hbase hcap hwat hgl hgb hpr hgo hB hqo f1 f2 hf2;go_wp2_with(first
    |(go_at_call 61;refine HPU.mono ?_;rintro e' w2 ⟨rfl,own2,v2,hp2,ht2⟩;have hc2:=(ht2.keep.cell (p:=⟨q,2,none⟩) HX.2.2.1 (by rw[HX.2.1];simp)).trans HX.1;have HF2:=Qh (HG.out w2 _ own2 v2 hp2 ht2 HX.2.2.2);have HT2:=Qh ht2;clear hp2 ht2)
    |(go_at_call 65;refine HF2.mono ?_;rintro e' w3 ⟨rfl,hpt⟩;have HP3:=Qh hpt;clear hpt))
   go_end0;obtain⟨own3,v3,hp3,ht3⟩:=HP3.out;refine⟨rfl,own3,v3,?_,((To.kept (HH.2.2.2.2.2.2.2.2.1.trans HKP.out)).trans HT2.out).trans ht3⟩;rw[HT.out,<-List.append_assoc];exact hp3
def yo(u:Nat):Str:=(txt u).data.toList
theorem zaB(u:Nat):zc (yo u)=txt u:=(z7d rfl).symm
def z1R(p:Play):Str:=ye [[112,108,97,121],zl p.disk,zl p.segMax,zl p.base,zl p.qcap,zl p.qbytes,zl p.pmost,zl p.pbytes,yo p.linger,yo p.alpha]++ye [[109,111,115,116],zl p.most]
def qU(l:List Call):Str:=ye [[116,97,115,107]]++l.flatMap yV
def qt(l:List Int):Str:=if l=[]then[]else ye ([112,105,99,107,115]::l.map zl)
def zT(p:Play):Str:=z1R p++zM p.faults++p.tasks.flatMap qU++qt p.picks++p.ends.flatMap xI
structure PlayOk (p:Play):Prop where
 disk:IsI p.disk
 segMax:IsI p.segMax
 base:IsI p.base
 qcap:IsI p.qcap
 qbytes:IsI p.qbytes
 pmost:IsI p.pmost
 pbytes:IsI p.pbytes
 linger:p.linger<18446744073709551616
 alpha:p.alpha<18446744073709551616
 most:IsI p.most
 faults:∀f∈p.faults,xu f
 calls:∀l∈p.tasks,∀c∈l,IsI c.lsn
 picks:∀n∈p.picks,IsI n
 ends:∀r∈p.ends,z3Q r
theorem xm{w w':World}{own own':Nat->Option T}{q i:Nat}{u:Value}(t:To own own' w w')(hq:own q=none)(h:w.cell? ⟨q,i,none⟩=some u):w'.cell? ⟨q,i,none⟩=some u:=
 (t.keep.cell (p:=⟨q,i,none⟩) (World.block_lt_of_cell? w _ h) (by rw[hq];simp)).trans h
structure Pn (w0 w:World) (own:Nat->Option T):Prop where
 keep:Keep (fun _=>False) w0 w
 low:∀g,own g≠none->w0.heap.size<=g
theorem Pn.to{w0 w w':World}{own own':Nat->Option T}(h:Pn w0 w own)(t:To own own' w w'):Pn w0 w' own':=
 ⟨h.keep.own t.keep fun i hi=>Or.inr (h.low i hi),fun g hg=>by
  rcases Nat.lt_or_ge g w.heap.size with h1|h1
  ·exact h.low g fun e=>hg (t.old g h1 e)
  ·exact Nat.le_trans h.keep.size h1⟩
theorem Pn.kept{w0 w w':World}{own:Nat->Option T}(h:Pn w0 w own)(k:Keep (fun _=>False) w w'):Pn w0 w' own:=⟨h.keep.trans k,h.low⟩
theorem Pn.free{w0 w:World}{own:Nat->Option T}(h:Pn w0 w own){v:Value}{n:Nat}{xs:List Value}(hs:qp w0 v n xs):0<xs.length->∀o cap n,v=.slice (some o) n cap->own o.block=none:=by
 obtain⟨o,cap,rfl,-,hc,-⟩:=hs;intro hx o' cap' n' e;cases e;obtain⟨g,f,e,-,hl⟩:=hc 0 hx;cases e;cases hq:own g with
 |none=>rfl
 |some t=>have:=h.low g (by rw[hq];simp);omega
structure St (w0 ws:World) (own0:Nat->Option T) (q xb:Nat) (t:TypeId) (cs:Array Value) (W:World) (own:Nat->Option T) (v:Value) (B:Str):Prop where
 pr:Pr W own xb v B
 pn:Pn w0 W own
 bk:W.heap[q]?=some (.cells cs t (0,0))
 qo:own q=none
 tt:To own0 own ws W
theorem St.kept{w0 ws W W':World}{own0 own:Nat->Option T}{q xb:Nat}{t:TypeId}{cs:Array Value}{v:Value}{B:Str}(h:St w0 ws own0 q xb t cs W own v B)(k:Keep (fun _=>False) W W'):St w0 ws own0 q xb t cs W' own v B:=
 ⟨h.pr.kept k,h.pn.kept k,k.same h.bk id,h.qo,h.tt.trans (To.kept k)⟩
theorem St.step{w0 ws W W':World}{own0 own:Nat->Option T}{q xb:Nat}{t:TypeId}{cs:Array Value}{v:Value}{B B':Str}(h:St w0 ws own0 q xb t cs W own v B)(p:z3M W own xb B' W'):∃own' v',St w0 ws own0 q xb t cs W' own' v' B':=by obtain⟨own',v',hp,ht⟩:=p;exact⟨own',v',hp,h.pn.to ht,ht.keep.same h.bk (by rw[h.qo];simp),ht.old q (lt_of_block h.bk) h.qo,h.tt.trans ht⟩
theorem St.cell{w0 ws W:World}{own0 own:Nat->Option T}{q xb:Nat}{t:TypeId}{cs:Array Value}{v:Value}{B:Str}(h:St w0 ws own0 q xb t cs W own v B){i:Nat}{u:Value}(hu:cs[i]?=some u):W.cell? ⟨q,i,none⟩=some u:=by rw[za h.bk i,hu]
def xD(t:MT):Str:=ye [[116,97,115,107]]++t.l.flatMap (fun c=>yV c.c)
def xW(e:ME):Str:=xI e.reopen
theorem zc9(m:M):zT m.play=z1R m.play++zM m.fs++m.ts.flatMap xD++qt m.ps++m.es.flatMap xW:=by
 unfold zT;have e1:m.play.tasks.flatMap qU=m.ts.flatMap xD:=by
  show(m.ts.map (fun t=>t.l.map (·.c))).flatMap qU=_
  rw[List.flatMap_map];have:(fun a:MT=>qU (a.l.map (·.c)))=xD:=by funext t;unfold qU xD;rw[List.flatMap_map]
  rw[this]
 have e2:m.play.ends.flatMap xI=m.es.flatMap xW:=(by show(m.es.map ME.reopen).flatMap xI=_;rw[List.flatMap_map];rfl);rw[e1,e2];rfl
theorem z0n{α:Type}(f:α->Str)(l:List α)(k:Nat)(h:k<l.length):l.flatMap f=(l.take k).flatMap f++(f l[k]++(l.drop (k+1)).flatMap f):=by rw[<-List.flatMap_cons,<-List.drop_eq_getElem_cons h,<-List.flatMap_append,List.take_append_drop]
theorem z0U{α:Type}(f:α->Str)(l:List α)(k:Nat)(h:k<l.length):(l.take (k+1)).flatMap f=(l.take k).flatMap f++f l[k]:=by have:l.take (k+1)=l.take k++[l[k]]:=(by rw[List.take_add_one,List.getElem?_eq_getElem h];rfl);rw[this,List.flatMap_append];simp only[List.flatMap_cons,List.flatMap_nil,List.append_nil]
theorem zdf(a m i:Nat)(h:m<=i):a+m+(i-m)=a+i:=by omega
theorem zcC{H:Type}(d:DataW H):1<=Rows.uptoBulk d:=by
 cases d with
 |lit l=>cases l<;>simp[Rows.uptoBulk]
 |nil=>simp[Rows.uptoBulk]
 |ptr d=>simp[Rows.uptoBulk]
 |slice elems spare=>simp[Rows.uptoBulk]
 |agg parts=>simp[Rows.uptoBulk]
 |iface t d=>simp[Rows.uptoBulk]
 |map entries=>simp[Rows.uptoBulk]
 |held h=>simp[Rows.uptoBulk]
theorem zcD{H:Type}(a b:List (DataW H)):Rows.uptoBulkAll (a++b)=Rows.uptoBulkAll a+Rows.uptoBulkAll b:=by
 induction a with
 |nil=>simp[Rows.uptoBulkAll]
 |cons x a ih=>simp only[List.cons_append,Rows.uptoBulkAll,ih];omega
section
variable {H:Type} {enc:TypeId × Value -> H} {w:World} {base:Nat} {spare:Nat -> Bool} {held:Bool}
theorem zbq{α:Type}(cl:α->List Value)(μ:α->Nat)(Q:α->Prop)(k:Nat)(hk:∀x,(cl x).length=k)(hk0:0<k){t e:TypeId}{fuel:Nat}{cs:List Value}{x:DataW H×List MemPlace}(ht:Tryz.prog.underlying t=some (.slice e))(hC:Tryz.prog.cellsOf e=k)
  (hel:∀n cs' y,cs'.length=k->DataW.trod enc Tryz.prog w base spare held n e cs'=some y->∃z,cs'=cl z/\Q z/\μ z<=Rows.uptoBulk y.1)(h:DataW.trod enc Tryz.prog w base spare held fuel t cs=some x):
  ∃(zs:List α) (v:Value),cs=[v]/\qp w v zs.length (zs.flatMap cl)/\(∀z∈zs,Q z)/\(zs.map μ).sum+1<=Rows.uptoBulk x.1/\zs.length<=maxLen:=by
 rcases Go.Deep.open_slice ht h with⟨rfl,rfl⟩|⟨a,len,cap,m,n,D,Pl,rfl,hb,hl,hm,hmm,rfl,hi⟩
 ·exact⟨[],_,rfl,⟨none,0,rfl,Nat.le_refl _,fun i hi=>by simp at hi,fun _=>rfl⟩,fun z hz=>by simp at hz,by simp[Rows.uptoBulk],Nat.zero_le _⟩
 ·have hlm:len<=m:=by subst hmm;split<;>omega
  rw[hC]at hi;have hspot:0<len->a.spot=none:=by
   intro h0;obtain⟨cs0,hc0,-⟩:=hi 0 (by omega);obtain⟨_,hcl0,hat0⟩:=World.cells?_some hc0;have hx0:=hat0 0 (by omega);cases hsp:a.spot with
   |none=>rfl
   |some s=>
    exfalso;have:cs0[0]?=some (cs0[0]'(by omega)):=List.getElem?_eq_getElem _;rw[this]at hx0;simp[Addr.add,World.cell?,hsp]at hx0;split at hx0<;>simp at hx0
  have key:∀j,j<=len->∃zs:List α,zs.length=j/\(∀z∈zs,Q z)/\(zs.map μ).sum<=Rows.uptoBulkAll ((List.range j).map D)/\∀i u,(zs.flatMap cl)[i]?=some u->w.cell? (a.add i)=some u:=by
   intro j
   induction j with
   |zero=>exact fun _=>⟨[],rfl,fun z hz=>by simp at hz,by simp,fun i u h=>by simp at h⟩
   |succ j ih=>
    intro hj;obtain⟨zs,h1,h2,h3,h4⟩:=ih (by omega);obtain⟨cs',hc,ht'⟩:=hi j (by omega);obtain⟨_,hcl,hat⟩:=World.cells?_some hc;obtain⟨z,rfl,hq,hmu⟩:=hel _ _ _ hcl ht';refine⟨zs++[z],by simp[h1],fun y hy=>?_,?_,fun i u hu=>?_⟩
    ·rcases List.mem_append.1 hy with hy|hy
     ·exact h2 y hy
     ·obtain rfl:y=z:=(by simpa using hy);exact hq
    ·rw[List.range_succ,List.map_append,List.map_append,zcD,List.sum_append];have hmu2:μ z<=Rows.uptoBulk (D j):=hmu;simp[Rows.uptoBulkAll];omega
    ·have hfl:(zs.flatMap cl).length=j*k:=by rw[zB cl k hk,h1,Nat.mul_comm]
     rw[List.flatMap_append]at hu;rcases Nat.lt_or_ge i (j*k)with hlt|hge
     ·rw[List.getElem?_append_left (by rw[hfl];exact hlt)]at hu;exact h4 i u hu
     ·rw[List.getElem?_append_right (by rw[hfl];exact hge),hfl]at hu;have hu':(cl z)[i-j*k]?=some u:=(by simpa using hu);have hlt:=(List.getElem?_eq_some_iff.1 hu').1;rw[hk]at hlt;have:=hat (i-j*k) hlt;rw[hu']at this;rw[<-this];have hsp:=hspot (by omega);have e:(a.add (j*k)).add (i-j*k)=a.add i:=(by obtain⟨ab,ao,sp⟩:=a;simp only at hsp;subst hsp;rw[qg,qg,qg,zdf _ _ _ hge]);rw[e]
  obtain⟨zs,h1,h2,h3,h4⟩:=key len (Nat.le_refl _);refine⟨zs,_,rfl,⟨some a,cap,by rw[h1],by rw[h1];exact hl,fun i hi'=>?_,fun e=>nomatch e⟩,h2,?_,by rw[h1];exact Nat.le_trans hl hm⟩
  ·have hz0:0<len:=by
    rcases Nat.eq_zero_or_pos len with h0|h0
    ·rw[h0]at h1;rw[List.length_eq_zero_iff.1 h1]at hi';simp at hi'
    ·exact h0
   obtain⟨ab,ao,sp⟩:=a;obtain rfl:sp=none:=hspot hz0;have hc:=h4 i _ (List.getElem?_eq_getElem hi');rw[qg]at hc;exact⟨ab,ao,rfl,by rw[hc,List.getElem?_eq_getElem hi'],World.block_lt_of_cell? w _ hc⟩
  ·simp only[Rows.uptoBulk];omega
end
end Sc
end Go.Proofs.YtkkecpamnnojoaaGreatDoor
