/- A part of the proof of ScriptParses: nothing is assumed. By an AI agent. -/
import Derived.Test.YtkkecpamnnojoaaGreatDoorBz05
set_option linter.unusedVariables false
set_option linter.unusedSimpArgs false
set_option maxRecDepth 100000
set_option maxHeartbeats 32000000
namespace Go.Proofs.YtkkecpamnnojoaaGreatDoor
open Go.ChangeShapes Go.WideShapes Go.ChangeAt Go.RowKit
open Bt Dc
def StQ(b:Nat)(w:World)(e:Ending)(w':World):Prop:=(∃ok:Bool,e=.returned (.bool ok))/\RowKit.Hid ((∃(τ:DS) (m:Nat),DAt w' b τ/\τ.nd=(m:Int)/\(m=0\/Dc.Ok τ m)/\ -4294967296<=τ.dp/\τ.dp<=4294967296)/\Keep (·=b) w w')
structure SI (b:Nat) (w:World) (K:Nat) (τ:DS) (m:Nat) (wx:World):Prop where
 at_:DAt wx b τ
 nd:τ.nd=(m:Int)
 ok:m=0\/Dc.Ok τ m
 le:m<=800
 lo:-(K:Int)<=τ.dp
 hi:τ.dp<=800
 keep:Keep (·=b) w wx
theorem SI.done{b K m:Nat}{w wx:World}{τ:DS}{e:Ending}(H:SI b w K τ m wx)(hK:K<=1073741824)(ok:Bool)(he:e=.returned (.bool ok)):StQ b w e wx:=
 ⟨⟨ok,he⟩,⟨τ,m,H.at_,H.nd,H.ok,by have:=H.lo;omega,by have:=H.hi;omega⟩,H.keep⟩
theorem SI.more{b K K' m:Nat}{w wx:World}{τ:DS}(H:SI b w K τ m wx)(hK:K<=K'):SI b w K' τ m wx:=⟨H.at_,H.nd,H.ok,H.le,by have:=H.lo;omega,H.hi,H.keep⟩
theorem SI.point{b K m:Nat}{w wx:World}{τ:DS}(H:SI b w K τ m wx):SI b w K {τ with dp:=(m:Int)} m (wx.setCell ⟨b,801,none⟩ (.int .i64 (m:Int))):=
 ⟨H.at_.sdp _,H.nd,H.ok.imp id fun h=>⟨h.good,h.nd,h.le⟩,H.le,by show-(K:Int)<=(m:Int);omega,by have:=H.le;show(m:Int)<=800;omega,Keep.setCell (bs:=(·=b)) H.keep (p:=⟨b,801,none⟩) (Or.inl rfl) _⟩
theorem SI.nought{b K m:Nat}{w wx:World}{τ:DS}(H:SI b w K τ m wx):SI b w (K+1) {τ with dp:=τ.dp-1} m (wx.setCell ⟨b,801,none⟩ (.int .i64 (τ.dp-1))):=
 ⟨H.at_.sdp _,H.nd,H.ok.imp id fun h=>⟨h.good,h.nd,h.le⟩,H.le,by have:=H.lo;show-((K+1:Nat):Int)<=τ.dp-1;omega,by have:=H.hi;show τ.dp-1<=800;omega,Keep.setCell (bs:=(·=b)) H.keep (p:=⟨b,801,none⟩) (Or.inl rfl) _⟩
theorem SI.digit{b K m c:Nat}{w wx:World}{τ:DS}(H:SI b w K τ m wx)(hm:m<800)(hc:48<=c/\c<=57)(h0:m=0->c≠48):SI b w K {τ with d:=upd τ.d m c,nd:=((m+1:Nat):Int)} (m+1) ((wx.setCell ⟨b,m,none⟩ (.int .u8 (c:Int))).setCell ⟨b,800,none⟩ (.int .i64 ((m+1:Nat):Int))):=by
 refine⟨(H.at_.sd hm).snd _,rfl,Or.inr ⟨⟨fun i hi=>?_,by omega,?_⟩,rfl,hm⟩,hm,H.lo,H.hi,Keep.setCell (bs:=(·=b)) (Keep.setCell (bs:=(·=b)) H.keep (p:=⟨b,m,none⟩) (Or.inl rfl) _) (p:=⟨b,800,none⟩) (Or.inl rfl) _⟩
 ·by_cases h:i=m
  ·show 48<=upd τ.d m c i/\upd τ.d m c i<=57;rw[h,z18];exact hc
  ·show 48<=upd τ.d m c i/\upd τ.d m c i<=57
   rw[z0d _ _ h];rcases H.ok with h'|h'
   ·omega
   ·exact h'.good.dig i (by omega)
 ·show upd τ.d m c 0≠48
  by_cases h:m=0
  ·subst h;rw[z18];exact h0 rfl
  ·rw[z0d _ _ (by omega)]
   rcases H.ok with h'|h'
   ·omega
   ·exact h'.good.lead
theorem SI.mark{b K m:Nat}{w wx:World}{τ:DS}(H:SI b w K τ m wx):SI b w K {τ with tr:=true} m (wx.setCell ⟨b,803,none⟩ (.bool true)):=
 ⟨H.at_.str true,H.nd,H.ok.imp id fun h=>⟨h.good,h.nd,h.le⟩,H.le,H.lo,H.hi,Keep.setCell (bs:=(·=b)) H.keep (p:=⟨b,803,none⟩) (Or.inl rfl) _⟩
def SD(b:Nat)(w wx:World):Prop:=∃(τ:DS) (m:Nat),DAt wx b τ/\τ.nd=(m:Int)/\(m=0\/Dc.Ok τ m)/\ -4294967296<=τ.dp/\τ.dp<=4294967296/\Keep (·=b) w wx
theorem SD.done{b:Nat}{w wx:World}{e:Ending}(H:SD b w wx)(ok:Bool)(he:e=.returned (.bool ok)):StQ b w e wx:=by obtain⟨τ,m,h1,h2,h3,h4,h5,h6⟩:=H;exact⟨⟨ok,he⟩,⟨τ,m,h1,h2,h3,h4,h5⟩,h6⟩
theorem SI.fin{b K m:Nat}{w wx:World}{τ:DS}(H:SI b w K τ m wx)(hK:K<=1073741824):SD b w wx:=⟨τ,m,H.at_,H.nd,H.ok,by have:=H.lo;omega,by have:=H.hi;omega,H.keep⟩
theorem SI.moved{b K m:Nat}{w wx:World}{τ:DS}(H:SI b w K τ m wx)(hK:K<=1073741824){P:Int}(h1:-4294967296<=P)(h2:P<=4294967296):SD b w (wx.setCell ⟨b,801,none⟩ (.int .i64 P)):=
 ⟨{τ with dp:=P},m,H.at_.sdp _,H.nd,H.ok.imp id fun h=>⟨h.good,h.nd,h.le⟩,h1,h2,Keep.setCell (bs:=(·=b)) H.keep (p:=⟨b,801,none⟩) (Or.inl rfl) _⟩
theorem SI.drew{b K m:Nat}{w wx:World}{τ:DS}(H:SI b w K τ m wx):SI b w K τ m wx.drew:=⟨H.at_,H.nd,H.ok,H.le,H.lo,H.hi,H.keep.drew⟩
theorem zcV(b:Nat)(s:ByteArray)(w:World)(hs:s.size<=1073741824)(h:DAt w b ⟨fun _=>0,0,0,false,false⟩):
  Calls Tryz.prog 188 #[.pointer (some ⟨b,0,none⟩),.string s] w (StQ b w):=by
 have HS:=Qh hs;have HL:=Qh (fun(c:Nat) (w:World) (h:c<256)=>z5h c w h);have h2:=(h.sng false).str false;have hI:SI b w 0 ⟨fun _=>0,0,0,false,false⟩ 0 ((w.setCell ⟨b,802,none⟩ (.bool false)).setCell ⟨b,803,none⟩ (.bool false)):=
  ⟨h2,rfl,Or.inl rfl,by omega,by simp,by simp,Keep.setCell (bs:=(·=b)) (Keep.setCell (bs:=(·=b)) (Keep.refl _ w) (p:=⟨b,802,none⟩) (Or.inl rfl) _) (p:=⟨b,803,none⟩) (Or.inl rfl) _⟩
 have cn:=h.cng;have fn:=h.free 802;have ct:=(h.sng false).ctr;have ft:=(h.sng false).free 803;clear hs h h2;go_in;go_upto_region 4 with fail;generalize(w.setCell ⟨b,802,none⟩ (.bool false)).setCell ⟨b,803,none⟩ (.bool false)=w1 at*
 have HI:=Qh hI;have cn1:=hI.at_.cng;have fn1:=hI.at_.free 802;clear hI cn fn ct ft;by_cases h0:s.size=0
 ·have h0':((s.size:Nat):Int)=0:=(by omega);have HZ:=Qh h0;clear h0;go_wp2_with fail;go_ret;exact HI.done (by omega) _ rfl
 have h0':0<((s.size:Nat):Int):=(by omega);have h0n:0<s.size:=(by omega);have h0b:¬s.size=0:=(by omega);have h0c:¬((s.size:Nat):Int)=0:=(by omega);clear h0;go_upto_block 0 with fail;go_cut[5]from 20 to 33 (fun s5 wx=>∃i:Nat,s5=.int .i64 (i:Int)/\RowKit.Hid (i<=1/\∃τ m,SI b w 0 τ m wx))
 case first=>
  by_cases c1:ch s 0=43
  ·have c1':((ch s 0:Nat):Int)=43:=(by omega);clear c1;go_wp2_with fail;go_meet;exact⟨1,rfl,by omega,_,_,HI.out⟩
  ·by_cases c2:ch s 0=45
   ·have c2':((ch s 0:Nat):Int)=45:=by omega
    clear c1 c2;go_wp2_with fail;go_meet;exact⟨1,rfl,by omega,{(⟨fun _=>0,0,0,false,false⟩:DS)with ng:=true},0,⟨HI.at_.sng true,rfl,Or.inl rfl,by omega,by simp,by simp,Keep.setCell (bs:=(·=b)) HI.keep (p:=⟨b,802,none⟩) (Or.inl rfl) _⟩⟩
   ·have c1':(((ch s 0:Nat):Int)==43)=false:=Qb (by omega);have c2':(((ch s 0:Nat):Int)==45)=false:=Qb (by omega);clear c1 c2;go_wp2_with fail;go_meet;exact⟨0,rfl,by omega,_,_,HI.out⟩
 case rest=>
  obtain⟨i0,rfl,HJ⟩:=hcut;generalize wc=w2 at*
  clear cn1 fn1 HI;go_upto_block 1 with fail;go_cut[5,6,7]from 34 to 116 (fun s5 s6 s7 wx=>∃(i:Nat) (dot saw:Bool),s5=.int .i64 (i:Int)/\s6=.bool dot/\s7=.bool saw/\RowKit.Hid (i<=s.size/\∃τ m,SI b w s.size τ m wx))
  case first=>
   go_wp2_with fail;go_loopg[5,6,7] (s.size-i0) (fun gq s5 s6 s7 wx=>∃(i:Nat) (dot saw:Bool),gq+i=s.size/\s5=.int .i64 (i:Int)/\s6=.bool dot/\s7=.bool saw/\RowKit.Hid (∃τ m,SI b w i τ m wx))
   case atStart=>
    obtain⟨τ,m,h⟩:=HJ.2;exact⟨i0,false,false,by have:=HJ.1;omega,rfl,rfl,rfl,τ,m,h.more (by omega)⟩
   case round=>
    obtain⟨i,dot,saw,hgi,rfl,rfl,rfl,HR⟩:=hrel;obtain⟨τ,m,HI⟩:=HR.out;have HI1:=Qh HI;by_cases hi:i<s.size
    ·have hi':(i:Int)<((s.size:Nat):Int):=by omega
     have hw1:wrap64 ((i:Int)+1)=((i+1:Nat):Int):=(by have:=HS.out;unfold wrap64;omega);have HIS:=Qh hi;by_cases c1:ch s (i:Int)=95
     ·have c1':((ch s (i:Int):Nat):Int)=95:=by omega
      clear c1 HI;go_wp2_with fail;go_roundg(gk-1)
      case measure=>omega
      case rel=>exact⟨i+1,dot,saw,by omega,by first|rfl|(rw[hw1];done),rfl,rfl,τ,m,HI1.more (by omega)⟩
     have c1':(((ch s (i:Int):Nat):Int)==95)=false:=Qb (by omega);have q8:wr.cell? ⟨b,800,none⟩=some (.int .i64 (m:Int)):=(by have:=HI.at_.cnd;rw[HI.nd]at this;exact this);have q9:=HI.at_.cdp;have g9:=HI.at_.free 801;by_cases c2:ch s (i:Int)=46
     ·have c2':((ch s (i:Int):Nat):Int)=46:=by omega
      cases dot
      ·clear c1 c2 HI
       go_wp2_with fail;go_roundg(gk-1)
       case measure=>omega
       case rel=>exact⟨i+1,true,saw,by omega,by first|rfl|(rw[hw1];done),rfl,rfl,_,_,(HI1.more (by omega)).point⟩
      ·clear c1 c2 HI;go_wp2_with fail;go_ret;exact HI1.done (by have:=HS.out;have:=HIS.out;omega) _ rfl
     have c2':(((ch s (i:Int):Nat):Int)==46)=false:=Qb (by omega);by_cases c3:48<=ch s (i:Int)/\ch s (i:Int)<=57
     ·have c3a:(48:Int)<=((ch s (i:Int):Nat):Int):=by omega
      have c3b:((ch s (i:Int):Nat):Int)<=57:=(by omega);by_cases c4:ch s (i:Int)=48/\m=0
      ·obtain⟨c4a,c4b⟩:=c4
       subst c4b;have c4':((ch s (i:Int):Nat):Int)=48:=(by omega);have hd1:wrap64 (τ.dp-1)=τ.dp-1:=(by have:=HI.lo;have:=HI.hi;have:=HS.out;unfold wrap64;omega);have HD1:=Qh hd1;clear c1 c2 c3 c4a HI hd1;go_wp2_with fail;rw[HD1.out];go_roundg(gk-1)
       case measure=>omega
       case rel=>exact⟨i+1,dot,true,by omega,by first|rfl|(rw[hw1];done),rfl,rfl,_,_,HI1.nought⟩
      ·have hcond:(((ch s (i:Int):Nat):Int)==48)=false\/(((ch s (i:Int):Nat):Int)=48/\((m:Int)==0)=false):=by
        by_cases hc:ch s (i:Int)=48
        ·right;exact⟨by omega,Qb (by omega)⟩
        ·left;rw[beq_eq_false_iff_ne];omega
       have H4:=Qh (Qa c3 c4);by_cases hm8:m<800
       ·have m8:(m:Int)<800:=by omega
        have m0:(0:Int)<=(m:Int):=(by omega);have cm:=HI.at_.digit (i:=m) hm8;have fm:=HI.at_.free m;have f8:=HI.at_.free 800;have hput:=((HI1.digit hm8 c3 (fun h hc=>c4 ⟨hc,h⟩)).more (Nat.le_succ i)).drew;have HPut:=Qh hput;have q8':((World.drew wr).setCell ⟨b,m,none⟩ (.int .u8 ((ch s (i:Int):Nat):Int))).cell? ⟨b,800,none⟩=some (.int .i64 (m:Int)):=(by have:=(HI.drew.at_.sd (v:=ch s (i:Int)) hm8).cnd;rw[HI.nd]at this;exact this);have f8':((World.drew wr).setCell ⟨b,m,none⟩ (.int .u8 ((ch s (i:Int):Nat):Int))).frozen? ⟨b,800,none⟩=false:=(HI.drew.at_.sd (v:=ch s (i:Int)) hm8).free 800;have cm':(World.drew wr).cell? ⟨b,m,none⟩=some (.int .u8 ((τ.d m:Nat):Int)):=cm;have fm':(World.drew wr).frozen? ⟨b,m,none⟩=false:=fm;clear c1 c2 c3 c4 HI hput;rcases hcond with hc|⟨hc,hz⟩
        all_goals
         go_wp2_with fail;go_still_tail 11,(by kernel_rfl);change wpList _ _ _ _ _ (World.drew wr);go_wp2_with fail;go_roundg(gk-1)
         case measure=>omega
         case rel=>exact⟨i+1,dot,true,by omega,by first|rfl|(rw[hw1];done),rfl,rfl,_,_,by first|exact HPut.out|(have h:=HPut.out;rw[hc]at h;exact h)⟩
       ·have m8:¬(m:Int)<800:=by omega
        have f3:=HI.at_.free 803;have t3:=HI.at_.ctr;clear c1 c2 c3 c4 HI;rcases hcond with hc|⟨hc,hz⟩
        ·go_wp2_with fail
         go_roundg(gk-1)
         case measure=>omega
         case rel=>exact⟨i+1,dot,true,by omega,by first|rfl|(rw[hw1];done),rfl,rfl,_,_,(HI1.more (Nat.le_succ i)).mark⟩
        ·go_wp2_with fail
         go_roundg(gk-1)
         case measure=>omega
         case rel=>exact⟨i+1,dot,true,by omega,by first|rfl|(rw[hw1];done),rfl,rfl,_,_,HI1.more (Nat.le_succ i)⟩
     ·have hcond:¬(48:Int)<=((ch s (i:Int):Nat):Int)\/((48:Int)<=((ch s (i:Int):Nat):Int)/\¬((ch s (i:Int):Nat):Int)<=57):=by omega
      have HFin:RowKit.Hid (i<=s.size/\∃τ m,SI b w s.size τ m wr):=Qh ⟨by omega,τ,m,HI1.more (by omega)⟩;clear c1 c2 c3 HI;rcases hcond with hc|⟨hc,hz⟩
      all_goals
       go_wp2_with fail;go_meet;exact⟨i,dot,saw,rfl,rfl,rfl,HFin.out⟩
    ·have hi':¬(i:Int)<((s.size:Nat):Int):=(by omega);have HFin:RowKit.Hid (i<=s.size/\∃τ m,SI b w s.size τ m wr):=Qh ⟨by omega,τ,m,HI1.more (by omega)⟩;clear HI hi;go_wp2_with fail;go_meet;exact⟨i,dot,saw,rfl,rfl,rfl,HFin.out⟩
  case rest=>
   obtain⟨k,dot,saw,rfl,rfl,rfl,HK⟩:=hcut;generalize wc=w3 at*
   obtain⟨τ,m,HI⟩:=HK.2;have HI1:=Qh HI;cases saw
   ·clear HI;go_wp2_with fail;go_ret;exact HI1.done HS.out _ rfl
   ·have q8:w3.cell? ⟨b,800,none⟩=some (.int .i64 (m:Int)):=by have:=HI.at_.cnd;rw[HI.nd]at this;exact this
    have q9:=HI.at_.cdp;have g9:=HI.at_.free 801;clear HI;go_upto_if 120 with fail;go_cut[]from 119 to 127 (fun wx=>RowKit.Hid (∃τ m,SI b w s.size τ m wx))
    case first=>
     cases dot
     ·go_wp2_with fail;go_meet;exact⟨_,_,HI1.point⟩
     ·go_wp2_with fail;go_meet;exact⟨_,_,HI1.out⟩
    case rest=>
     generalize wc=w4 at*
     clear q8 q9 g9;obtain⟨τ2,m2,HI2⟩:=hcut.out;have HI3:=Qh HI2;have q9:=HI2.at_.cdp;have g9:=HI2.at_.free 801;clear HI2 hcut;go_upto_region 32 with fail;go_cut[138]from 128 to 138 (fun s138 wx=>∃g:Bool,s138=.bool g/\RowKit.Hid ((g=true->k<s.size)/\wx=w4))
     case first=>
      by_cases hk:k<s.size
      ·have hk':(k:Int)<((s.size:Nat):Int):=by omega
       have HKS:=Qh hk;clear hk q9 g9;go_wp2_with(go_at_call 151;refine(HL.out _ _ (yU _ _)).mono ?_;rintro e w' ⟨rfl,rfl⟩)
       all_goals
        go_meet;exact⟨_,rfl,⟨fun _=>HKS.out,rfl⟩⟩
      ·have hk':¬(k:Int)<((s.size:Nat):Int):=(by omega);clear hk q9 g9;go_wp2_with fail;go_meet;exact⟨false,rfl,⟨(fun h=>by cases h),rfl⟩⟩
     case rest=>
      obtain⟨g,rfl,HG⟩:=hcut;have hw5:=HG.2;generalize wc=w5 at*
      subst hw5;go_upto_if 138 with fail;go_cut[5]from 139 to 219 (fun s5 wx=>∃i:Nat,s5=.int .i64 (i:Int)/\RowKit.Hid (SD b w wx))
      case first=>
       cases g
       ·clear q9 g9;go_wp2_with fail;go_meet;exact⟨k,rfl,HI3.fin HS.out⟩
       ·have hk:=HG.1 rfl
        have hw1:wrap64 ((k:Int)+1)=((k+1:Nat):Int):=(by have:=HS.out;unfold wrap64;omega);by_cases hk1:k+1<s.size
        ·have hk1':¬((s.size:Nat):Int)<=(k:Int)+1:=by omega
         have hk2':(k:Int)+1<((s.size:Nat):Int):=(by omega);have hk3':(0:Int)<=(k:Int)+1:=(by omega);have HK1:=Qh hk1;clear hk1 hk;go_upto_block 4 with fail;go_cut[5,8]from 139 to 155 (fun s5 s8 wx=>∃(i2:Nat) (z:Int),s5=.int .i64 (i2:Int)/\s8=.int .i64 z/\RowKit.Hid (i2<=s.size/\(z=1\/z= -1)/\wx=w5))
         case first=>
          have hw2:wrap64 ((k:Int)+1+1)=(k:Int)+1+1:=(by have:=HS.out;have:=HK1.out;unfold wrap64;omega);have HW2:=Qh hw2;clear hw2 q9 g9;by_cases c1:ch s ((k:Int)+1)=43
          ·have c1':((ch s ((k:Int)+1):Nat):Int)=43:=(by omega);clear c1;go_wp2_with fail;go_meet;exact⟨k+1+1,_,by first|rfl|(rw[HW2.out];rfl)|simp,rfl,⟨by have:=HK1.out;omega,Or.inl rfl,rfl⟩⟩
          ·by_cases c2:ch s ((k:Int)+1)=45
           ·have c2':((ch s ((k:Int)+1):Nat):Int)=45:=(by omega);clear c1 c2;go_wp2_with fail;go_meet;exact⟨k+1+1,_,by first|rfl|(rw[HW2.out];rfl)|simp,rfl,⟨by have:=HK1.out;omega,Or.inr rfl,rfl⟩⟩
           ·have c1':(((ch s ((k:Int)+1):Nat):Int)==43)=false:=Qb (by omega);have c2':(((ch s ((k:Int)+1):Nat):Int)==45)=false:=Qb (by omega);clear c1 c2;go_wp2_with fail;go_meet;exact⟨k+1,_,by first|rfl|(go_num;done),rfl,⟨by have:=HK1.out;omega,Or.inl rfl,rfl⟩⟩
         case rest=>
          obtain⟨i2,z,rfl,rfl,HB⟩:=hcut;have hw6:=HB.2.2;generalize wc=w6 at*
          subst hw6;clear hk1' hk2' hk3' hw1;by_cases hd:i2<s.size/\48<=ch s (i2:Int)/\ch s (i2:Int)<=57
          ·have d0:(i2:Int)<((s.size:Nat):Int):=by omega
           have d1:¬((s.size:Nat):Int)<=(i2:Int):=(by omega);have d2:¬((ch s (i2:Int):Nat):Int)<48:=(by omega);have d3:¬(57:Int)<((ch s (i2:Int):Nat):Int):=(by omega);clear hd;go_wp2_with fail;go_loopg[5,9] (s.size-i2) (fun gq s5 s9 wx=>∃(e q:Nat),gq+q=s.size/\s5=.int .i64 (q:Int)/\s9=.int .i64 (e:Int)/\RowKit.Hid (e<100000/\wx=w6))
           case atStart=>exact⟨0,i2,by have:=HB.1;omega,rfl,rfl,by omega,rfl⟩
           case round=>
            obtain⟨e,q,hgq,rfl,rfl,HQ⟩:=hrel;have hwr:=HQ.2;subst hwr;have hw9:wrap64 ((q:Int)+1)=((q+1:Nat):Int):=(by have:=HS.out;unfold wrap64;omega);have HMv:RowKit.Hid (∀P:Int,P=τ2.dp+(e:Int)*z->SD b w (wr.setCell ⟨b,801,none⟩ (.int .i64 (wrap64 (τ2.dp+wrap64 ((e:Int)*z)))))):=Qh fun P hP=>by
             have h5:=HQ.1;have h6:=HS.out;have h7:=HI3.lo;have h8:=HI3.hi;rcases HB.2.1 with rfl|rfl
             ·have e1:wrap64 (τ2.dp+wrap64 ((e:Int)*1))=τ2.dp+(e:Int):=(by unfold wrap64;omega);rw[e1];exact HI3.moved HS.out (by omega) (by omega)
             ·have e1:wrap64 (τ2.dp+wrap64 ((e:Int)* -1))=τ2.dp-(e:Int):=(by unfold wrap64;omega);rw[e1];exact HI3.moved HS.out (by omega) (by omega)
            by_cases hq:q<s.size
            ·have hq':(q:Int)<((s.size:Nat):Int):=by omega
             by_cases c1:ch s (q:Int)=95
             ·have c1':((ch s (q:Int):Nat):Int)=95:=by omega
              have HQS:=Qh hq;clear c1 hq q9 g9;go_wp2_with fail;go_roundg(gk-1)
              case measure=>have:=HQS.out;omega
              case rel=>exact⟨e,q+1,by have:=HQS.out;omega,by first|rfl|(rw[hw9];done),rfl,HQ.1,rfl⟩
             ·have c1':(((ch s (q:Int):Nat):Int)==95)=false:=Qb (by omega)
              by_cases c2:48<=ch s (q:Int)/\ch s (q:Int)<=57
              ·have c2a:(48:Int)<=((ch s (q:Int):Nat):Int):=by omega
               have c2b:((ch s (q:Int):Nat):Int)<=57:=(by omega);have HQS:=Qh hq;by_cases c3:e<10000
               ·have c3':(e:Int)<10000:=by omega
                obtain⟨e2,he2⟩:∃e2,e2=10*e+(ch s (q:Int)-48):=⟨_,rfl⟩;have HE2:=Qh (show(e:Int)*10+((ch s (q:Int):Nat):Int)-48=(e2:Int)/\e2<100000 by omega);clear c1 c2 c3 hq he2 q9 g9;go_wp2_with fail;go_roundg(gk-1)
                case measure=>have:=HQS.out;omega
                case rel=>exact⟨e2,q+1,by have:=HQS.out;omega,by first|rfl|(rw[hw9];done),by first|(rw[HE2.1];done)|rfl,HE2.2,rfl⟩
               ·have c3':¬(e:Int)<10000:=by omega
                clear c1 c2 c3 hq q9 g9;go_wp2_with fail;go_roundg(gk-1)
                case measure=>have:=HQS.out;omega
                case rel=>exact⟨e,q+1,by have:=HQS.out;omega,by first|rfl|(rw[hw9];done),rfl,HQ.1,rfl⟩
              ·have hcond:¬(48:Int)<=((ch s (q:Int):Nat):Int)\/((48:Int)<=((ch s (q:Int):Nat):Int)/\¬((ch s (q:Int):Nat):Int)<=57):=by omega
               clear c1 c2 hq;rcases hcond with hc|⟨hc,hc2⟩
               all_goals
                go_wp2_with fail;go_meet;exact⟨q,rfl,HMv.out _ rfl⟩
            ·have hq':¬(q:Int)<((s.size:Nat):Int):=(by omega);clear hq;go_wp2_with fail;go_meet;exact⟨q,rfl,HMv.out _ rfl⟩
          ·have HFn:=Qh (HI3.fin HS.out)
           by_cases hi2:i2<s.size
           ·have d0:(i2:Int)<((s.size:Nat):Int):=by omega
            have d1:¬((s.size:Nat):Int)<=(i2:Int):=(by omega);by_cases hlo:ch s (i2:Int)<48
            ·have d2:((ch s (i2:Int):Nat):Int)<48:=(by omega);clear hd hi2 hlo q9 g9;go_wp2_with fail;go_ret;exact HFn.done _ rfl
            ·have d2:¬((ch s (i2:Int):Nat):Int)<48:=(by omega);have d3:(57:Int)<((ch s (i2:Int):Nat):Int):=(by omega);clear hd hi2 hlo q9 g9;go_wp2_with fail;go_ret;exact HFn.done _ rfl
           ·have d1:((s.size:Nat):Int)<=(i2:Int):=(by omega);clear hd hi2 q9 g9;go_wp2_with fail;go_ret;exact HFn.done _ rfl
        ·have hk1':((s.size:Nat):Int)<=(k:Int)+1:=(by omega);have HFn:=Qh (HI3.fin HS.out);clear hk1 hk q9 g9;go_wp2_with fail;go_ret;exact HFn.done _ rfl
      case rest=>
       obtain⟨i,rfl,HD⟩:=hcut;generalize wc=w6 at*
       clear q9 g9;go_wp2_with fail
       all_goals
        go_ret;exact HD.done _ rfl
end Go.Proofs.YtkkecpamnnojoaaGreatDoor
