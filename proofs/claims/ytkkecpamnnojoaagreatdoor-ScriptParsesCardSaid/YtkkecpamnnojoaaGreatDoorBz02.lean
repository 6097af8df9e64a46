/- A part of the proof of ScriptParses: nothing is assumed. By an AI agent. -/
import Derived.Lib.ItoaLen
import Derived.Lib.AppendIntMem
import Derived.Laws.BytesArg
import Derived.WalkMore
import Derived.Scope
import Derived.LoopN
import Derived.Test.YtkkecpamnnojoaaGreatDoorBz01
set_option linter.unusedVariables false
set_option linter.unusedSimpArgs false
set_option maxRecDepth 100000
set_option maxHeartbeats 32000000
namespace Go.Proofs.YtkkecpamnnojoaaGreatDoor
open Go.ChangeShapes Go.WideShapes Go.ChangeAt Go.RowKit
open Bt
theorem zce(neg:Bool)(D:List Nat)(b base:Nat)(v:Value)(w:World)(hI:Bu w base b v [] w)(hD:Dgs w b D)(h1:1<=D.length)(h2:D.length<=20)(p:Nat)(hp0:1<=p)(hp:p<=6)(hnp:D.length<=p):
  Calls Tryz.prog 127 #[v,.bool neg,.slice (some ⟨b,0,none⟩) 32 32,.int .i64 (p:Int),.int .i64 (D.length:Int),.int .i64 (D.length:Int),.int .u8 103,.bool true] w fun e w'=>∃v',e=.returned v'/\Bu w base b v' (Us.qG neg D (p:Int)) w':=by
 have HI:=Qh (Qa hI hD);clear hI hD;obtain⟨nd,hnd⟩:∃nd,nd=D.length:=⟨_,rfl⟩;rw[<-hnd]at h1 h2 hnp⊢
 have hz:((nd:Int)==0)=false:=Qb (by omega);have HN:=Qh hnd;obtain⟨sg,hsg⟩:∃sg:List Nat,sg=(if neg then[45]else[]):=⟨_,rfl⟩;have hsl:sg.length<=1:=(by rw[hsg];split<;>simp);have HSG:=Qh hsg;have hA:decide ((p:Int)-1< -4)=false:=(by rw[decide_eq_false_iff_not];omega);have hB:decide (6<=(p:Int)-1)=false:=(by rw[decide_eq_false_iff_not];omega);have hC:decide (p<nd)=false:=(by rw[decide_eq_false_iff_not];omega);have hP:decide (0<(p:Int))=true:=(by rw[decide_eq_true_eq];omega);obtain⟨z,hz2⟩:∃z:Nat,nd+z=p:=⟨p-nd,by omega⟩;have hmin:min (nd:Int) (p:Int)=(nd:Int):=(by omega);have hsub:(p:Int)-(nd:Int)=(z:Int):=(by omega);have hend:sg++D++List.replicate z 48=Us.qG neg D (p:Int):=(by unfold Us.qG Us.z5m;rw[if_neg (show¬D=[]from fun h=>by rw[h]at hnd;simp at hnd;omega),if_neg (show¬((p:Int)-1< -4\/6<=(p:Int)-1) by omega),if_pos (show(0:Int)<(p:Int) by omega),<-hsg,Int.toNat_natCast,<-hnd,if_neg (show¬p<nd by omega),show p-nd=z by omega,List.take_of_length_le (by omega)];simp);have htd:D.take nd=D:=List.take_of_length_le (by omega);have HEND:=Qh (Qa hend htd);clear hend htd;clear hnd hsg;go_in;go_upto_if 36 with(fail);go_cut[5,6]from 31 to 73 (fun s5 s6 wx=>s5=.int .i64 0/\s6=.int .u8 102/\wx=w)
 case first=>
  go_wp2_with fail;all_goals(go_meet;exact⟨by go_num,rfl,rfl⟩)
 case rest=>
  obtain⟨rfl,rfl,hw⟩:=hcut;obtain rfl:w=wc:=hw.symm;go_upto_if 178 with(fail);go_cut[0]from 177 to 181 (fun s0 wx=>Hid (Bu w base b s0 sg wx))
  case first=>
   cases neg
   ·have hsg:sg=[]:=HSG.out;subst hsg;go_wp2_with fail;go_meet;exact HI.1
   ·have hsg:sg=[45]:=HSG.out
    (subst hsg;go_wp2_with(at_builtin;go_must(refine yj HI.1 (by simp) (45) (45) ?_ ?_ rfl (.tmp 179) (.tmp 180) rfl rfl rfl ?_));try any_goals(first|with_reducible rfl|(show(_:Int)=_;rfl)|exact cell_one_new _ _ _ 0 _ rfl));intro v1 w1 h'
    have H1:=Qh h';clear h';go_wp2_with fail;go_meet;exact H1.out
  case rest=>
   have HS:=Qh hcut.out;clear hcut;go_upto_if 183 with(fail);go_cut[0,23,25]from 182 to 208 (fun s0 _ _ wx=>Hid (Bu w base b s0 (sg++D++List.replicate z 48) wx))
   case first=>
    go_wp2_with fail;go_loopg[0,191,25] nd (fun g s0 i _ wx=>∃k:Nat,g+k=nd/\i=.int .i64 (k:Int)/\RowKit.Hid (Bu w base b s0 (sg++D.take k) wx))
    case atStart=>exact⟨0,by omega,rfl,Qh (by simpa using HS.out)⟩
    case round=>
     obtain⟨k,hgk,rfl,HR⟩:=hrel;by_cases hk:k<nd
     ·have hcell:wr.cell? ⟨b,k,none⟩=some (.int .u8 (D.getD k 0:Nat)):=(HR.cell k).trans (HI.2 k (by rw[<-HN.out];omega))
      (have htk:D.take (k+1)=D.take k++[D.getD k 0]:=qM D k (by rw[<-HN.out];omega);have hlk:(sg++D.take k).length<=100:=(by rw[List.length_append,List.length_take];omega);obtain⟨ck,hck⟩:∃ck,ck=D.getD k 0:=⟨_,rfl⟩;rw[<-hck]at hcell htk;have HTK:=Qh htk;clear htk hck;obtain⟨Bk,hBk⟩:∃Bk,Bk=sg++D.take k:=⟨_,rfl⟩;rw[<-hBk]at HR hlk;have HBk:=Qh hBk;clear hBk;go_wp2_with(at_builtin;go_must(refine yj HR.out (by omega) ((ck:Nat):Int) ck ?_ ?_ rfl (.tmp 195) (.tmp 197) rfl rfl rfl ?_));try any_goals(first|with_reducible rfl|(show(_:Int)=_;rfl)|exact cell_one_new _ _ _ 0 _ rfl));intro v5 w5 h'
      have H5:=Qh h';clear h';go_wp2_with fail;go_roundg(gk-1)
      case measure=>omega
      case rel=>exact⟨k+1,by omega,rfl,by rw[HTK.out,<-List.append_assoc,<-HBk.out];exact H5⟩
     ·obtain rfl:k=nd:=by omega
      have HG:=HR.out;rw[HEND.2]at HG;obtain⟨BD,hBD⟩:∃BD,BD=sg++D:=⟨_,rfl⟩;rw[<-hBD]at HG;have hlD:BD.length<=100:=(by rw[hBD,List.length_append,<-HN.out];omega);have HBD:=Qh hBD;clear hBD HR;have HG:=Qh HG;go_wp2_with fail;go_loopg[0,203] z (fun g s0 i wx=>∃k:Nat,g+k=z/\i=.int .i64 (k:Int)/\RowKit.Hid (Bu w base b s0 (BD++List.replicate k 48) wx))
      case atStart=>exact⟨0,by omega,rfl,Qh (by simpa using HG.out)⟩
      case round=>
       obtain⟨k,hgk,rfl,HR⟩:=hrel;by_cases hk:k<z
       ·obtain⟨Bk,hBk⟩:∃Bk,Bk=BD++List.replicate k 48:=⟨_,rfl⟩
        (have hlk:(BD++List.replicate k 48).length<=200:=(by rw[List.length_append,List.length_replicate];omega);rw[<-hBk]at HR hlk;have HBk:=Qh hBk;clear hBk;go_wp2_with(at_builtin;go_must(refine yj HR.out (by omega) (48) (48) ?_ ?_ rfl (.tmp 205) (.tmp 206) rfl rfl rfl ?_));try any_goals(first|with_reducible rfl|(show(_:Int)=_;rfl)|exact cell_one_new _ _ _ 0 _ rfl));intro v5 w5 h'
        have H5:=Qh h';clear h';go_wp2_with fail;go_roundg(gk-1)
        case measure=>omega
        case rel=>exact⟨k+1,by omega,rfl,by rw[List.replicate_succ',<-List.append_assoc,<-HBk.out];exact H5⟩
       ·obtain rfl:k=z:=(by omega);go_wp2_with fail;go_meet;rw[<-HBD.out];exact HR
   case rest=>
    have H9:=Qh hcut.out;clear hcut;go_wp2_with fail;go_ret;exact⟨_,rfl,by rw[<-HEND.1];exact H9.out⟩
theorem zcc(neg:Bool)(D:List Nat)(b base:Nat)(v:Value)(w:World)(hI:Bu w base b v [] w)(hD:Dgs w b D)(h1:1<=D.length)(h2:D.length<=20)(p:Nat)(hp0:1<=p)(hp:p<=6)(hpn:p<D.length):
  Calls Tryz.prog 127 #[v,.bool neg,.slice (some ⟨b,0,none⟩) 32 32,.int .i64 (p:Int),.int .i64 (D.length:Int),.int .i64 (D.length:Int),.int .u8 103,.bool true] w fun e w'=>∃v',e=.returned v'/\Bu w base b v' (Us.qG neg D (p:Int)) w':=by
 have HI:=Qh (Qa hI hD);clear hI hD;obtain⟨nd,hnd⟩:∃nd,nd=D.length:=⟨_,rfl⟩;rw[<-hnd]at h1 h2 hpn⊢
 have hz:((nd:Int)==0)=false:=Qb (by omega);have HN:=Qh hnd;obtain⟨sg,hsg⟩:∃sg:List Nat,sg=(if neg then[45]else[]):=⟨_,rfl⟩;have hsl:sg.length<=1:=(by rw[hsg];split<;>simp);have HSG:=Qh hsg;have hA:decide ((p:Int)-1< -4)=false:=(by rw[decide_eq_false_iff_not];omega);have hB:decide (6<=(p:Int)-1)=false:=(by rw[decide_eq_false_iff_not];omega);have hC:decide (p<nd)=true:=(by rw[decide_eq_true_eq];omega);have hP:decide (0<(p:Int))=true:=(by rw[decide_eq_true_eq];omega);obtain⟨r,hr2⟩:∃r:Nat,p+r=nd:=⟨nd-p,by omega⟩;have hr1:1<=r:=(by omega);have hmin:min (nd:Int) (p:Int)=(p:Int):=(by omega);have hsub:(nd:Int)-(p:Int)=(r:Int):=(by omega);have hmx:max (r:Int) 0=(r:Int):=(by omega);have hmx2:max 0 (r:Int)=(r:Int):=(by omega);have hmx3:max 0 (-(p:Int))=0:=(by omega);have hmn2:min (r:Int) 0=0:=(by omega);have hPr:decide (0<(r:Int))=true:=(by rw[decide_eq_true_eq];omega);obtain⟨E,hE⟩:∃E,E=D.drop p:=⟨_,rfl⟩;have hDR:=HI.2.drop p r (by omega);rw[<-hE]at hDR;have hend:sg++D.take p++[46]++E=Us.qG neg D (p:Int):=(by unfold Us.qG Us.z5m;rw[if_neg (show¬D=[]from fun h=>by rw[h]at hnd;simp at hnd;omega),if_neg (show¬((p:Int)-1< -4\/6<=(p:Int)-1) by omega),if_pos (show(0:Int)<(p:Int) by omega),<-hsg,Int.toNat_natCast,<-hnd,if_pos (show p<nd by omega),show p-nd=0 by omega,<-hE];simp);have htd:E.take r=E:=List.take_of_length_le (by omega);have HEND:=Qh (Qa hend htd);have HDR:=Qh hDR;clear hend htd hDR hE;clear hnd hsg;go_in;go_upto_if 36 with(fail);go_cut[5,6]from 31 to 73 (fun s5 s6 wx=>s5=.int .i64 (r:Int)/\s6=.int .u8 102/\wx=w)
 case first=>
  go_wp2_with fail;all_goals(go_meet;exact⟨by go_num,rfl,rfl⟩)
 case rest=>
  obtain⟨rfl,rfl,hw⟩:=hcut;obtain rfl:w=wc:=hw.symm;go_upto_if 178 with(fail);go_cut[0]from 177 to 181 (fun s0 wx=>Hid (Bu w base b s0 sg wx))
  case first=>
   cases neg
   ·have hsg:sg=[]:=HSG.out;subst hsg;go_wp2_with fail;go_meet;exact HI.1
   ·have hsg:sg=[45]:=HSG.out
    (subst hsg;go_wp2_with(at_builtin;go_must(refine yj HI.1 (by simp) (45) (45) ?_ ?_ rfl (.tmp 179) (.tmp 180) rfl rfl rfl ?_));try any_goals(first|with_reducible rfl|(show(_:Int)=_;rfl)|exact cell_one_new _ _ _ 0 _ rfl));intro v1 w1 h'
    have H1:=Qh h';clear h';go_wp2_with fail;go_meet;exact H1.out
  case rest=>
   have HS:=Qh hcut.out;clear hcut;go_upto_if 183 with(fail);obtain⟨BD,hBD⟩:∃BD,BD=sg++D.take p:=⟨_,rfl⟩;have hlD:BD.length<=100:=(by rw[hBD,List.length_append,List.length_take];omega);have HBD:=Qh hBD;clear hBD;go_cut[0,23,25]from 182 to 208 (fun s0 _ _ wx=>Hid (Bu w base b s0 BD wx))
   case first=>
    go_wp2_with fail;go_loopg[0,191,25] p (fun g s0 i _ wx=>∃k:Nat,g+k=p/\i=.int .i64 (k:Int)/\RowKit.Hid (Bu w base b s0 (sg++D.take k) wx))
    case atStart=>exact⟨0,by omega,rfl,Qh (by simpa using HS.out)⟩
    case round=>
     obtain⟨k,hgk,rfl,HR⟩:=hrel;by_cases hk:k<p
     ·have hcell:wr.cell? ⟨b,k,none⟩=some (.int .u8 (D.getD k 0:Nat)):=(HR.cell k).trans (HI.2 k (by rw[<-HN.out];omega))
      (have htk:D.take (k+1)=D.take k++[D.getD k 0]:=qM D k (by rw[<-HN.out];omega);have hlk:(sg++D.take k).length<=100:=(by rw[List.length_append,List.length_take];omega);obtain⟨ck,hck⟩:∃ck,ck=D.getD k 0:=⟨_,rfl⟩;rw[<-hck]at hcell htk;have HTK:=Qh htk;clear htk hck;obtain⟨Bk,hBk⟩:∃Bk,Bk=sg++D.take k:=⟨_,rfl⟩;rw[<-hBk]at HR hlk;have HBk:=Qh hBk;clear hBk;go_wp2_with(at_builtin;go_must(refine yj HR.out (by omega) ((ck:Nat):Int) ck ?_ ?_ rfl (.tmp 195) (.tmp 197) rfl rfl rfl ?_));try any_goals(first|with_reducible rfl|(show(_:Int)=_;rfl)|exact cell_one_new _ _ _ 0 _ rfl));intro v5 w5 h'
      have H5:=Qh h';clear h';go_wp2_with fail;go_roundg(gk-1)
      case measure=>omega
      case rel=>exact⟨k+1,by omega,rfl,by rw[HTK.out,<-List.append_assoc,<-HBk.out];exact H5⟩
     ·obtain rfl:k=p:=by omega
      have HG:=HR.out;rw[<-HBD.out]at HG;have HG:=Qh HG;clear HR;go_wp2_with fail;go_loopg[0,203] 0 (fun g s0 i wx=>i=.int .i64 0/\RowKit.Hid (Bu w base b s0 (BD) wx))
      case atStart=>exact⟨rfl,Qh HG.out⟩
      case round=>
       obtain⟨rfl,HR⟩:=hrel;have HG2:=Qh HR.out;go_wp2_with fail;go_meet;exact HG2
   case rest=>
    (have HG:=Qh hcut.out;clear hcut;go_wp2_with(at_builtin;go_must(refine yj HG.out (by omega) (46) (46) ?_ ?_ rfl (.tmp 214) (.tmp 215) rfl rfl rfl ?_));try any_goals(first|with_reducible rfl|(show(_:Int)=_;rfl)|exact cell_one_new _ _ _ 0 _ rfl));intro v6 w6 h'
    generalize hB6:BD++[46]=B6 at h';have hl6:B6.length<=101:=(by rw[<-hB6];simp;omega);have H6:=Qh h';have HB6:=Qh hB6;clear h' hB6;go_wp2_with fail;have HG:=Qh H6.out;go_loopg[0,240] 0 (fun g s0 i wx=>i=.int .i64 0/\RowKit.Hid (Bu w base b s0 (B6) wx))
    case atStart=>exact⟨rfl,Qh HG.out⟩
    case round=>
     obtain⟨rfl,HR⟩:=hrel;have HG2:=Qh HR.out;go_wp2_with fail;go_loopg[0,247,30] r (fun g s0 i _ wx=>∃k:Nat,g+k=r/\i=.int .i64 (k:Int)/\RowKit.Hid (Bu w base b s0 (B6++E.take k) wx))
     case atStart=>exact⟨0,by omega,rfl,Qh (by simpa using HG2.out)⟩
     case round=>
      obtain⟨k,hgk,rfl,HR⟩:=hrel;by_cases hk:k<r
      ·have hcell:wr.cell? ⟨b,p+k,none⟩=some (.int .u8 (E.getD k 0:Nat)):=(HR.cell _).trans (HDR.2 k (by rw[HDR.1];omega))
       (have htk:E.take (k+1)=E.take k++[E.getD k 0]:=qM E k (by rw[HDR.1];omega);have hlk:(B6++E.take k).length<=150:=(by rw[List.length_append,List.length_take];omega);obtain⟨ck,hck⟩:∃ck,ck=E.getD k 0:=⟨_,rfl⟩;rw[<-hck]at hcell htk;have HTK:=Qh htk;clear htk hck;obtain⟨Bk,hBk⟩:∃Bk,Bk=B6++E.take k:=⟨_,rfl⟩;rw[<-hBk]at HR hlk;have HBk:=Qh hBk;clear hBk;go_wp2_with(at_builtin;go_must(refine yj HR.out (by omega) ((ck:Nat):Int) ck ?_ ?_ rfl (.tmp 250) (.tmp 257) rfl rfl rfl ?_));try any_goals(first|with_reducible rfl|(show(_:Int)=_;rfl)|exact cell_one_new _ _ _ 0 _ rfl));intro v5 w5 h'
       have H5:=Qh h';clear h';go_wp2_with fail;go_roundg(gk-1)
       case measure=>omega
       case rel=>exact⟨k+1,by omega,rfl,by rw[HTK.out,<-List.append_assoc,<-HBk.out];exact H5⟩
      ·obtain rfl:k=r:=by omega
       have HG:=HR.out;rw[HEND.2]at HG;obtain⟨B9,hB9⟩:∃B9,B9=B6++E:=⟨_,rfl⟩;rw[<-hB9]at HG;have HB9:=Qh hB9;have HG:=Qh HG;clear hB9 HR;go_wp2_with fail;go_loopg[0,261] 0 (fun g s0 i wx=>i=.int .i64 0/\RowKit.Hid (Bu w base b s0 (B9) wx))
       case atStart=>exact⟨rfl,Qh HG.out⟩
       case round=>
        obtain⟨rfl,HR⟩:=hrel;have HG2:=Qh HR.out;go_wp2_with fail;go_ret;exact⟨_,rfl,by rw[<-HEND.1,<-HBD.out,HB6.out,<-HB9.out];exact HG2.out⟩
theorem zcd(neg:Bool)(D:List Nat)(b base:Nat)(v:Value)(w:World)(hI:Bu w base b v [] w)(hD:Dgs w b D)(h1:1<=D.length)(h2:D.length<=20)(d:Int)(hd0:-3<=d)(hd1:d<=0):
  Calls Tryz.prog 127 #[v,.bool neg,.slice (some ⟨b,0,none⟩) 32 32,.int .i64 d,.int .i64 (D.length:Int),.int .i64 (D.length:Int),.int .u8 103,.bool true] w fun e w'=>∃v',e=.returned v'/\Bu w base b v' (Us.qG neg D d) w':=by
 have HI:=Qh (Qa hI hD);clear hI hD;obtain⟨nd,hnd⟩:∃nd,nd=D.length:=⟨_,rfl⟩;rw[<-hnd]at h1 h2⊢
 have hz:((nd:Int)==0)=false:=Qb (by omega);have HN:=Qh hnd;obtain⟨sg,hsg⟩:∃sg:List Nat,sg=(if neg then[45]else[]):=⟨_,rfl⟩;have hsl:sg.length<=1:=(by rw[hsg];split<;>simp);have HSG:=Qh hsg;obtain⟨q,hq⟩:∃q:Nat,-d=(q:Int):=⟨(-d).toNat,by omega⟩;obtain⟨r,hr2⟩:∃r:Nat,nd+q=r:=⟨_,rfl⟩;have hA:decide (d-1< -4)=false:=(by rw[decide_eq_false_iff_not];omega);have hB:decide (6<=d-1)=false:=(by rw[decide_eq_false_iff_not];omega);have hC:decide (d<(nd:Int))=true:=(by rw[decide_eq_true_eq];omega);have hP:decide (0<d)=false:=(by rw[decide_eq_false_iff_not];omega);have hsub:(nd:Int)-d=(r:Int):=(by omega);have hmx:max (r:Int) 0=(r:Int):=(by omega);have hmx2:max 0 (nd:Int)=(nd:Int):=(by omega);have hmx3:max 0 (q:Int)=(q:Int):=(by omega);have hmn2:min (r:Int) (q:Int)=(q:Int):=(by omega);have hdq:d+(q:Int)=0:=(by omega);have hrq:(r:Int)-(q:Int)=(nd:Int):=(by omega);have hPr:decide (0<(r:Int))=true:=(by rw[decide_eq_true_eq];omega);have hDR:D.length=nd/\∀t,t<D.length->w.cell? ⟨b,t,none⟩=some (.int .u8 (D.getD t 0:Nat)):=⟨hnd.symm,HI.2⟩;have hend:sg++[48]++[46]++List.replicate q 48++D=Us.qG neg D d:=(by unfold Us.qG Us.z5m;rw[if_neg (show¬D=[]from fun h=>by rw[h]at hnd;simp at hnd;omega),if_neg (show¬(d-1< -4\/6<=d-1) by omega),if_neg (show¬(0<d) by omega),<-hsg,show(-d).toNat=q by omega];simp);have htd:D.take nd=D:=List.take_of_length_le (by omega);have HEND:=Qh (Qa hend htd);have HDR:=Qh hDR;clear hend htd hDR;clear hnd hsg;go_in;go_upto_if 36 with(fail);go_cut[5,6]from 31 to 73 (fun s5 s6 wx=>s5=.int .i64 (r:Int)/\s6=.int .u8 102/\wx=w)
 case first=>
  go_wp2_with fail;all_goals(go_meet;exact⟨by go_num,rfl,rfl⟩)
 case rest=>
  obtain⟨rfl,rfl,hw⟩:=hcut;obtain rfl:w=wc:=hw.symm;go_upto_if 178 with(fail);go_cut[0]from 177 to 181 (fun s0 wx=>Hid (Bu w base b s0 sg wx))
  case first=>
   cases neg
   ·have hsg:sg=[]:=HSG.out;subst hsg;go_wp2_with fail;go_meet;exact HI.1
   ·have hsg:sg=[45]:=HSG.out
    (subst hsg;go_wp2_with(at_builtin;go_must(refine yj HI.1 (by simp) (45) (45) ?_ ?_ rfl (.tmp 179) (.tmp 180) rfl rfl rfl ?_));try any_goals(first|with_reducible rfl|(show(_:Int)=_;rfl)|exact cell_one_new _ _ _ 0 _ rfl));intro v1 w1 h'
    have H1:=Qh h';clear h';go_wp2_with fail;go_meet;exact H1.out
  case rest=>
   have HS:=Qh hcut.out;clear hcut;go_upto_if 183 with(fail);go_cut[0,23,25]from 182 to 211 (fun s0 _ _ wx=>Hid (Bu w base b s0 (sg++[48]) wx))
   case first=>
    (go_wp2_with(at_builtin;go_must(refine yj HS.out (by omega) (48) (48) ?_ ?_ rfl (.tmp 209) (.tmp 210) rfl rfl rfl ?_));try any_goals(first|with_reducible rfl|(show(_:Int)=_;rfl)|exact cell_one_new _ _ _ 0 _ rfl));intro v2 w2 h'
    generalize hB2:sg++[48]=B2 at h';have hl2:B2.length<=100:=(by rw[<-hB2];simp;omega);have H2:=Qh h';have HB2:=Qh hB2;clear h' hB2;go_wp2_with fail;go_meet;rw[HB2.out];exact H2
   case rest=>
    (have HG:=Qh hcut.out;clear hcut;obtain⟨BD,hBD⟩:∃BD,BD=sg++[48]:=⟨_,rfl⟩;have hlD:BD.length<=100:=(by rw[hBD,List.length_append];simp;omega);rw[<-hBD]at HG;have HBD:=Qh hBD;clear hBD;go_wp2_with(at_builtin;go_must(refine yj HG.out (by omega) (46) (46) ?_ ?_ rfl (.tmp 214) (.tmp 215) rfl rfl rfl ?_));try any_goals(first|with_reducible rfl|(show(_:Int)=_;rfl)|exact cell_one_new _ _ _ 0 _ rfl));intro v6 w6 h'
    generalize hB6:BD++[46]=B6 at h';have hl6:B6.length<=101:=(by rw[<-hB6];simp;omega);have H6:=Qh h';have HB6:=Qh hB6;clear h' hB6;go_wp2_with fail;go_loopg[0,240] q (fun g s0 i wx=>∃k:Nat,g+k=q/\i=.int .i64 (k:Int)/\RowKit.Hid (Bu w base b s0 (B6++List.replicate k 48) wx))
    case atStart=>exact⟨0,by omega,rfl,Qh (by simpa using H6.out)⟩
    case round=>
     obtain⟨k,hgk,rfl,HR⟩:=hrel;by_cases hk:k<q
     ·obtain⟨Bk,hBk⟩:∃Bk,Bk=B6++List.replicate k 48:=⟨_,rfl⟩
      (have hlk:(B6++List.replicate k 48).length<=200:=(by rw[List.length_append,List.length_replicate];omega);rw[<-hBk]at HR hlk;have HBk:=Qh hBk;clear hBk;go_wp2_with(at_builtin;go_must(refine yj HR.out (by omega) (48) (48) ?_ ?_ rfl (.tmp 242) (.tmp 243) rfl rfl rfl ?_));try any_goals(first|with_reducible rfl|(show(_:Int)=_;rfl)|exact cell_one_new _ _ _ 0 _ rfl));intro v5 w5 h'
      have H5:=Qh h';clear h';go_wp2_with fail;go_roundg(gk-1)
      case measure=>omega
      case rel=>exact⟨k+1,by omega,rfl,by rw[List.replicate_succ',<-List.append_assoc,<-HBk.out];exact H5⟩
     ·obtain rfl:k=q:=by omega
      obtain⟨B8,hB8⟩:∃B8,B8=B6++List.replicate k 48:=⟨_,rfl⟩;have hl8:B8.length<=120:=(by rw[hB8,List.length_append,List.length_replicate];omega);have HG:=HR.out;rw[<-hB8]at HG;have HB8:=Qh hB8;have HG8:=Qh HG;clear HG HR hB8;obtain⟨q',hq'⟩:∃q',q'=k:=⟨_,rfl⟩;rw[<-hq']at*
      clear hgk hk;go_wp2_with fail;go_loopg[0,247,30] nd (fun g s0 i _ wx=>∃k:Nat,g+k=nd/\i=.int .i64 (k:Int)/\RowKit.Hid (Bu w base b s0 (B8++D.take k) wx))
      case atStart=>exact⟨0,by omega,rfl,Qh (by simpa using HG8.out)⟩
      case round=>
       obtain⟨k,hgk,rfl,HR⟩:=hrel;by_cases hk:k<nd
       ·have hcell:wr.cell? ⟨b,k,none⟩=some (.int .u8 (D.getD k 0:Nat)):=(HR.cell _).trans (HDR.2 k (by rw[HDR.1];omega))
        (have htk:D.take (k+1)=D.take k++[D.getD k 0]:=qM D k (by rw[HDR.1];omega);have hlk:(B8++D.take k).length<=150:=(by rw[List.length_append,List.length_take];omega);obtain⟨ck,hck⟩:∃ck,ck=D.getD k 0:=⟨_,rfl⟩;rw[<-hck]at hcell htk;have HTK:=Qh htk;clear htk hck;obtain⟨Bk,hBk⟩:∃Bk,Bk=B8++D.take k:=⟨_,rfl⟩;rw[<-hBk]at HR hlk;have HBk:=Qh hBk;clear hBk;go_wp2_with(at_builtin;go_must(refine yj HR.out (by omega) ((ck:Nat):Int) ck ?_ ?_ rfl (.tmp 250) (.tmp 257) rfl rfl rfl ?_));try any_goals(first|with_reducible rfl|(show(_:Int)=_;rfl)|exact cell_one_new _ _ _ 0 _ rfl));intro v5 w5 h'
        have H5:=Qh h';clear h';go_wp2_with fail;go_roundg(gk-1)
        case measure=>omega
        case rel=>exact⟨k+1,by omega,rfl,by rw[HTK.out,<-List.append_assoc,<-HBk.out];exact H5⟩
       ·obtain rfl:k=nd:=by omega
        have HG:=HR.out;rw[HEND.2]at HG;obtain⟨B9,hB9⟩:∃B9,B9=B8++D:=⟨_,rfl⟩;rw[<-hB9]at HG;have HB9:=Qh hB9;have HG:=Qh HG;clear hB9 HR;go_wp2_with fail;go_loopg[0,261] 0 (fun g s0 i wx=>i=.int .i64 0/\RowKit.Hid (Bu w base b s0 (B9) wx))
        case atStart=>exact⟨rfl,Qh HG.out⟩
        case round=>
         obtain⟨rfl,HR⟩:=hrel;have HG2:=Qh HR.out;go_wp2_with fail;go_ret;exact⟨_,rfl,by rw[<-HEND.1,<-HBD.out,HB6.out,<-HB8.out,<-HB9.out];exact HG2.out⟩
theorem zcb(neg:Bool)(b base:Nat)(v:Value)(w:World)(hI:Bu w base b v [] w):
  Calls Tryz.prog 127 #[v,.bool neg,.slice none 0 0,.int .i64 0,.int .i64 0,.int .i64 (-1),.int .u8 103,.bool true] w fun e w'=>∃v',e=.returned v'/\Bu w base b v' (Us.qG neg [] 0) w':=by
 have HI:=Qh hI;clear hI;cases neg
 ·go_in
  (go_wp2_with(at_builtin;go_must(refine yj HI.out (by simp) (48) (48) ?_ ?_ rfl (.tmp 209) (.tmp 210) rfl rfl rfl ?_));try any_goals(first|with_reducible rfl|(show(_:Int)=_;rfl)|exact cell_one_new _ _ _ 0 _ rfl));intro v1 w1 h'
  have H1:=Qh h';clear h';go_wp2_with fail;go_ret;exact⟨_,rfl,H1.out⟩
 ·go_in
  (go_wp2_with(at_builtin;go_must(refine yj HI.out (by simp) (45) (45) ?_ ?_ rfl (.tmp 179) (.tmp 180) rfl rfl rfl ?_));try any_goals(first|with_reducible rfl|(show(_:Int)=_;rfl)|exact cell_one_new _ _ _ 0 _ rfl));intro v1 w1 h'
  (have H1:=Qh h';clear h';go_wp2_with(at_builtin;go_must(refine yj H1.out (by simp) (48) (48) ?_ ?_ rfl (.tmp 209) (.tmp 210) rfl rfl rfl ?_));try any_goals(first|with_reducible rfl|(show(_:Int)=_;rfl)|exact cell_one_new _ _ _ 0 _ rfl));intro v2 w2 h'
  have H2:=Qh h';clear h';go_wp2_with fail;go_ret;exact⟨_,rfl,H2.out⟩
theorem zdF(neg:Bool)(D:List Nat)(dp:Int)(b base:Nat)(v:Value)(w:World)(hI:Bu w base b v [] w)(hD:Dgs w b D)(h1:1<=D.length)(h2:D.length<=20)(hd0:-400<=dp)(hd1:dp<=400):
  Calls Tryz.prog 127 #[v,.bool neg,.slice (some ⟨b,0,none⟩) 32 32,.int .i64 dp,.int .i64 (D.length:Int),.int .i64 (D.length:Int),.int .u8 103,.bool true] w fun e w'=>∃v',e=.returned v'/\Bu w base b v' (Us.qG neg D dp) w':=by
 by_cases hE:dp-1< -4\/6<=dp-1
 ·exact zcf neg D dp b base v w hI hD h1 h2 hd0 hd1 hE
 ·by_cases hp:0<dp
  ·obtain⟨p,rfl⟩:∃p:Nat,dp=(p:Int):=⟨dp.toNat,by omega⟩
   by_cases hn:D.length<=p
   ·exact zce neg D b base v w hI hD h1 h2 p (by omega) (by omega) hn
   ·exact zcc neg D b base v w hI hD h1 h2 p (by omega) (by omega) (by omega)
  ·exact zcd neg D b base v w hI hD h1 h2 dp (by omega) (by omega)
end Go.Proofs.YtkkecpamnnojoaaGreatDoor
namespace Go.Proofs.YtkkecpamnnojoaaGreatDoor.Us
def exb(u:Nat):Nat:=u/2^52%2048
def sh(u:Nat):Nat:=64-Lib.bitLen (Sm.zt u)
def mm(u:Nat):Nat:=Sm.zt u*2^sh u
def ee(u:Nat):Int:=(if exb u=0 then-1022 else(exb u:Int)-1023)-sh u-52
def dd(u:Nat):Nat:=shD (mm u) (ee u)
def pq(u:Nat):Int:=shP (mm u) (ee u)
def nz(u:Nat):Nat:=qT (dd u) (Lib.nDigits (dd u))
def z0w(u:Nat):List Nat:=(List.range (nz u)).map (digit (dd u) (Lib.nDigits (dd u)))
def zQ(u:Nat):List Nat:=if Sm.zt u=0 then qG (Sm.yv u) [] 0 else qG (Sm.yv u) (z0w u) (Lib.nDigits (dd u)+pq u)
theorem qf{x:Nat}(h0:x≠0)(hx:x<18446744073709551616):2^(Lib.bitLen x-1)<=x/\x<2^Lib.bitLen x/\1<=Lib.bitLen x:=by have h:=Sm.z8a x hx;have h1:1<=Lib.bitLen x:=(by refine Nat.succ_le_of_lt (Nat.pos_of_ne_zero fun e=>?_);have:=h.1;rw[e]at this;simp at this;exact h0 this);exact⟨h.2 h1,h.1,h1⟩
theorem z11(u:Nat)(hk:exb u<2047)(hm:Sm.zt u≠0):Ok (mm u) (ee u)/\11<=sh u/\sh u<=63:=by
 have hlt:=Sm.z1M u;obtain⟨b1,b2,b3⟩:=qf hm (by omega);have hl53:Lib.bitLen (Sm.zt u)<=53:=(by refine Nat.le_of_not_lt fun h=>?_;have:2^53<=2^(Lib.bitLen (Sm.zt u)-1):=Nat.pow_le_pow_right (by omega) (by omega);omega);have hsh:sh u+Lib.bitLen (Sm.zt u)=64:=(by unfold sh;omega);have e63:2^(Lib.bitLen (Sm.zt u)-1)*2^sh u=9223372036854775808:=(by rw[<-Nat.pow_add,show Lib.bitLen (Sm.zt u)-1+sh u=63 by omega]);have e64:2^Lib.bitLen (Sm.zt u)*2^sh u=18446744073709551616:=(by rw[<-Nat.pow_add,show Lib.bitLen (Sm.zt u)+sh u=64 by omega]);have hp:=Nat.two_pow_pos (sh u);have hm1:9223372036854775808<=mm u:=(by rw[<-e63];exact Nat.mul_le_mul_right _ b1);have hm2:mm u<18446744073709551616:=(by rw[<-e64];exact Nat.mul_lt_mul_of_pos_right b2 hp);refine⟨⟨hm1,hm2,?_,?_,?_⟩,by omega,by omega⟩
 ·unfold ee;split<;>omega
 ·unfold ee;split<;>omega
 ·have hz:zz (ee u)=sh u:=by
   unfold zz ee;by_cases h0:exb u=0
   ·rw[if_pos h0];have hsub:Sm.zt u<2^52:=(by unfold Sm.zt;unfold exb at h0;rw[if_pos h0];exact Nat.mod_lt _ (by decide));have hl52:Lib.bitLen (Sm.zt u)<=52:=(by refine Nat.le_of_not_lt fun h=>?_;have:2^52<=2^(Lib.bitLen (Sm.zt u)-1):=Nat.pow_le_pow_right (by omega) (by omega);omega);split<;>omega
   ·rw[if_neg h0];have hnor:2^52<=Sm.zt u:=(by unfold Sm.zt;unfold exb at h0;rw[if_neg h0];omega);have hl:Lib.bitLen (Sm.zt u)=53:=(by refine Nat.le_antisymm hl53 (Nat.le_of_not_lt fun h=>?_);have:2^Lib.bitLen (Sm.zt u)<=2^52:=Nat.pow_le_pow_right (by omega) (by omega);omega);rw[if_pos (by omega)];omega
  rw[hz];unfold mm;exact Nat.mul_mod_left _ _
theorem z8h{x s hi lo:Nat}(hx:x<18446744073709551616)(hx0:4611686018427387904<=x)(hhi:hi<18446744073709551616)(hhi0:9223372036854775808<=hi)(h1:s<=58):6<=usc x s hi lo:=by
 have u1:x*hi<18446744073709551616*18446744073709551616:=Nat.mul_lt_mul'' hx hhi;have u0:4611686018427387904*9223372036854775808<=x*hi:=Nat.mul_le_mul hx0 hhi0;unfold usc;have h1':x*hi/18446744073709551616<18446744073709551616:=(by omega);have h0':2305843009213693952<=x*hi/18446744073709551616:=(by omega);generalize x*hi/18446744073709551616=h at*
 generalize x*hi%18446744073709551616=m at*
 clear u1 u0;have p58:2^s<=2^58:=Nat.pow_le_pow_right (by omega) h1;have key:∀a,2305843009213693951<=a->∀b,6<=stk (a/2^s) b:=by
  intro a a0 b;have:=z0g (a/2^s) b;have l2:a/2^58<=a/2^s:=Nat.div_le_div_left p58 (Nat.two_pow_pos s);have e2:(2:Nat)^58=288230376151711744:=(by decide);rw[e2]at l2;generalize a/2^s=q at*
  omega
 by_cases hr:h%2^s≠0
 ·simp only[if_pos hr];exact key h (by omega) _
 ·simp only[if_neg hr];refine key _ ?_ _;split<;>omega
theorem zeu{m:Nat}{e:Int}(h:Ok m e):1<=shD m e/\shD m e<18446744073709551616/\ -350<=shP m e/\shP m e<=350:=by
 have hp:=z0A (m:=m) h.e0 h.e1;have hz:=z0x h.e0 h.e1;have hpm:=z1J (p:=pp m e) (by omega) (by omega);have hs:sft m e<=58/\5<=sft m e:=(by unfold sft;omega);have h1:=h.lo;have h2:=h.hi;have p62:2^(zz e-1)<=2^62:=Nat.pow_le_pow_right (by omega) (by omega);have e62:(2:Nat)^62=4611686018427387904:=(by decide);have hmn:4611686018427387904<=mnv m e/\mnv m e<18446744073709551616:=(by unfold mnv;have:=Nat.two_pow_pos (zz e-1);have e9:(2:Nat)^9=512:=(by decide);split<;>omega);have u1:6<=uu m e (mnv m e):=z8h hmn.2 hmn.1 hpm.1 hpm.2.1 hs.1;have u3:6<=uu m e m:=z8h h2 (by omega) hpm.1 hpm.2.1 hs.1;have b1:uu m e (mnv m e)<9223372036854775800:=(z00 (lo:=qO (pp m e)) hmn.2 hmn.1 hpm.1 hpm.2.1 hs.2 hs.1).2;have b3:uu m e m<9223372036854775800:=(z00 (lo:=qO (pp m e)) h2 (by omega) hpm.1 hpm.2.1 hs.2 hs.1).2;have hdm:2<=dmn m e:=(by unfold dmn;omega);have hdm2:dmn m e<4611686018427387904:=(by unfold dmn odd;omega);have hr3:1<=rnd (uu m e m)/\rnd (uu m e m)<4611686018427387904:=(by unfold rnd;omega);have hmx:mxv m e<18446744073709551616*2:=(by unfold mxv;omega);have hpr:=hp;unfold shD shP;by_cases c1:dmn m e<=dmx m e/10*10
 ·rw[if_pos c1,if_pos c1]
  refine⟨?_,?_,?_,?_⟩
  ·omega
  ·have b2:uu m e (mxv m e)<18446744073709551616*2:=by
    unfold uu usc;have u1:mxv m e*yK (pp m e)<18446744073709551616*2*18446744073709551616:=Nat.mul_lt_mul'' hmx hpm.1;have hq:mxv m e*yK (pp m e)/18446744073709551616<18446744073709551616*2:=(by omega);generalize mxv m e*yK (pp m e)/18446744073709551616=hh at*
    have p5:2^1<=2^sft m e:=Nat.pow_le_pow_right (by omega) (by omega);have key:∀a,a<18446744073709551616*2->∀b,stk (a/2^sft m e) b<18446744073709551616*2:=(by intro a ha b;have:=z0g (a/2^sft m e) b;have l1:a/2^sft m e<=a/2^1:=Nat.div_le_div_left p5 (by decide);omega);by_cases hr:hh%2^sft m e≠0
    ·simp only[if_pos hr];exact key _ hq _
    ·simp only[if_neg hr];refine key _ ?_ _;split<;>omega
   unfold dmx;omega
  ·show-350<=1-pp m e;omega
  ·show 1-pp m e<=350;omega
 ·rw[if_neg c1,if_neg c1]
  split
  ·exact⟨hr3.1,by omega,by omega,by omega⟩
  ·exact⟨by omega,by omega,by omega,by omega⟩
theorem z5J:∀(n u:Nat),u≠0->u<10^n->1<=qT u n:=by
 intro n
 induction n with
 |zero=>intro u h0 h;simp at h;exact absurd h h0
 |succ n ih=>
  intro u h0 h;rw[z1a];split
  ·refine ih _ ?_ ?_
   ·omega
   ·rw[Nat.pow_succ]at h;omega
  ·omega
theorem z3A{u:Nat}(h:Ok (mm u) (ee u)):1<=dd u/\dd u<18446744073709551616/\ -350<=pq u/\pq u<=350:=by have h1:=zeu h;have e1:dd u=shD (mm u) (ee u):=rfl;have e2:pq u=shP (mm u) (ee u):=rfl;rw[<-e1,<-e2]at h1;exact h1
theorem z4a{u:Nat}(hm:Sm.zt u≠0):zQ u=qG (Sm.yv u) (z0w u) (Lib.nDigits (dd u)+pq u):=by unfold zQ;rw[if_neg hm]
theorem zeE{u:Nat}(h:Ok (mm u) (ee u))(hn:Lib.nDigits (dd u)<=20):-1000<=pq u/\pq u<=1000/\ -400<=(Lib.nDigits (dd u):Int)+pq u/\(Lib.nDigits (dd u):Int)+pq u<=400:=by
 have h1:=z3A h;generalize pq u=p at*
 generalize Lib.nDigits (dd u)=n at*
 omega
end Go.Proofs.YtkkecpamnnojoaaGreatDoor.Us
namespace Go.Proofs.YtkkecpamnnojoaaGreatDoor
open Go.ChangeShapes Go.WideShapes Go.ChangeAt Go.RowKit
open Bt
structure Tb (B:Nat) (w:World):Prop where
 pows:∀w',Below B w w'->z0t w'
 tens:Lib.TabBelow Tryz.prog B w "internal/strconv.uint64pow10" .u64 Lib.pow10Tab
 lt:6<B
 size:B<=w.heap.size
theorem Tb.on{B:Nat}{w w':World}(h:Tb B w)(hb:Below B w w'):Tb B w':=
 ⟨fun w2 h2=>h.pows w2 (hb.trans h2),fun w2 h2=>h.tens w2 (hb.trans h2),h.lt,Nat.le_trans h.size hb.size⟩
theorem z4K(x:Nat)(w:World):(callFunc 124 #[.float .f64 x]).run Tryz.prog w=.ok (.value (.int .u64 x)) w:=by kernel_rfl
theorem qn(x:Int)(w:World):(callFunc 190 #[.int .u64 x]).run Tryz.prog w=.ok (.value (.float .f64 x.toNat)) w:=by kernel_rfl
def Txt(base:Nat)(w:World)(B:List Nat)(e:Ending)(w':World):Prop:=
 ∃v',e=.returned v'/\w'.ownsRow base 5 1 v' B.length (u8s B)/\Below base w w'
theorem z9X(u base:Nat)(v:Value)(w:World)(hu:u<18446744073709551616)(hm:Sm.zt u=0)(hv:w.ownsRow base 5 1 v 0 [])(hT:Tb base w):
  Calls Tryz.prog 108 #[v,.float .f64 u,.int .u8 103,.int .i64 (-1)] w (Txt base w (Us.zQ u)):=by
 have hI:Bu w base 6 v [] w:=⟨hv,fun h=>by have:=(hv.lt _ h).1;have:=hT.lt;omega,Below.refl _ _,hT.size,Nat.lt_of_lt_of_le hT.lt hT.size,fun _=>rfl⟩;have hF:=fun n=>zcb (Sm.yv u) _ base v (w.drewN n) (⟨hI.own,hI.apart,Below.refl _ _,hI.base,hI.lt,fun _=>rfl⟩:Bu (w.drewN n) base _ v [] (w.drewN n));have he:u/2^52%2048=0/\u%2^52=0:=(by unfold Sm.zt at hm;split at hm<;>omega);have h1:=Sm.z0s u hu;have h2:=Sm.z6V u hu;rw[he.1,Sm.z0L _ (by omega) (by omega)]at h1;rw[he.2]at h2;have h1:bits BinOp.and IntKind.i64 ((u:Int)/4503599627370496) 2047=0:=h1;have h2:bits BinOp.and IntKind.u64 (u:Int) 4503599627370495=0:=h2;have ht:Us.zQ u=Us.qG (Sm.yv u) [] 0:=(by unfold Us.zQ;rw[if_pos hm]);rw[ht];obtain⟨ng,hng⟩:∃ng:Bool,ng=Sm.yv u:=⟨_,rfl⟩;have hn:((u:Int)/9223372036854775808 != 0)=ng:=(by rw[hng];unfold Sm.yv;rw[Bool.eq_iff_iff,bne_iff_ne,decide_eq_true_eq];omega);rw[<-hng]at hF⊢
 have HF:=Qh hF;have hbits:=z4K;clear hF hI hv hT ht hm he hng;go_in;go_wp2_with fail;go_quiet(fail);go_wp2_with fail;refine(HF.out nq).mono ?_;rintro e w1 ⟨v',rfl,h'⟩;have H':=Qh h';clear h';go_wp2_with fail;go_ret;exact⟨_,rfl,H'.own,(zv (Below.refl _ w) nq).trans H'.below⟩
theorem z9I{base n:Nat}{e:TypeId}{v:Value}{xs:List Value}{w w':World}(h:w.ownsRow base e 1 v n xs)(hb:Below w.heap.size w w'):w'.ownsRow base e 1 v n xs:=
 h.kept (row:=none) ⟨hb.os,hb.tape,hb.output,hb.size,fun k hk _=>hb.block k hk⟩ (by cases v.ownBlock<;>simp)
theorem zbo{base n b:Nat}{e:TypeId}{v:Value}{xs:List Value}{w w':World}(h:w.ownsRow base e 1 v n xs)(hb:Keep (·=b) w w')(hv:v.ownBlock≠some b):w'.ownsRow base e 1 v n xs:=
 h.kept (row:=some b) ⟨hb.os,hb.tape,hb.output,hb.size,fun k hk hn=>hb.block k hk (fun e=>hn (by rw[e]))⟩ (Or.inr hv)
theorem z5f(u:Nat):(Us.z0w u).length=Us.nz u:=by unfold Us.z0w;simp
theorem zf4{w:World}{b u:Nat}(h:z8f w b (Us.dd u) (Lib.nDigits (Us.dd u))):Dgs w b (Us.z0w u):=by intro t ht;rw[z5f]at ht;have hle:Us.nz u<=Lib.nDigits (Us.dd u):=Us.z1t _ _;rw[h t (by omega)];have e:(Us.z0w u).getD t 0=Us.digit (Us.dd u) (Lib.nDigits (Us.dd u)) t:=(by unfold Us.z0w;rw[List.getD_eq_getElem?_getD,List.getElem?_map,List.getElem?_range ht,Option.map_some,Option.getD_some]);rw[e]
theorem z9Y(u base:Nat)(v:Value)(w:World)(hu:u<18446744073709551616)(hk:Us.exb u<2047)(hm:Sm.zt u≠0)(hv:w.ownsRow base 5 1 v 0 [])(hT:Tb base w):
  Calls Tryz.prog 108 #[v,.float .f64 u,.int .u8 103,.int .i64 (-1)] w (Txt base w (Us.zQ u)):=by
 obtain⟨hok,hs1,hs2⟩:=Us.z11 u hk hm;have hsp:=Us.z3A hok;rw[Us.z4a hm];have hnd:=Lib.nDigits_le20 (Us.dd u) hsp.2.1;have hnp:=Lib.nDigits_pos (Us.dd u);have hnl:=Lib.lt_pow_nDigits (Us.dd u);have hpq:=Us.zeE hok hnd;have hz1:1<=Us.nz u:=Us.z5J _ _ (Nat.one_le_iff_ne_zero.1 hsp.1) hnl;have hz2:Us.nz u<=20:=Nat.le_trans (Us.z1t _ _) hnd;have h1:=Sm.z0s u hu;have h2:=Sm.z6V u hu;rw[Sm.z0L _ (by omega) (by omega)]at h1;have hml:=Sm.z1M u;have hbl:=Us.qf hm (by omega);have hLen:=fun w=>Tryz.bits_Len64 ((Sm.zt u:Nat):Int) w (by omega) (by omega);simp only[Int.toNat_natCast]at hLen;have hsub:64-(Lib.bitLen (Sm.zt u):Int)=((Us.sh u:Nat):Int):=(by have e:Us.sh u=64-Lib.bitLen (Sm.zt u):=rfl;clear hLen h1 h2 hnl;omega);have hshl:IntKind.u64.wrap (((Sm.zt u:Nat):Int)*2^Us.sh u)=((Us.mm u:Nat):Int):=(by have e:(((Sm.zt u:Nat):Int)*2^Us.sh u)=((Us.mm u:Nat):Int):=(by unfold Us.mm;push_cast;rfl);have hh:=hok.hi;clear hLen h1 h2 hnl hsub;rw[e,IntKind.wrap_u64];omega);have hS:∀w,z0t w->6<w.heap.size->Calls Tryz.prog 136 #[.int .u64 ((Us.mm u:Nat):Int),.int .i64 (Us.ee u)] w fun en w'=>en=.returned (.tuple #[.int .u64 (Us.dd u:Nat),.int .i64 (Us.pq u)])/\Below w.heap.size w w':=fun w hP hg=>z9e (Us.mm u) (Us.ee u) w hok hP hg;have hN:=fun w ht=>Tryz.internal_strconv_numDigits (Us.dd u) hsp.1 hsp.2.1 w ht;have hD:∀(b:Nat) (t:TypeId) (w:World),w.heap[b]?=some (.cells (Array.replicate 32 (.int .u8 0)) t (0,0))->Calls Tryz.prog 130 #[.slice (some ⟨b,0,none⟩) 32 32,.int .u64 ((Us.dd u:Nat):Int),.int .i64 (Us.pq u),.int .i64 (Lib.nDigits (Us.dd u):Int)] w fun e w'=>e=.returned (.tuple #[.int .i64 (Lib.nDigits (Us.dd u)+Us.pq u),.int .i64 (Us.nz u:Nat)])/\RowKit.Hid (z8f w' b (Us.dd u) (Lib.nDigits (Us.dd u))/\Keep (·=b) w w'):=fun b t w hb=>z3S b (Us.dd u) (Lib.nDigits (Us.dd u)) (Us.pq u) t w hb hnd hnl hsp.2.1 hpq.1 hpq.2.1
 have hF:=fun b w (hI:Bu w base b v [] w) (hg:Dgs w b (Us.z0w u))=>zdF (Sm.yv u) (Us.z0w u) (Lib.nDigits (Us.dd u)+Us.pq u) b base v w hI hg (by rw[z5f];exact hz1) (by rw[z5f];exact hz2) hpq.2.2.1 hpq.2.2.2;simp only[z5f]at hF;obtain⟨ng,hng⟩:∃ng:Bool,ng=Sm.yv u:=⟨_,rfl⟩;have hn:((u:Int)/9223372036854775808 != 0)=ng:=(by rw[hng];unfold Sm.yv;rw[Bool.eq_iff_iff,bne_iff_ne,decide_eq_true_eq];omega);rw[<-hng]at hF⊢
 have hdg:∀(w:World) (b:Nat),z8f w b (Us.dd u) (Lib.nDigits (Us.dd u))->Dgs w b (Us.z0w u):=fun w b h=>zf4 h;have HDG:=Qh hdg;clear hdg;have hex:u/2^52%2048=Us.exb u:=rfl;rw[hex]at h1;have hor:Us.exb u≠0->bits BinOp.or IntKind.u64 ((u%2^52:Nat):Int) 4503599627370496=((Sm.zt u:Nat):Int):=fun h0=>(by have e:Sm.zt u=u%2^52+4503599627370496:=(by unfold Sm.zt;rw[if_neg (by rw[hex];exact h0)]);rw[e];exact Sm.zdb _ (Nat.mod_lt _ (by decide)));have hsub0:Us.exb u=0->Sm.zt u=u%2^52:=fun h0=>(by unfold Sm.zt;rw[if_pos (by rw[hex];exact h0)]);have hee:∀x:Nat,x=Us.exb u->Us.ee u=(if x=0 then-1022 else(x:Int)-1023)-(Us.sh u:Int)-52:=fun x h=>(by rw[h];rfl);have hmne:(((Sm.zt u:Nat):Int)==0)=false:=Qb (by omega);have HS:=Qh (Qa hS (Qa hT hv));have HL:=Qh hLen;have HN:=Qh hN;have HD:=Qh hD;have HF:=Qh hF;have HOR:=Qh (Qa hor hsub0);have HEE:=Qh hee;clear hS hT hv hLen hN hD hF hor hsub0 hee hng hok hsp hnl hex hbl hpq;generalize Us.exb u=X at*
 generalize u%2^52=fr at*
 generalize Sm.zt u=M at*
 generalize Us.sh u=S at*
 generalize Us.mm u=MM at*
 generalize Us.ee u=EE at*
 generalize Us.z0w u=DG at*
 generalize Us.dd u=DD at*
 generalize Us.pq u=PQ at*
 generalize Us.nz u=NZ at*
 have hbits:=z4K;have hX1:((X:Int)==2047)=false:=Qb (by omega);go_in;go_wp2_with fail;go_quiet(fail);go_upto_if 78 with(fail);go_cut[14,15]from 77 to 84 (fun s14 s15 wx=>∃ex:Int,s14=.int .i64 ex/\s15=.int .u64 (M:Int)/\RowKit.Hid (ex-1023-S-52=EE/\1<=ex/\ex<=2047)/\wx=w.drewN nq)
 case first=>
  by_cases h0:X=0
  ·have hb:((X:Int)==0)=true:=(by rw[beq_iff_eq];omega);have hM:=HOR.2 h0;subst h0;subst hM;go_wp2_with fail;go_meet;exact⟨1,rfl,rfl,Qh ⟨by have:=HEE.out 0 rfl;rw[if_pos rfl]at this;omega,by omega,by omega⟩,rfl⟩
  ·have hb:((X:Int)==0)=false:=Qb (by omega);have hM:=HOR.1 h0;go_wp2_with fail;go_meet;exact⟨X,rfl,rfl,Qh ⟨by have:=HEE.out X rfl;rw[if_neg h0]at this;omega,by omega,by omega⟩,rfl⟩
 case rest=>
  obtain⟨ex,rfl,rfl,HEX,hw⟩:=hcut;subst hw;obtain⟨hex1,hex2⟩:=HEX.2;have hx2:ex-1023-(S:Int)-52=EE:=HEX.1;clear HEE HOR HEX h1 h2 hn;go_wp2_with fail;refine(HL.out _).mono ?_;rintro e w' ⟨rfl,rfl⟩;go_wp2_with fail;obtain⟨wA,hwA⟩:∃wA,wA=(w.drewN nq).alloc (.cells (Array.replicate 32 (.int .u8 0)) 170):=⟨_,rfl⟩;have hbA:Below base w wA:=(by rw[hwA];exact(zv (Below.refl _ w) nq).alloc HS.2.1.size _);have hblk:wA.heap[w.heap.size]?=some (.cells (Array.replicate 32 (.int .u8 0)) 170 (0,0)):=(by rw[hwA];exact zm (w.drewN nq) _);have hTA:=HS.2.1.on hbA;have hvA:wA.ownsRow base 5 1 v 0 []:=(by rw[hwA];exact World.ownsRow.alloc (w:=w.drewN nq) HS.2.2 _);have HA:=Qh (Qa hbA (Qa hblk (Qa hTA (Qa hvA (HS.1 wA (hTA.pows _ (Below.refl _ _)) (Nat.lt_of_lt_of_le hTA.lt hTA.size))))));have HAW:=Qh hwA;clear hbA hblk hTA hvA hwA;have hEE:ex+ -1023-(S:Int)-52=EE:=(by omega);rw[hEE];have hwA:=HAW.out;have HC:=HA.2.2.2.2;rw[hwA]at HC;refine HC.mono ?_;rintro e w1 ⟨rfl,hb⟩;rw[<-hwA]at hb;have hbk:w1.heap[w.heap.size]?=some (.cells (Array.replicate 32 (.int .u8 0)) 170 (0,0)):=(by rw[hb.block _ (lt_of_block HA.2.1)];exact HA.2.1);have hb1:Below base w w1:=HA.1.trans (hb.mono (Nat.le_trans HS.2.1.size HA.1.size));have hv1:=z9I HA.2.2.2.1 hb;have hvb:v.ownBlock≠some w.heap.size:=fun h=>(by have:=(HS.2.2.lt _ h).2;omega);have HT1:=HS.2.1.on hb1;have hbB:base<=w.heap.size:=HS.2.1.size;have HDd:=Qh (fun n=>HD.out w.heap.size _ (w1.drewN n) hbk);have HNn:=Qh (fun n=>HN.out (w1.drewN n) (HT1.tens _ (zv (Below.refl _ _) n)));have H1:=Qh (Qa hb1 (Qa hv1 (Qa hvb (Qa HT1 (Qa hbB (lt_of_block hbk))))));clear hb hbk hb1 hv1 hvb HT1 hbB HC hwA HA HAW;go_wp2_with fail;obtain⟨dp,hdp⟩:∃dp:Int,dp=(Lib.nDigits DD:Int)+PQ:=⟨_,rfl⟩;simp only[<-hdp]at HDd HF;have HDP:=Qh hdp;clear hdp;go_cut[22,23]from 139 to 147 (fun s22 s23 wx=>s22=.int .i64 dp/\s23=.int .i64 (NZ:Int)/\RowKit.Hid (z8f wx w.heap.size DD (Lib.nDigits DD)/\Keep (·=w.heap.size) w1 wx))
  case first=>
   go_region_with(first|(go_at_call 120;refine(HNn.out 1).mono ?_;rintro e w' ⟨rfl,rfl⟩)|(go_at_call 130;refine(HDd.out 1).mono ?_;rintro e w' ⟨rfl,hw⟩))
   all_goals
    have hw2:=hw.out;have HW:=Qh hw2;clear hw hw2;go_wp2_with fail;go_meet;exact⟨rfl,rfl,Qh ⟨HW.1,(((Keep.refl _ w1).drewN 1).trans HW.2)⟩⟩
  case rest=>
   obtain⟨rfl,rfl,HW⟩:=hcut;have hbk:=HW.2;have hv2:=zbo H1.2.1 hbk H1.2.2.1;have hbe:Below base w wc:=H1.1.trans (hbk.below H1.2.2.2.1.size (fun k hk=>by rw[hk];exact H1.2.2.2.2.1));have hI:Bu wc base w.heap.size v [] wc:=⟨hv2,H1.2.2.1,Below.refl _ _,Nat.le_trans HS.2.1.size hbe.size,Nat.lt_of_lt_of_le H1.2.2.2.2.2 hbk.size,fun _=>rfl⟩;have HFF:=Qh (HF.out w.heap.size wc hI (HDG.out _ _ HW.1));have HBE:=Qh (Qa hbe HDP.out);clear hbk hv2 hbe hI HW HDd HNn H1;go_wp2_with fail;refine HFF.mono ?_;rintro e w3 ⟨v',rfl,h'⟩;have H':=Qh h';clear h';go_wp2_with fail;go_ret;exact⟨_,rfl,by rw[<-HBE.2];exact H'.own,HBE.1.trans H'.below⟩
theorem zca(u base:Nat)(v:Value)(w:World)(hu:u<18446744073709551616)(hk:Us.exb u<2047)(hv:w.ownsRow base 5 1 v 0 [])(hT:Tb base w):
  Calls Tryz.prog 108 #[v,.float .f64 u,.int .u8 103,.int .i64 (-1)] w (Txt base w (Us.zQ u)):=by
 by_cases hm:Sm.zt u=0
 ·exact z9X u base v w hu hm hv hT
 ·exact z9Y u base v w hu hk hm hv hT
end Go.Proofs.YtkkecpamnnojoaaGreatDoor
namespace Go.Proofs.YtkkecpamnnojoaaGreatDoor
open Go.ChangeShapes Go.WideShapes Go.ChangeAt Go.RowKit
open Bt
def yQ(B:List Nat):ByteArray:=strOfNums (B.map fun n:Nat=>(n:Int))
theorem z6C(neg:Bool)(D:List Nat)(dp:Int):0<(Us.qG neg D dp).length:=by
 unfold Us.qG;rw[List.length_append];by_cases hD:D=[]
 ·rw[if_pos hD];simp
 ·rw[if_neg hD]
  have hl:0<D.length:=List.length_pos_iff.2 hD;by_cases hE:dp-1< -4\/6<=dp-1
  ·rw[if_pos hE];unfold Us.za0;rw[List.length_append,List.length_cons];omega
  ·rw[if_neg hE]
   unfold Us.z5m;by_cases hp:0<dp
   ·rw[if_pos hp,List.length_append,List.length_append,List.length_take];omega
   ·rw[if_neg hp];simp;omega
theorem z4b(u:Nat):0<(Us.zQ u).length:=by
 unfold Us.zQ;split
 ·exact z6C _ _ _
 ·exact z6C _ _ _
theorem zcx{base:Nat}{v:Value}{B:List Nat}{w:World}(h:w.ownsRow base 5 1 v B.length (u8s B))(hB:0<B.length):(convert 53 9 v).run Tryz.prog w=.ok (.string (yQ B)) w:=by
 rcases h.2 with⟨h1,h2⟩|⟨g,cap,cells,rfl,-⟩
 ·omega
 ·refine run_convert_bytes_arg w 53 5 Tryz.underlying53 Tryz.underlying5 g 0 _ cap _ (by simp) (fun i hi=>?_) 9 Tryz.underlying9;have hc:=h.cells rfl i _ (z4Z B i hi);rw[qg,Nat.zero_add]at hc;rw[Nat.zero_add,hc,List.getD_eq_getElem?_getD,List.getD_eq_getElem?_getD,List.getElem?_map,List.getElem?_eq_getElem hi];rfl
theorem z6w(u:Nat)(w:World)(hu:u<18446744073709551616)(hk:Us.exb u<2047)(hT:Tb w.heap.size w):
  Calls Tryz.prog 95 #[.float .f64 u,.int .u8 103,.int .i64 (-1),.int .i64 64] w fun e w'=>e=.returned (.string (yQ (Us.zQ u)))/\Below w.heap.size w w':=by
 have hmk:∀w:World,(Instr.makeSlice 53 (.int .i64 0) (.int .i64 (max 3 24))).run Tryz.prog w=.ok (.slice (some ⟨w.heap.size,0,none⟩) 0 24) (w.alloc (.cells (Array.replicate 24 (.int .u8 0)) 5)):=fun _=>(by kernel_rfl);have hown:(w.alloc (.cells (Array.replicate 24 (.int .u8 0)) 5)).ownsRow w.heap.size 5 1 (.slice (some ⟨w.heap.size,0,none⟩) 0 24) 0 []:=World.ownsRow_made w _ 24 (Nat.le_refl _) (by unfold maxLen;omega) (by simp);have hb:Below w.heap.size w (w.alloc (.cells (Array.replicate 24 (.int .u8 0)) 5)):=(Below.refl _ w).alloc (Nat.le_refl _) _;have HF:=Qh (zca u w.heap.size _ _ hu hk hown (hT.on hb));have HB:=Qh hb;clear hb hown hT;obtain⟨B,hB⟩:∃B,B=Us.zQ u:=⟨_,rfl⟩;have hpos:0<B.length:=(by rw[hB];exact z4b u);rw[<-hB]at HF⊢
 clear hB;go_in;go_wp2_with fail;refine HF.mono ?_;rintro e w1 ⟨v,rfl,hown,hb1⟩;have hcv:=zcx hown hpos;have H1:=Qh (HB.trans hb1);clear hown hb1 HF HB hmk;go_wp2_with fail;go_ret;exact⟨rfl,H1.out⟩
theorem z3s(u:Nat)(w:World)(hu:u<18446744073709551616)(hk:Us.exb u<2047)(hT:Tb w.heap.size w):
  Calls Tryz.prog 70 #[.float .f64 u,.int .u8 103,.int .i64 (-1),.int .i64 64] w fun e w'=>e=.returned (.string (yQ (Us.zQ u)))/\Below w.heap.size w w':=by
 have HF:=Qh (z6w u w hu hk hT);go_in;go_wp2_with fail;refine HF.mono ?_;rintro e w1 ⟨rfl,hb1⟩;have H1:=Qh hb1;clear hb1;go_wp2_with fail;go_ret;exact⟨rfl,H1.out⟩
end Go.Proofs.YtkkecpamnnojoaaGreatDoor
namespace Go.Proofs.YtkkecpamnnojoaaGreatDoor.Sm
open Go.ChangeShapes Go.WideShapes Go.ChangeAt Go.RowKit
def qe(u:Nat):Int:=
 if 9218868437227405312<u%9223372036854775808 then 1 else
 let above:Int:=if u%9223372036854775808=9218868437227405312 then 9 else if 4503599627370496<=u%9223372036854775808 then 8 else if 0<u%9223372036854775808 then 7 else 6
 if u<9223372036854775808 then above else 11-above
theorem z8d(a:Nat):bits BinOp.andNot IntKind.u64 (a:Int) 9223372036854775808=((a%9223372036854775808:Nat):Int):=by have h1:(BitVec.ofInt 64 (a:Int)).toNat=a%2^64:=(by rw[BitVec.ofInt_natCast,BitVec.toNat_ofNat]);have h2:(~~~ (BitVec.ofInt 64 9223372036854775808)).toNat=2^63-1:=(by decide);show IntKind.u64.wrap ((BitVec.ofInt 64 (a:Int)&&&~~~ BitVec.ofInt 64 9223372036854775808).toNat:Int)=_;rw[BitVec.toNat_and,h1,h2,Nat.and_two_pow_sub_one_eq_mod,IntKind.wrap_u64];omega
theorem zah(u:Nat)(hu:u<18446744073709551616)(w:World):
  Calls Tryz.prog 92 #[.float .f64 u] w fun e w'=>e=.returned (.int .i64 (qe u))/\w'=w:=by
 have e1:=z1W;have e2:=z8d u;have HC:RowKit.Hid (qe u=(if 9218868437227405312<u%9223372036854775808 then 1 else if u<9223372036854775808 then(if u%9223372036854775808=9218868437227405312 then 9 else if 4503599627370496<=u%9223372036854775808 then 8 else if 0<u%9223372036854775808 then 7 else 6)else 11-(if u%9223372036854775808=9218868437227405312 then 9 else if 4503599627370496<=u%9223372036854775808 then 8 else if 0<u%9223372036854775808 then 7 else 6))):=Qh rfl;have HS:RowKit.Hid (u%9223372036854775808=0->u<9223372036854775808\/u=9223372036854775808):=Qh (by intro h;omega);clear hu;generalize u%9223372036854775808=s at*
 generalize qe u=c at*
 by_cases h1:9218868437227405312<s
 ·have g1:decide ((s:Int)>9218868437227405312)=true:=(by rw[decide_eq_true_eq];omega);have g1':decide (9218868437227405312<s)=true:=(by rw[decide_eq_true_eq];exact h1);have hv:c=1:=(by have h:=HC.out;simp only[if_pos h1]at h;exact h);have HV:=Qh hv;clear hv h1;go_in;go_wp2_with fail;go_ret;refine⟨?_,rfl⟩;rw[HV.out];rfl
 have g1:decide ((s:Int)>9218868437227405312)=false:=(by rw[decide_eq_false_iff_not];omega);have g1':decide (9218868437227405312<s)=false:=(by rw[decide_eq_false_iff_not];exact h1);by_cases h2:s=9218868437227405312
 ·by_cases h3:u<9223372036854775808
  ·have g2:((s:Int)==9218868437227405312)=true:=(by rw[beq_iff_eq];omega);have k1:decide ((u:Int)<9223372036854775808)=true:=(by rw[decide_eq_true_eq];omega);have k1':decide (u<9223372036854775808)=true:=(by rw[decide_eq_true_eq];exact h3);have hv:c=9:=(by have h:=HC.out;simp only[if_neg h1]at h;simp only[if_pos h3]at h;simp only[if_pos h2]at h;exact h);have HV:=Qh hv;clear hv h2 h1 h3;go_in;go_wp2_with fail;go_ret;refine⟨?_,rfl⟩;rw[HV.out];rfl
  ·have g2:((s:Int)==9218868437227405312)=true:=(by rw[beq_iff_eq];omega);have k1:decide ((u:Int)<9223372036854775808)=false:=(by rw[decide_eq_false_iff_not];omega);have k1':decide (u<9223372036854775808)=false:=(by rw[decide_eq_false_iff_not];exact h3);have hv:c=2:=(by have h:=HC.out;simp only[if_neg h1]at h;simp only[if_neg h3]at h;simp only[if_pos h2]at h;exact h);have HV:=Qh hv;clear hv h2 h1 h3;go_in;go_wp2_with fail;go_ret;refine⟨?_,rfl⟩;rw[HV.out];rfl
 have g2:((s:Int)==9218868437227405312)=false:=Qb (by omega);by_cases h4:4503599627370496<=s
 ·by_cases h3:u<9223372036854775808
  ·have g3:decide ((s:Int)>=4503599627370496)=true:=(by rw[decide_eq_true_eq];omega);have g3':decide (4503599627370496<=s)=true:=(by rw[decide_eq_true_eq];exact h4);have k1:decide ((u:Int)<9223372036854775808)=true:=(by rw[decide_eq_true_eq];omega);have k1':decide (u<9223372036854775808)=true:=(by rw[decide_eq_true_eq];exact h3);have hv:c=8:=(by have h:=HC.out;simp only[if_neg h1]at h;simp only[if_pos h3]at h;simp only[if_neg h2]at h;simp only[if_pos h4]at h;exact h);have HV:=Qh hv;clear hv h4 h2 h1 h3;go_in;go_wp2_with fail;go_ret;refine⟨?_,rfl⟩;rw[HV.out];rfl
  ·have g3:decide ((s:Int)>=4503599627370496)=true:=(by rw[decide_eq_true_eq];omega);have g3':decide (4503599627370496<=s)=true:=(by rw[decide_eq_true_eq];exact h4);have k1:decide ((u:Int)<9223372036854775808)=false:=(by rw[decide_eq_false_iff_not];omega);have k1':decide (u<9223372036854775808)=false:=(by rw[decide_eq_false_iff_not];exact h3);have hv:c=3:=(by have h:=HC.out;simp only[if_neg h1]at h;simp only[if_neg h3]at h;simp only[if_neg h2]at h;simp only[if_pos h4]at h;exact h);have HV:=Qh hv;clear hv h4 h2 h1 h3;go_in;go_wp2_with fail;go_ret;refine⟨?_,rfl⟩;rw[HV.out];rfl
 have g3:decide ((s:Int)>=4503599627370496)=false:=(by rw[decide_eq_false_iff_not];omega);have g3':decide (4503599627370496<=s)=false:=(by rw[decide_eq_false_iff_not];exact h4);by_cases h5:0<s
 ·by_cases h3:u<9223372036854775808
  ·have g4:decide ((s:Int)>0)=true:=(by rw[decide_eq_true_eq];omega);have g4':decide (0<s)=true:=(by rw[decide_eq_true_eq];exact h5);have k1:decide ((u:Int)<9223372036854775808)=true:=(by rw[decide_eq_true_eq];omega);have k1':decide (u<9223372036854775808)=true:=(by rw[decide_eq_true_eq];exact h3);have hv:c=7:=(by have h:=HC.out;simp only[if_neg h1]at h;simp only[if_pos h3]at h;simp only[if_neg h2]at h;simp only[if_neg h4]at h;simp only[if_pos h5]at h;exact h);have HV:=Qh hv;clear hv h5 h4 h2 h1 h3;go_in;go_wp2_with fail;go_ret;refine⟨?_,rfl⟩;rw[HV.out];rfl
  ·have g4:decide ((s:Int)>0)=true:=(by rw[decide_eq_true_eq];omega);have g4':decide (0<s)=true:=(by rw[decide_eq_true_eq];exact h5);have k1:decide ((u:Int)<9223372036854775808)=false:=(by rw[decide_eq_false_iff_not];omega);have k1':decide (u<9223372036854775808)=false:=(by rw[decide_eq_false_iff_not];exact h3);have hv:c=4:=(by have h:=HC.out;simp only[if_neg h1]at h;simp only[if_neg h3]at h;simp only[if_neg h2]at h;simp only[if_neg h4]at h;simp only[if_pos h5]at h;exact h);have HV:=Qh hv;clear hv h5 h4 h2 h1 h3;go_in;go_wp2_with fail;go_ret;refine⟨?_,rfl⟩;rw[HV.out];rfl
 ·by_cases h3:u<9223372036854775808
  ·have g4:decide ((s:Int)>0)=false:=(by rw[decide_eq_false_iff_not];omega);have g4':decide (0<s)=false:=(by rw[decide_eq_false_iff_not];exact h5);have k1:decide ((u:Int)<9223372036854775808)=true:=(by rw[decide_eq_true_eq];omega);have k1':decide (u<9223372036854775808)=true:=(by rw[decide_eq_true_eq];exact h3);have hv:c=6:=(by have h:=HC.out;simp only[if_neg h1]at h;simp only[if_pos h3]at h;simp only[if_neg h2]at h;simp only[if_neg h4]at h;simp only[if_neg h5]at h;exact h);have HV:=Qh hv;clear hv h5 h4 h2 h1 h3;go_in;go_wp2_with fail;go_ret;refine⟨?_,rfl⟩;rw[HV.out];rfl
  ·have g4:decide ((s:Int)>0)=false:=(by rw[decide_eq_false_iff_not];omega);have g4':decide (0<s)=false:=(by rw[decide_eq_false_iff_not];exact h5);have k1:decide ((u:Int)<9223372036854775808)=false:=(by rw[decide_eq_false_iff_not];omega);have k1':decide (u<9223372036854775808)=false:=(by rw[decide_eq_false_iff_not];exact h3);have hv:c=5:=(by have h:=HC.out;simp only[if_neg h1]at h;simp only[if_neg h3]at h;simp only[if_neg h2]at h;simp only[if_neg h4]at h;simp only[if_neg h5]at h;exact h);have HV:=Qh hv;clear hv h5 h4 h2 h1 h3;go_in;go_wp2_with fail;go_ret;refine⟨?_,rfl⟩;rw[HV.out];rfl
end Go.Proofs.YtkkecpamnnojoaaGreatDoor.Sm
namespace Go.Proofs.YtkkecpamnnojoaaGreatDoor
open Go.ChangeShapes Go.WideShapes Go.ChangeAt Go.RowKit
open Bt
def txt(u:Nat):ByteArray:=
 if 9218868437227405312<u%9223372036854775808 then⟨#[110,97,110]⟩
 else if u%9223372036854775808=9218868437227405312 then(if u<9223372036854775808 then⟨#[105,110,102]⟩else⟨#[45,105,110,102]⟩)
 else yQ (Us.zQ u)
theorem z77(u:Nat):txt u=(if 9218868437227405312<u%9223372036854775808 then⟨#[110,97,110]⟩
 else if u%9223372036854775808=9218868437227405312 then(if u<9223372036854775808 then⟨#[105,110,102]⟩else⟨#[45,105,110,102]⟩)
 else yQ (Us.zQ u)):=rfl
theorem z3D(u:Nat):(9218868437227405312<u%9223372036854775808->Sm.qe u=1)/\(u%9223372036854775808=9218868437227405312->u<9223372036854775808->Sm.qe u=9)/\(u%9223372036854775808=9218868437227405312->¬u<9223372036854775808->Sm.qe u=2)/\
  (u%9223372036854775808<9218868437227405312->3<=Sm.qe u/\Sm.qe u<=8):=by
 have h:Sm.qe u=(if 9218868437227405312<u%9223372036854775808 then 1 else if u<9223372036854775808 then(if u%9223372036854775808=9218868437227405312 then 9 else if 4503599627370496<=u%9223372036854775808 then 8 else if 0<u%9223372036854775808 then 7 else 6)else 11-(if u%9223372036854775808=9218868437227405312 then 9 else if 4503599627370496<=u%9223372036854775808 then 8 else if 0<u%9223372036854775808 then 7 else 6)):=rfl;refine⟨fun a=>?_,fun a b=>?_,fun a b=>?_,fun a=>?_⟩<;>rw[h]
 ·rw[if_pos a]
 ·rw[if_neg (by omega),if_pos b,if_pos a]
 ·rw[if_neg (by omega),if_neg b,if_pos a];rfl
 ·rw[if_neg (by omega)];have n:¬u%9223372036854775808=9218868437227405312:=(by omega);simp only[if_neg n];split<;>split<;>first|omega|(split<;>omega)
theorem z5O(u:Nat)(w:World)(hu:u<18446744073709551616)(hT:Tb w.heap.size w):
  Calls Tryz.prog 64 #[.float .f64 u] w fun e w'=>e=.returned (.string (txt u))/\Below w.heap.size w w':=by
 have hcs:=z3D u;have HC:=Qh (Sm.zah u hu);have hfin:u%9223372036854775808<9218868437227405312->Us.exb u<2047:=fun h=>(by show u/2^52%2048<2047;omega);have HX:=Qh (Qa hfin hT);have HTX:=Qh (z77 u);have HR:=Qh hcs;generalize Sm.qe u=c at*
 generalize txt u=tx at*
 clear hcs hfin hT;by_cases h1:9218868437227405312<u%9223372036854775808
 ·have e1:=HR.1 h1;have e2:=HTX.out;rw[if_pos h1]at e2;subst e1 e2;clear HR HTX HX h1;go_in;go_wp2_with fail;refine(HC.out _).mono ?_;rintro e w' ⟨rfl,hw⟩;obtain rfl:w=w':=hw.symm;go_wp2_with fail;go_ret;exact⟨rfl,Below.refl _ _⟩
 ·by_cases h2:u%9223372036854775808=9218868437227405312
  ·by_cases h3:u<9223372036854775808
   ·have e1:=HR.2.1 h2 h3;have e2:=HTX.out;rw[if_neg h1,if_pos h2,if_pos h3]at e2;subst e1 e2;clear HR HTX HX h1 h2 h3;go_in;go_wp2_with fail;refine(HC.out _).mono ?_;rintro e w' ⟨rfl,hw⟩;obtain rfl:w=w':=hw.symm;go_wp2_with fail;go_ret;exact⟨rfl,Below.refl _ _⟩
   ·have e1:=HR.2.2.1 h2 h3;have e2:=HTX.out;rw[if_neg h1,if_pos h2,if_neg h3]at e2;subst e1 e2;clear HR HTX HX h1 h2 h3;go_in;go_wp2_with fail;refine(HC.out _).mono ?_;rintro e w' ⟨rfl,hw⟩;obtain rfl:w=w':=hw.symm;go_wp2_with fail;go_ret;exact⟨rfl,Below.refl _ _⟩
  ·have e1:=HR.2.2.2 (by omega)
   have e2:=HTX.out;rw[if_neg h1,if_neg h2]at e2;subst e2;have HF:=Qh (z3s u w hu (HX.1 (by omega)) HX.2);have b1:(c==1)=false:=Qb (by omega);have b2:(c==2)=false:=Qb (by omega);have b9:(c==9)=false:=Qb (by omega);clear HR HTX HX h1 h2 e1;generalize yQ (Us.zQ u)=st at*
   go_in;go_wp2_with fail;refine(HC.out _).mono ?_;rintro e w' ⟨rfl,hw⟩;obtain rfl:w=w':=hw.symm;go_wp2_with fail;refine HF.mono ?_;rintro e w1 ⟨rfl,hb⟩;have HB:=Qh hb;clear hb;go_wp2_with fail;go_ret;exact⟨rfl,HB.out⟩
theorem zaA:txt 4602678819172646912=⟨#[48,46,53]⟩:=by decide+kernel
end Go.Proofs.YtkkecpamnnojoaaGreatDoor
namespace Go.Proofs.YtkkecpamnnojoaaGreatDoor
open Go.ChangeShapes Go.WideShapes Go.ChangeAt Go.RowKit
open Bt
def Opt(w:World):Prop:=w.cell? ⟨2,0,none⟩=some (.bool true)
end Go.Proofs.YtkkecpamnnojoaaGreatDoor
