/- A part of the proof of ScriptPrints: nothing is assumed. By an AI agent. -/
import Derived.Test.YtkkecpamnnojoaaGreatDoorBp22
import Derived.Test.YtkkecpamnnojoaaGreatDoorBp20
import Derived.Deep.RegionHeld3
import Derived.Test.YtkkecpamnnojoaaGreatDoorBp18
import Derived.Test.YtkkecpamnnojoaaGreatDoorBp19
import Derived.StillTailTactics
import Derived.Test.YtkkecpamnnojoaaGreatDoorBp16
set_option linter.unusedVariables false
set_option linter.unusedSimpArgs false
set_option maxRecDepth 100000
set_option maxHeartbeats 32000000
namespace Go.Proofs.YtkkecpamnnojoaaGreatDoor
open Go.ChangeShapes Go.WideShapes Go.ChangeAt Go.RowKit Go.Shelf
open Bt Dc By
attribute [local go_sem] Oper.semAt_some
namespace Sc

theorem rprint_few (m:M) (w:World) (hE:Ev w.heap.size w) (h:Seen w m) (hP:RprOk m) (hm:manyF m.play = false) :
  Calls Tryz.prog 15 #[.agg m.val] w fun e w'=>e = .returned (.tuple #[.string (strB (rprintF m.play).1),.int .i64 (rprintF m.play).2])∧Keep (fun _=>False) w w':=by
 have hmn:=many_not hm
 have HPF:=Lib.hid (show rprintF m.play = (if rknownF m.play = false then ([],1) else if 65536 < (rfullS m.play).length then ([],3) else (rfullS m.play,0)) from by unfold rprintF; rw [if_neg (by rw [hm]; decide)])
 have HKF:=Lib.hid (show rknownF m.play = (m.fs.all okK && m.ts.all (fun t=>t.l.all fun c=>rightF c.c) && m.es.all (fun e=>e.fs.all okK)) from by
  unfold rknownF; simp [M.play,List.all_map,Function.comp_def,ME.reopen])
 have HFU:=Lib.hid (show rfullS m.play = headS m.play ++ faultsS m.fs ++ m.ts.flatMap (fun t=>taskR (t.l.map (·.c))) ++ picksS m.ps ++ m.es.flatMap (fun e=>endR e.reopen) from by
  unfold rfullS; simp only [M.play,List.flatMap_map])
 have HBD:=Lib.hid (show (headS m.play ++ faultsS m.fs ++ m.ts.flatMap (fun t=>taskR (t.l.map (·.c))) ++ picksS m.ps ++ m.es.flatMap (fun e=>endR e.reopen)).length≤1099511627776 from by rw [← HFU.out]; exact hP.full hm)
 have HHead:=Lib.hid (show headS m.play = putL [[112,108,97,121],decS m.disk,decS m.segMax,decS m.base,decS m.qcap,decS m.qbytes,decS m.pmost,decS m.pbytes,txtS m.linger,txtS m.alpha] ++ putL [[109,111,115,116],decS m.most] from rfl)
 obtain ⟨o1,c1,hv1⟩:=h.fs.val
 obtain ⟨o2,c2,hv2⟩:=h.ts.val
 obtain ⟨o3,c3,hv3⟩:=h.ps.val
 obtain ⟨o4,c4,hv4⟩:=h.es.val
 obtain ⟨n1,hn1⟩:∃ n,m.fs.length = n:=⟨_,rfl⟩
 obtain ⟨n2,hn2⟩:∃ n,m.ts.length = n:=⟨_,rfl⟩
 obtain ⟨n3,hn3⟩:∃ n,m.ps.length = n:=⟨_,rfl⟩
 obtain ⟨n4,hn4⟩:∃ n,m.es.length = n:=⟨_,rfl⟩
 rw [hn1] at hv1
 rw [hn2] at hv2
 rw [hn3] at hv3
 rw [hn4] at hv4
 have ix0:=hP.ok.disk
 have ix1:=hP.ok.segMax
 have ix2:=hP.ok.base
 have ix3:=hP.ok.qcap
 have ix4:=hP.ok.qbytes
 have ix5:=hP.ok.pmost
 have ix6:=hP.ok.pbytes
 have ix7:=hP.ok.linger
 have ix8:=hP.ok.alpha
 have ix9:=hP.ok.most
 simp only [M.play] at ix0 ix1 ix2 ix3 ix4 ix5 ix6 ix7 ix8 ix9
 have hval:m.val = #[.int .i64 m.disk,.int .i64 m.segMax,.int .i64 m.base,.int .i64 m.qcap,.int .i64 m.qbytes,.int .i64 m.pmost,.int .i64 m.pbytes,.float .f64 m.linger,.float .f64 m.alpha,.slice o1 n1 c1,.slice o2 n2 c2,.slice o3 n3 c3,.int .i64 m.most,.slice o4 n4 c4]:=by
  unfold M.val
  rw [hv1,hv2,hv3,hv4]
 obtain ⟨q,hq⟩:∃ q,w.heap.size = q:=⟨_,rfl⟩
 have k0:Keep (fun _=>False) w (w.alloc (.cells m.val 40)):=(Keep.refl _ w).alloc _
 have hb0:(w.alloc (.cells m.val 40)).heap[q]? = some (.cells m.val 40 (0,0)):=by rw [← hq]; exact blk_new _ _
 have HMA:=Lib.hid (rmany_any m _ (h.kept k0) hP.len)
 rw [hm] at HMA
 rw [hval] at hb0 HMA k0 ⊢
 have hb1:n1≤64:=by omega
 have hb2:n2≤16:=by omega
 have hb3:n3≤65536:=by omega
 have hb4:n4≤16:=by omega
 have HC:=Lib.hid (And.intro hn1 (And.intro hn2 (And.intro hn3 (And.intro hn4 (And.intro hv1 (And.intro hv2 (And.intro hv3 hv4)))))))
 have HH:=Lib.hid (And.intro hE (And.intro hP (And.intro h (And.intro hmn hq))))
 have HIX:=Lib.hid (And.intro ix0 (And.intro ix1 (And.intro ix2 (And.intro ix3 (And.intro ix4 (And.intro ix5 (And.intro ix6 (And.intro ix7 (And.intro ix8 ix9)))))))))
 generalize m.disk = x0 at *
 generalize m.segMax = x1 at *
 generalize m.base = x2 at *
 generalize m.qcap = x3 at *
 generalize m.qbytes = x4 at *
 generalize m.pmost = x5 at *
 generalize m.pbytes = x6 at *
 generalize m.linger = x7 at *
 generalize m.alpha = x8 at *
 generalize m.most = x9 at *
 obtain ⟨W0,hW0⟩:∃ W0,w.alloc (.cells #[.int .i64 x0,.int .i64 x1,.int .i64 x2,.int .i64 x3,.int .i64 x4,.int .i64 x5,.int .i64 x6,.float .f64 x7,.float .f64 x8,.slice o1 n1 c1,.slice o2 n2 c2,.slice o3 n3 c3,.int .i64 x9,.slice o4 n4 c4] 40) = W0:=⟨_,rfl⟩
 rw [hW0] at hb0 HMA k0
 have HB:=Lib.hid (And.intro k0 hb0)
 have HNow:=Lib.hid (Keep.refl (fun _=>False) W0)
 clear hE hP h hm hmn hn1 hn2 hn3 hn4 hv1 hv2 hv3 hv4 ix0 ix1 ix2 ix3 ix4 ix5 ix6 ix7 ix8 ix9 hval k0 hb0
 go_enter Tryz.func15,Tryz.ntmps15
 go_upto_region 3 with (first
  | (refine load_guard (.tmp 1) 40 (by rfl) ?_; go_must (refine load_play rfl (.tmp 1) rfl q rfl #[.int .i64 x0,.int .i64 x1,.int .i64 x2,.int .i64 x3,.int .i64 x4,.int .i64 x5,.int .i64 x6,.float .f64 x7,.float .f64 x8,.slice o1 n1 c1,.slice o2 n2 c2,.slice o3 n3 c3,.int .i64 x9,.slice o4 n4 c4] rfl (HNow.out.same HB.out.2 id) ?_))
  | (go_at_call 32; refine HMA.out.mono ?_; rintro e w1 ⟨rfl,kx⟩; have HNow:=Lib.hid kx; clear kx))
 have b1:=HNow.out.same HB.out.2 id
 have k1:=HB.out.1.trans HNow.out
 obtain ⟨q1,hq1⟩:∃ q1,w1.heap.size = q1:=⟨_,rfl⟩
 obtain ⟨W2,hW2⟩:∃ W2,w1.alloc (.cells #[.int .i64 x1,.int .i64 x2,.int .i64 x3,.int .i64 x4,.int .i64 x5,.int .i64 x6,.float .f64 x7,.float .f64 x8] 34) = W2:=⟨_,rfl⟩
 have b2:W2.heap[q1]? = some (.cells #[.int .i64 x1,.int .i64 x2,.int .i64 x3,.int .i64 x4,.int .i64 x5,.int .i64 x6,.float .f64 x7,.float .f64 x8] 34 (0,0)):=by rw [← hW2,← hq1]; exact blk_new _ _
 have k12:Keep (fun _=>False) w1 W2:=by rw [← hW2]; exact (Keep.refl _ w1).alloc _
 have b12:=k12.same b1 id
 obtain ⟨q2,hq2⟩:∃ q2,W2.heap.size = q2:=⟨_,rfl⟩
 obtain ⟨W3,hW3⟩:∃ W3,W2.alloc (.cells #[.int .i64 x0,.int .i64 x1,.int .i64 x2,.int .i64 x3,.int .i64 x4,.int .i64 x5,.int .i64 x6] 2) = W3:=⟨_,rfl⟩
 have b3:W3.heap[q2]? = some (.cells #[.int .i64 x0,.int .i64 x1,.int .i64 x2,.int .i64 x3,.int .i64 x4,.int .i64 x5,.int .i64 x6] 2 (0,0)):=by rw [← hW3,← hq2]; exact blk_new _ _
 have k23:Keep (fun _=>False) W2 W3:=by rw [← hW3]; exact (Keep.refl _ W2).alloc _
 have g1:w1.cell? ⟨q,1,none⟩ = some (.int .i64 x1):=blk_cell b1 1
 have g2:w1.cell? ⟨q,2,none⟩ = some (.int .i64 x2):=blk_cell b1 2
 have g3:w1.cell? ⟨q,3,none⟩ = some (.int .i64 x3):=blk_cell b1 3
 have g4:w1.cell? ⟨q,4,none⟩ = some (.int .i64 x4):=blk_cell b1 4
 have g5:w1.cell? ⟨q,5,none⟩ = some (.int .i64 x5):=blk_cell b1 5
 have g6:w1.cell? ⟨q,6,none⟩ = some (.int .i64 x6):=blk_cell b1 6
 have g7:w1.cell? ⟨q,7,none⟩ = some (.float .f64 x7):=blk_cell b1 7
 have g8:w1.cell? ⟨q,8,none⟩ = some (.float .f64 x8):=blk_cell b1 8
 have e0:W2.cell? ⟨q,0,none⟩ = some (.int .i64 x0):=blk_cell b12 0
 have y0:W2.cell? ⟨q1,0,none⟩ = some (.int .i64 x1):=blk_cell b2 0
 have y1:W2.cell? ⟨q1,1,none⟩ = some (.int .i64 x2):=blk_cell b2 1
 have y2:W2.cell? ⟨q1,2,none⟩ = some (.int .i64 x3):=blk_cell b2 2
 have y3:W2.cell? ⟨q1,3,none⟩ = some (.int .i64 x4):=blk_cell b2 3
 have y4:W2.cell? ⟨q1,4,none⟩ = some (.int .i64 x5):=blk_cell b2 4
 have y5:W2.cell? ⟨q1,5,none⟩ = some (.int .i64 x6):=blk_cell b2 5
 have HK:=Lib.hid (And.intro (k1.trans (k12.trans k23)) (And.intro (k23.same b12 id) (And.intro (k23.same b2 id) b3)))
 have HR:=Lib.hid (show W3.heap.size = q2 + 1 from by rw [← hW3,← hq2]; simp)
 clear b1 k1 k12 b12 b2 k23 b3 HNow HB HMA
 have hcv:=Go.Joins.run_convert_bytes_const_at (P:=Tryz.prog) W3 53 5 #[.int .u8 112,.int .u8 108,.int .u8 97,.int .u8 121] 4 4 (q2 + 1) HR.out.symm Tryz.underlying53 Tryz.underlying5
 have hr3:=HR.out
 go_wp2_with fail
 obtain ⟨W4,hW4⟩:∃ W4,W3.alloc (.cells #[.int .u8 112,.int .u8 108,.int .u8 97,.int .u8 121] 5 (4,5)) = W4:=⟨_,rfl⟩
 have b4:W4.heap[q2 + 1]? = some (.cells #[.int .u8 112,.int .u8 108,.int .u8 97,.int .u8 121] 5 (4,5)):=by rw [← hW4,← HR.out]; exact blk_new _ _
 have k34:Keep (fun _=>False) W3 W4:=by rw [← hW4]; exact (Keep.refl _ W3).alloc _
 have H4:=Lib.hid (And.intro b4 k34)
 obtain ⟨XS,hXS⟩:∃ XS:List Int,[x0,x1,x2,x3,x4,x5,x6] = XS:=⟨_,rfl⟩
 have HXS:=Lib.hid (And.intro hXS (show ∀ k,k < 7→IsI (XS.getD k 0) from by
  intro k hk
  rw [← hXS]
  obtain ⟨i0,i1,i2,i3,i4,i5,i6,-⟩:=HIX.out
  obtain rfl | rfl | rfl | rfl | rfl | rfl | rfl:k = 0∨k = 1∨k = 2∨k = 3∨k = 4∨k = 5∨k = 6:=by omega
  all_goals assumption))
 have HCL:=Lib.hid (show ∀ (W:World),Keep (fun _=>False) W3 W→∀ k,k < 7→W.cell? ⟨q2,k,none⟩ = some (.int .i64 (XS.getD k 0)) from fun W kw k hk=>by
  rw [blk_cell (kw.same HK.out.2.2.2 id) k,← hXS]
  obtain rfl | rfl | rfl | rfl | rfl | rfl | rfl:k = 0∨k = 1∨k = 2∨k = 3∨k = 4∨k = 5∨k = 6:=by omega
  all_goals rfl)
 clear hcv hr3 hXS b4 k34 g1 g2 g3 g4 g5 g6 g7 g8 e0 y0 y1 y2 y3 y4 y5
 go_loopg [6,7] 7 (fun gq s6 s7 wr=>∃ k:Nat,gq + k = 7∧s7 = .int .i64 (k:Int)∧Hid ((k = 0→s6 = .slice (some ⟨q2 + 1,0,none⟩) 4 4∧wr = W4)∧(0 < k→Pg W3 [] ([112,108,97,121] ++ (XS.take k).flatMap (fun x=>32 :: decS x)) true s6 wr)))
 case atStart=>exact ⟨0,by omega,rfl,fun _=>⟨rfl,hW4⟩,fun h=>absurd h (by omega)⟩
 case round =>
  obtain ⟨k,hgk,rfl,HKK⟩:=hrel
  by_cases hk:k < 7
  ·have hkI:(k:Int) < 7:=by omega
   have hk0:(0:Int)≤(k:Int):=by omega
   have hxi:=HXS.out.2 k hk
   have hcl:=fun (W:World) (kw:Keep (fun _=>False) W3 W)=>HCL.out W kw k hk
   have htk:XS.take (k + 1) = XS.take k ++ [XS.getD k 0]:=by
    rw [← HXS.out.1]
    obtain rfl | rfl | rfl | rfl | rfl | rfl | rfl:k = 0∨k = 1∨k = 2∨k = 3∨k = 4∨k = 5∨k = 6:=by omega
    all_goals rfl
   have hnx:(XS.take (k + 1)).flatMap (fun x=>32 :: decS x) = (XS.take k).flatMap (fun x=>32 :: decS x) ++ 32 :: decS (XS.getD k 0):=by
    rw [htk,List.flatMap_append]; simp
   have hpl:((XS.take k).flatMap (fun x=>32 :: decS x)).length≤7 * 22:=by
    refine Nat.le_trans (flat_max _ 22 _ fun x hx=>?_) (Nat.mul_le_mul_right _ (by rw [List.length_take]; omega))
    obtain ⟨j,hj,rfl⟩:=List.getElem_of_mem hx
    have hj7:j < 7:=by rw [List.length_take] at hj; omega
    have h2:=HXS.out.2 j hj7
    rw [List.getElem_take]
    have hjl:j < XS.length:=by rw [List.length_take] at hj; omega
    rw [List.getD_eq_getElem?_getD,List.getElem?_eq_getElem hjl] at h2
    have:=dec_max h2
    simp only [List.length_cons]
    exact Nat.succ_le_succ this
   have hdl:=dec_max hxi
   obtain ⟨x,hx⟩:∃ x,XS.getD k 0 = x:=⟨_,rfl⟩
   rw [hx] at hxi hcl hnx hdl
   have HT:=Lib.hid (fun W=>rtext_any x W hxi)
   obtain ⟨s2,hs2⟩:∃ s,decS x = s:=⟨_,rfl⟩
   rw [hs2] at HT hnx hdl
   obtain ⟨s3,hs3⟩:∃ s,[32] ++ s2 = s:=⟨_,rfl⟩
   have l3:s3.length = s2.length + 1:=by rw [← hs3]; simp
   rw [show (32:UInt8) :: s2 = s3 from hs3] at hnx
   have m1:¬ 9223372036854775807 < 1 + (strB s2).size:=by rw [strB_size]; omega
   have u1:=cat_to hs3
   rw [show strB [32] = ⟨#[32]⟩ from rfl] at u1
   have HN:=Lib.hid (And.intro hnx (And.intro hpl (And.intro hdl l3)))
   clear htk hnx hpl hdl hx hxi hs2 hs3 l3
   by_cases hkz:k = 0
   ·obtain ⟨e6,ew⟩:=HKK.out.1 hkz
    have cg:=hcl wr (by rw [ew]; exact H4.out.2)
    subst e6
    have HE:=Lib.hid (And.intro hkz ew)
    clear hkz ew hcl HKK
    go_wp2_with (first
     | (go_at_call 33; refine (HT.out _).mono ?_; rintro e w' ⟨rfl,kx⟩; have HX:=Lib.hid kx; clear kx)
     | (at_builtin; refine wpList_put0 (w0:=W3) (q2 + 1) 4 4 [112,108,97,121] (by have:=HX.out; rw [HE.out.2] at this; exact H4.out.2.trans this) rfl (by intro j u hj; have h4:=H4.out.1; rw [← HE.out.2] at h4; rw [addr_add,cell_kept HX.out (by rw [show World.cell? wr ⟨q2 + 1,0 + j,none⟩ = _ from by simp only [World.cell?,h4]; rfl]; simpa [u8v] using hj)]) s3 (by have:=HN.out.2.2.2; omega) (by omega) rfl (.tmp 50) (.tmp 56) rfl rfl rfl (by have:=HN.out; omega) ?_; intro v4 w4 hpg; have HG:=Lib.hid hpg; clear hpg))
    go_roundg (gk - 1)
    all_goals first | omega | skip
    exact ⟨k + 1,by omega,by simp,fun h=>absurd h (by omega),fun _=>HG.out.turn (by rw [HN.out.1,HE.out.1]; simp)⟩
   ·have hpg:=HKK.out.2 (by omega)
    have cg:=hcl wr hpg.k
    have HG:=Lib.hid hpg
    clear hcl HKK hpg hkz
    go_wp2_with (first
     | (go_at_call 33; refine (HT.out _).mono ?_; rintro e w' ⟨rfl,kx⟩; have HG:=Lib.hid (HG.out.kept kx); clear kx)
     | (at_builtin; refine wpList_put HG.out s3 rfl (.tmp 50) (.tmp 56) rfl rfl rfl (by have:=HN.out; simp only [List.length_append,List.length_cons,List.length_nil]; omega) ?_; intro v4 w4 hpg; have HG:=Lib.hid hpg; clear hpg))
    go_roundg (gk - 1)
    all_goals first | omega | skip
    exact ⟨k + 1,by omega,by simp,fun h=>absurd h (by omega),fun _=>HG.out.turn (by rw [HN.out.1,List.append_assoc])⟩
  ·obtain rfl:k = 7:=by omega
   have hpg:=HKK.out.2 (by omega)
   have htk:XS.take 7 = XS:=by rw [← HXS.out.1]; rfl
   rw [htk] at hpg
   have HG:=Lib.hid hpg
   have HB0:=Lib.hid (HK.out.1.trans hpg.k)
   have HCQ:=Lib.hid (fun (W:World) (kw:Keep (fun _=>False) W3 W) (i:Nat)=>blk_cell (kw.same HK.out.2.1 id) i)
   have e12:wr.cell? ⟨q,12,none⟩ = some (.int .i64 x9):=HCQ.out _ hpg.k 12
   have y6:wr.cell? ⟨q1,6,none⟩ = some (.float .f64 x7):=blk_cell (hpg.k.same HK.out.2.2.1 id) 6
   have y7:wr.cell? ⟨q1,7,none⟩ = some (.float .f64 x8):=blk_cell (hpg.k.same HK.out.2.2.1 id) 7
   have l7:=txtS_max HIX.out.2.2.2.2.2.2.2.1
   have l8:=txtS_max HIX.out.2.2.2.2.2.2.2.2.1
   have l9:=dec_max HIX.out.2.2.2.2.2.2.2.2.2
   have HT9:=Lib.hid (fun W=>rtext_any x9 W HIX.out.2.2.2.2.2.2.2.2.2)
   obtain ⟨G,hG⟩:∃ G:Nat→Str,∀ u,txtS u = G u:=⟨txtS,fun _=>rfl⟩
   have HT3:=Lib.hid (fun (u:Nat) (W:World) (kw:Keep (fun _=>False) w W) (hu:u < 18446744073709551616)=>show Calls Tryz.prog 34 #[.float .f64 u] W (fun e w'=>e = .returned (.string (strB (G u)))∧Keep (fun _=>False) W w') from by rw [← hG u]; exact rtext_s u w.heap.size W (HH.out.1.kept kw.none) hu)
   obtain ⟨t9,ht9⟩:∃ s,decS x9 = s:=⟨_,rfl⟩
   rw [hG] at l7 l8
   rw [ht9] at HT9 l9
   obtain ⟨a1,h1⟩:∃ s,[32] ++ G x7 = s:=⟨_,rfl⟩
   obtain ⟨a2,h2⟩:∃ s,a1 ++ [32] = s:=⟨_,rfl⟩
   obtain ⟨a3,h3⟩:∃ s,a2 ++ G x8 = s:=⟨_,rfl⟩
   obtain ⟨a4,h4⟩:∃ s,a3 ++ [10,109,111,115,116,32] = s:=⟨_,rfl⟩
   obtain ⟨a5,h5⟩:∃ s,a4 ++ t9 = s:=⟨_,rfl⟩
   obtain ⟨a6,h6⟩:∃ s,a5 ++ [10] = s:=⟨_,rfl⟩
   have z1:a1.length = (G x7).length + 1:=by rw [← h1]; simp
   have z2:a2.length = a1.length + 1:=by rw [← h2]; simp
   have z3:a3.length = a2.length + (G x8).length:=by rw [← h3]; simp
   have z4:a4.length = a3.length + 6:=by rw [← h4]; simp
   have z5:a5.length = a4.length + t9.length:=by rw [← h5]; simp
   have z6:a6.length = a5.length + 1:=by rw [← h6]; simp
   have u1:=cat_to h1
   have u2:=cat_to h2
   have u3:=cat_to h3
   have u4:=cat_to h4
   have u5:=cat_to h5
   have u6':=cat_to h6
   rw [show strB [32] = ⟨#[32]⟩ from rfl] at u1 u2
   rw [show strB [10,109,111,115,116,32] = ⟨#[10,109,111,115,116,32]⟩ from rfl] at u4
   rw [show strB [10] = ⟨#[10]⟩ from rfl] at u6'
   have r1:¬ 9223372036854775807 < 1 + (strB (G x7)).size:=by rw [strB_size]; omega
   have r2:¬ 9223372036854775807 < (strB a1).size + 1:=by rw [strB_size]; omega
   have r3:¬ (strB a2).size + (strB (G x8)).size > 9223372036854775807:=by rw [strB_size,strB_size]; omega
   have r4:¬ 9223372036854775807 < (strB a3).size + 6:=by rw [strB_size]; omega
   have r5:¬ (strB a4).size + (strB t9).size > 9223372036854775807:=by rw [strB_size,strB_size]; omega
   have r6:¬ 9223372036854775807 < (strB a5).size + 1:=by rw [strB_size]; omega
   have p2:¬ 9223372036854775807≤(strB a1).size:=fun h=>r2 (Nat.lt_succ_of_le h)
   have p6:¬ 9223372036854775807≤(strB a5).size:=fun h=>r6 (Nat.lt_succ_of_le h)
   have HIM:=Lib.hid (show [112,108,97,121] ++ XS.flatMap (fun x=>32 :: decS x) ++ a6 = headS m.play from by
    rw [HHead.out,← h6,← h5,← h4,← h3,← h2,← h1,← ht9,← hG,← hG,← HXS.out.1]
    simp [putL,bod])
   have HA6:=Lib.hid (show ([112,108,97,121] ++ XS.flatMap (fun x=>32 :: decS x)).length + a6.length≤1099511627776 from by
    rw [← List.length_append,HIM.out]
    have:=HBD.out
    simp only [List.length_append] at this
    omega)
   have HI78:=Lib.hid (And.intro HIX.out.2.2.2.2.2.2.2.1 HIX.out.2.2.2.2.2.2.2.2.1)
   have HNow:=Lib.hid ((Keep.refl (fun _=>False) wr).drewN 1)
   clear hG ht9 h1 h2 h3 h4 h5 h6 z1 z2 z3 z4 z5 z6 l7 l8 l9 hpg htk HKK
   go_wp2_with fail
   go_region_held3 (fun W'=>W'.cell? ⟨q1,6,none⟩ = some (.float .f64 x7)∧W'.cell? ⟨q1,7,none⟩ = some (.float .f64 x8)∧W'.cell? ⟨q,12,none⟩ = some (.int .i64 x9))
    (first
     | exact ⟨cell_kept HNow.out y6,cell_kept HNow.out y7,cell_kept HNow.out e12⟩
     | exact ⟨blk_cell (HG.out.k.same HK.out.2.2.1 id) 6,blk_cell (HG.out.k.same HK.out.2.2.1 id) 7,HCQ.out _ HG.out.k 12⟩)
    (first
     | (go_at_call 33; refine (HT9.out _).mono ?_; rintro e w' ⟨rfl,kx⟩; have HNow:=Lib.hid (HNow.out.trans kx); clear kx)
     | (go_at_call 34; refine (HT3.out _ _ (HB0.out.trans HNow.out) (by first | exact HI78.out.1 | exact HI78.out.2)).mono ?_; rintro e w' ⟨rfl,kx⟩; have HNow:=Lib.hid (HNow.out.trans kx); clear kx)
     | (refine step_put (HG.out.kept HNow.out) a6 rfl (.tmp 58) (.tmp 75) rfl rfl rfl HA6.out ?_; intro v1 w4 hpg; have HG:=Lib.hid hpg; clear hpg))
   have HG:=Lib.hid (HG.out.turn HIM.out)
   have HL:=Lib.hid (show (headS m.play ++ faultsS m.fs).length≤1099511627776 from by
    have:=HBD.out
    simp only [List.length_append] at this ⊢
    omega)
   have HFA:=Lib.hid (fun (W:World) (v:Value) (hpg:Pg W3 [] (headS m.play) true v W)=>pg_faults m.fv m.fs hpg ((HH.out.2.2.1.kept HK.out.1).fs) HH.out.2.1.ok.faults (by rw [HC.out.1]; omega) HL.out)
   rw [HC.out.2.2.2.2.1] at HFA
   have d9:w4.cell? ⟨q,9,none⟩ = some (.slice o1 n1 c1):=HCQ.out _ HG.out.k 9
   clear r1 r2 r3 r4 r5 r6 p2 p6 u1 u2 u3 u4 u5 u6' e12 y6 y7 HIM HA6 HI78 HNow HT3 HT9 HCL HXS H4
   go_wp2_with (go_at_call 35; refine (HFA.out _ _ HG.out).mono ?_; rintro e w5 ⟨v5,rfl,hpg⟩; have HG:=Lib.hid hpg; clear hpg)
   obtain ⟨A1,hA1⟩:∃ A,headS m.play ++ faultsS m.fs = A:=⟨_,rfl⟩
   obtain ⟨b1,hb1⟩:∃ b,m.fs.all okK = b:=⟨_,rfl⟩
   rw [hA1,hb1] at HG
   rw [Bool.true_and] at HG
   rw [hA1] at HFU HBD
   rw [hb1] at HKF ⊢
   clear hA1 hb1 HFA HL d9 HHead
   generalize w5 = wA at *
   generalize v5 = vA at *
   go_loopg [6,8,9] n2 (fun gq s6 s8 s9 wr=>∃ (k:Nat) (b:Bool),gq + k = n2∧s9 = .int .i64 (k:Int)∧s8 = .bool b∧Hid (Pg W3 [] (A1 ++ (m.ts.take k).flatMap (fun t=>taskR (t.l.map (·.c)))) b s6 wr∧b = (b1 && (m.ts.take k).all (fun t=>t.l.all fun c=>rightF c.c))))
   case atStart=>exact ⟨0,b1,by omega,rfl,rfl,by simpa using HG.out,by simp⟩
   case round =>
    obtain ⟨k,b,hgk,rfl,rfl,HJ⟩:=hrel
    obtain ⟨G1,hG1⟩:∃ G,gk = G:=⟨_,rfl⟩
    rw [hG1] at hgk
    have HGG:=Lib.hid hG1
    clear hG1
    by_cases hk:k < n2
    ·have hkI:(k:Int) < (n2:Int):=by omega
     have hk0:(0:Int)≤(k:Int):=by omega
     have hkl:k < m.ts.length:=by rw [HC.out.2.1]; exact hk
     obtain ⟨o',c',e',-,hcs,-⟩:=HH.out.2.2.1.ts
     rw [HC.out.2.2.2.2.2.1,HC.out.2.1] at e'
     cases e'
     obtain ⟨g,f,rfl,hc,hl⟩:=hcs k (by simpa using hkl)
     have ht:=HH.out.2.2.1.calls _ (List.getElem_mem hkl)
     obtain ⟨o5,c5,hv5,-,hcs5,-⟩:=ht.row
     obtain ⟨n5,hn5⟩:∃ n,(m.ts[k]).l.length = n:=⟨_,rfl⟩
     have hb5:n5≤256:=by rw [← hn5]; exact HH.out.2.2.2.1.2.2.1 _ (List.getElem_mem hkl)
     have HCG:=Lib.hid (show ∀ (W:World),Keep (fun _=>False) W3 W→W.cell? ⟨g,f + k,none⟩ = some (.slice o5 n5 c5) from fun W kw=>by
      rw [((HK.out.1.trans kw).cell (p:=⟨g,f + k,none⟩) hl id).trans hc,List.getElem?_map,List.getElem?_eq_getElem hkl,← hn5,← hv5]
      rfl)
     have hdl:=HH.out.2.1.dat.1 _ (List.getElem_mem hkl)
     have hlo:∀ c∈(m.ts[k]).l,IsI c.c.lsn:=fun c hc=>HH.out.2.1.ok.calls _ (List.mem_map.2 ⟨_,List.getElem_mem hkl,rfl⟩) _ (List.mem_map.2 ⟨_,hc,rfl⟩)
     obtain ⟨B,hB⟩:∃ B,A1 ++ (m.ts.take k).flatMap (fun t=>taskR (t.l.map (·.c))) = B:=⟨_,rfl⟩
     obtain ⟨R,hR⟩:∃ R,(m.ts.drop (k + 1)).flatMap (fun t=>taskR (t.l.map (·.c))) ++ picksS m.ps ++ m.es.flatMap (fun e=>endR e.reopen) = R:=⟨_,rfl⟩
     obtain ⟨tl,htl⟩:∃ tl,(m.ts[k]).l = tl:=⟨_,rfl⟩
     have htr:taskR (tl.map (·.c)) = putL [[116,97,115,107]] ++ tl.flatMap (fun c=>rcallT c.c):=by unfold taskR; rw [List.flatMap_map]
     have hFK:rfullS m.play = B ++ (putL [[116,97,115,107]] ++ tl.flatMap (fun c=>rcallT c.c)) ++ R:=by
      rw [HFU.out,flat_split (fun t:MT=>taskR (t.l.map (·.c))) m.ts k hkl,← hB,← hR,htl,htr]
      simp only [List.append_assoc]
     have hNX:A1 ++ (m.ts.take (k + 1)).flatMap (fun t=>taskR (t.l.map (·.c))) = B ++ (putL [[116,97,115,107]] ++ tl.flatMap (fun c=>rcallT c.c)):=by
      rw [flat_next (fun t:MT=>taskR (t.l.map (·.c))) m.ts k hkl,← hB,← List.append_assoc,htl,htr]
     have hAX:(b1 && (m.ts.take (k + 1)).all (fun t=>t.l.all fun c=>rightF c.c)) = (b && tl.all fun c=>rightF c.c):=by
      rw [HJ.out.2,List.take_add_one,List.getElem?_eq_getElem hkl,Option.toList_some,List.all_append,← htl]
      simp [Bool.and_assoc]
     rw [htl] at hn5 hcs5 hdl hlo
     have hda:=ht.data
     rw [htl] at hda
     have hpg:=HJ.out.1
     rw [hB] at hpg
     have HT:=Lib.hid (And.intro hcs5 (And.intro hn5 (And.intro hda (And.intro hdl (And.intro hlo (And.intro hFK (And.intro hNX hAX)))))))
     have hlen:=HBD.out
     rw [← HFU.out,hFK] at hlen
     simp only [List.length_append] at hlen
     have HG:=Lib.hid hpg
     have HLEN:=Lib.hid hlen
     have d10:wr.cell? ⟨q,10,none⟩ = some (.slice (some ⟨g,f,none⟩) n2 c2):=HCQ.out _ hpg.k 10
     clear hc hcs ht hv5 hkl hn5 hB hR htl htr hcs5 hdl hlo hFK hNX hAX hda hpg hlen HJ
     go_wp2_with (at_builtin; refine wpList_put HG.out [116,97,115,107,10] rfl (.tmp 91) (.const (.string ⟨#[116,97,115,107,10]⟩)) rfl rfl rfl (by have:=HLEN.out; have h5:(putL [[116,97,115,107]]).length = 5:=rfl; simp only [List.length_cons,List.length_nil]; omega) ?_; intro v6 w6 hpg; have HG:=Lib.hid hpg; clear hpg)
     clear d10
     go_loopg [6,8,10] n5 (fun gq s6 s8 s10 wx=>∃ (j:Nat) (b':Bool),gq + j = n5∧s10 = .int .i64 (j:Int)∧s8 = .bool b'∧Hid (Pg W3 [] (B ++ (putL [[116,97,115,107]] ++ (tl.take j).flatMap (fun c=>rcallT c.c))) b' s6 wx∧b' = (b && (tl.take j).all fun c=>rightF c.c)))
     case atStart=>exact ⟨0,b,by omega,rfl,rfl,HG.out.turn (by simp [putL,bod]),by simp⟩
     case round =>
      obtain ⟨j,b',hgj,rfl,rfl,HJ⟩:=hrel
      have d10:wr.cell? ⟨q,10,none⟩ = some (.slice (some ⟨g,f,none⟩) n2 c2):=HCQ.out _ HJ.out.1.k 10
      have cg:=HCG.out _ HJ.out.1.k
      by_cases hj:j < n5
      ·have hjI:(j:Int) < (n5:Int):=by omega
       have hj0:(0:Int)≤(j:Int):=by omega
       have hjl:j < tl.length:=by rw [HT.out.2.1]; exact hj
       obtain ⟨g2,f2,rfl,hgl⟩:=HT.out.1.some (by rw [flatc_len _ 3 (fun _=>rfl)]; omega)
       have hcs2:=HT.out.1.kept (HK.out.1.trans HJ.out.1.k)
       have e0:=hcs2.get 3 (fun _=>rfl) (List.getElem?_eq_getElem hjl) 0 (by omega)
       have e1:=hcs2.get 3 (fun _=>rfl) (List.getElem?_eq_getElem hjl) 1 (by omega)
       have e2:=hcs2.get 3 (fun _=>rfl) (List.getElem?_eq_getElem hjl) 2 (by omega)
       unfold MC.cells at e0 e1 e2
       simp at e0 e1 e2
       have hdd:=HT.out.2.2.1 _ (List.getElem_mem hjl)
       have hdn:=HT.out.2.2.2.1 _ (List.getElem_mem hjl)
       have hdo:=HT.out.2.2.2.2.1 _ (List.getElem_mem hjl)
       have hsp:=flat_split (fun c:MC=>rcallT c.c) tl j hjl
       have hnx:=flat_next (fun c:MC=>rcallT c.c) tl j hjl
       have han:(b && (tl.take (j + 1)).all fun c=>rightF c.c) = (b' && rightF (tl[j]).c):=by
        rw [HJ.out.2,List.take_add_one,List.getElem?_eq_getElem hjl,Option.toList_some,List.all_append]
        simp [Bool.and_assoc]
       obtain ⟨X,hX⟩:∃ X,B ++ (putL [[116,97,115,107]] ++ (tl.take j).flatMap (fun c=>rcallT c.c)) = X:=⟨_,rfl⟩
       obtain ⟨c,hcc⟩:∃ c,tl[j] = c:=⟨_,rfl⟩
       rw [hcc] at e0 e1 e2 hdd hdn hdo hsp hnx han
       have hXN:B ++ (putL [[116,97,115,107]] ++ (tl.take (j + 1)).flatMap (fun c=>rcallT c.c)) = X ++ rcallT c.c:=by rw [hnx,← hX]; simp only [List.append_assoc]
       have hXL:(X ++ rcallT c.c).length≤1099511627776:=by
        have h1:=HLEN.out
        rw [← hX]
        rw [hsp] at h1
        simp only [List.length_append] at h1 ⊢
        omega
       have hpg:=HJ.out.1
       rw [hX] at hpg
       obtain ⟨oD,cD,hvD⟩:=hdd.val
       obtain ⟨nD,hnD⟩:∃ n,c.c.data.length = n:=⟨_,rfl⟩
       have hpc:=pg_called c hpg (hdd.kept HK.out.1) hdo hdn hXL
       rw [hvD,hnD] at hpc
       rw [hvD,hnD] at e2
       obtain ⟨ck,hck⟩:∃ ck,c.c.kind = ck:=⟨_,rfl⟩
       obtain ⟨cl,hcl⟩:∃ cl,c.c.lsn = cl:=⟨_,rfl⟩
       obtain ⟨r,hr⟩:∃ r,rightF c.c = r:=⟨_,rfl⟩
       obtain ⟨T,hT⟩:∃ T,rcallT c.c = T:=⟨_,rfl⟩
       rw [hck,hcl,hr,hT] at hpc
       rw [hck] at e0
       rw [hcl] at e1
       rw [hr] at han
       rw [hT] at hXN
       have HPC:=Lib.hid hpc
       have HX:=Lib.hid (And.intro hXN han)
       clear hcs2 hdd hdn hdo hsp hnx hX hcc hXN hXL hvD hnD hpc hck hcl hr hT han hpg hjl hgl HJ
       cases b' with
       | false =>
        go_wp2_with (go_at_call 36; refine HPC.out.mono ?_; rintro e w7 ⟨v7,rfl,hpg⟩; have HG:=Lib.hid hpg; clear hpg)
        go_roundg (gk - 1)
        all_goals first | omega | skip
        exact ⟨j + 1,false,by omega,by simp,rfl,HG.out.turn HX.out.1.symm,HX.out.2.symm⟩
       | true =>
        go_wp2_with (go_at_call 36; refine HPC.out.mono ?_; rintro e w7 ⟨v7,rfl,hpg⟩; have HG:=Lib.hid hpg; clear hpg)
        go_roundg (gk - 1)
        all_goals first | omega | skip
        exact ⟨j + 1,r,by omega,by simp,rfl,by have:=HG.out.turn HX.out.1.symm; rw [Bool.true_and] at this; exact this,by have:=HX.out.2.symm; rw [Bool.true_and] at this; exact this⟩
      ·obtain rfl:j = n5:=by omega
       have hjI:¬ (j:Int) < (j:Int):=by omega
       have hpg:=HJ.out
       rw [List.take_of_length_le (by rw [HT.out.2.1]; exact Nat.le_refl _)] at hpg
       have HG:=Lib.hid hpg
       clear hpg HJ
       go_wp2_with fail
       have hG:=HGG.out
       go_roundg (G1 - 1)
       all_goals first | omega | skip
       exact ⟨k + 1,b',by omega,by simp,rfl,HG.out.1.turn HT.out.2.2.2.2.2.2.1.symm,by rw [HT.out.2.2.2.2.2.2.2]; exact HG.out.2⟩
    ·obtain rfl:k = n2:=by omega
     have hkI:¬ (k:Int) < (k:Int):=by omega
     have hpg:=HJ.out
     rw [List.take_of_length_le (by rw [HC.out.2.1]; exact Nat.le_refl _)] at hpg
     obtain ⟨A2,hA2⟩:∃ A,A1 ++ m.ts.flatMap (fun t=>taskR (t.l.map (·.c))) = A:=⟨_,rfl⟩
     have hKF:=HKF.out
     have hFU:=HFU.out
     have hBD:=HBD.out
     rw [← hpg.2] at hKF
     rw [hA2] at hFU hBD
     have HKF:=Lib.hid hKF
     have HFU:=Lib.hid hFU
     have HBD:=Lib.hid hBD
     have HG:=Lib.hid (hpg.1.turn hA2)
     have d10:wr.cell? ⟨q,10,none⟩ = some (.slice o2 k c2):=HCQ.out _ HG.out.k 10
     clear hpg hKF hFU hBD hA2 HJ
     go_wp2_with fail
     generalize wr = wB at *
     clear d10
     have HPS:=Lib.hid (show SlAt W3 (.slice o3 n3 c3) n3 (m.ps.map (Value.int .i64)) from by
      have hx:=((HH.out.2.2.1.kept HK.out.1).ps)
      rw [HC.out.2.2.2.2.2.2.1,HC.out.2.2.1] at hx
      exact hx)
     have HPI:=Lib.hid HH.out.2.1.ok.picks
     obtain ⟨PS,hPS⟩:∃ PS,m.ps = PS:=⟨_,rfl⟩
     have HPL:=Lib.hid (show PS.length = n3 from by rw [← hPS]; exact HC.out.2.2.1)
     have hpi:∀ n∈PS,IsI n:=by rw [← hPS]; exact HPI.out
     rw [hPS] at HPS HFU HBD
     have HPI:=Lib.hid hpi
     clear hpi hPS
     have HPB:=Lib.hid (show A2.length + (picksS PS).length≤1099511627776 from by
      have h1:=HBD.out
      simp only [List.length_append] at h1
      omega)
     go_loopg [6,13] n3 (fun gq s6 s13 wr=>∃ k:Nat,gq + k = n3∧s13 = .int .i64 (k:Int)∧Hid (Pg W3 [] (A2 ++ pkS PS k) b s6 wr))
     case atStart=>exact ⟨0,by omega,rfl,HG.out.turn (by simp [pkS])⟩
     case round =>
      obtain ⟨j,hgj,rfl,HJ⟩:=hrel
      have d11:wr.cell? ⟨q,11,none⟩ = some (.slice o3 n3 c3):=HCQ.out _ HJ.out.k 11
      by_cases hj:j < n3
      ·have hjI:(j:Int) < (n3:Int):=by omega
       have hj0:(0:Int)≤(j:Int):=by omega
       have hjl:j < PS.length:=by rw [HPL.out]; exact hj
       obtain ⟨l,hl⟩:∃ l,n3 = l + 1:=⟨n3 - 1,by omega⟩
       have hw:IntKind.i64.wrap ((n3:Int) - 1) = (l:Int):=by rw [IntKind.wrap_i64]; omega
       obtain ⟨o',c',e',-,hcs,-⟩:=HPS.out
       cases e'
       obtain ⟨g,f,rfl,hc,hgl⟩:=hcs j (by simpa using hjl)
       have HCG:=Lib.hid (show ∀ (W:World),Keep (fun _=>False) W3 W→W.cell? ⟨g,f + j,none⟩ = some (.int .i64 (PS.getD j 0)) from fun W kw=>by
        rw [(kw.cell (p:=⟨g,f + j,none⟩) hgl id).trans hc,List.getElem?_map,List.getD_eq_getElem?_getD,List.getElem?_eq_getElem hjl]
        rfl)
       have hxi:IsI (PS.getD j 0):=by
        rw [List.getD_eq_getElem?_getD,List.getElem?_eq_getElem hjl]
        exact HPI.out _ (List.getElem_mem hjl)
       have hnx:=pkS_next PS j hjl
       have hle:=pkS_le PS (j + 1) hjl
       rw [hnx] at hle
       rw [HPL.out] at hnx hle
       obtain ⟨x,hx⟩:∃ x,PS.getD j 0 = x:=⟨_,rfl⟩
       rw [hx] at HCG hxi hnx hle
       have HT:=Lib.hid (fun W=>rtext_any x W hxi)
       have hdl:=dec_max hxi
       obtain ⟨s2,hs2⟩:∃ s,decS x = s:=⟨_,rfl⟩
       rw [hs2] at HT hnx hdl hle
       obtain ⟨s3,hs3⟩:∃ s,[32] ++ s2 = s:=⟨_,rfl⟩
       rw [show (32:UInt8) :: s2 = s3 from hs3] at hnx hle
       have m1:¬ 9223372036854775807 < 1 + (strB s2).size:=by rw [strB_size]; omega
       have u1:=cat_to hs3
       rw [show strB [32] = ⟨#[32]⟩ from rfl] at u1
       have cg:=HCG.out _ HJ.out.k
       have HN:=Lib.hid (And.intro hnx hle)
       have HG:=Lib.hid HJ.out
       clear hc hcs hx hxi hnx hle hs2 hs3 hdl hjl hgl HJ
       obtain ⟨X,hX⟩:∃ X,A2 ++ pkS PS j = X:=⟨_,rfl⟩
       rw [hX] at HG
       have HXX:=Lib.hid hX
       clear hX
       have hbx:X.length + (if j = 0 then ([112,105,99,107,115]:Str) else []).length + s3.length + (if j + 1 = n3 then ([10]:Str) else []).length≤1099511627776:=by
        have h1:=HPB.out
        have h2:=HN.out.2
        rw [← HXX.out]
        simp only [List.length_append] at h2 ⊢
        omega
       have hnx:=HN.out.1
       clear HN
       by_cases hj1:j = 0
       ·rw [if_pos hj1] at hbx hnx
        subst hj1
        have HCG:=Lib.hid (fun (W:World) (kw:Keep (fun _=>False) W3 W)=>show W.cell? ⟨g,f,none⟩ = some (.int .i64 x) from HCG.out W kw)
        have cg:wr.cell? ⟨g,f,none⟩ = some (.int .i64 x):=cg
        by_cases hj2:0 + 1 = n3
        ·rw [if_pos hj2] at hbx hnx
         obtain rfl:l = 0:=by omega
         have hw:IntKind.i64.wrap ((n3:Int) - 1) = 0:=hw
         have HBX:=Lib.hid (show X.length + 5 + s3.length + 1≤1099511627776 from hbx)
         have HN:=Lib.hid hnx
         clear hbx hnx hj2 hl
         go_wp2_with (first
          | (at_builtin; refine wpList_put HG.out [112,105,99,107,115] rfl (.tmp 130) (.const (.string ⟨#[112,105,99,107,115]⟩)) rfl rfl rfl (by have:=HBX.out; simp only [List.length_cons,List.length_nil]; omega) ?_; intro v6 w6 hpg; have HG:=Lib.hid hpg; have d11:w6.cell? ⟨q,11,none⟩ = some (.slice (some ⟨g,f,none⟩) n3 c3):=HCQ.out _ HG.out.k 11; have cg:=HCG.out _ HG.out.k; clear hpg)
          | (go_at_call 33; refine (HT.out _).mono ?_; rintro e w' ⟨rfl,kx⟩; have HG:=Lib.hid (HG.out.kept kx); clear kx)
          | (at_builtin; refine wpList_put HG.out s3 rfl (.tmp 132) (.tmp 139) rfl rfl rfl (by have:=HBX.out; simp only [List.length_append,List.length_cons,List.length_nil]; omega) ?_; intro v7 w7 hpg; have HG:=Lib.hid hpg; have d11:w7.cell? ⟨q,11,none⟩ = some (.slice (some ⟨g,f,none⟩) n3 c3):=HCQ.out _ HG.out.k 11; clear hpg)
          | (at_builtin; refine wpList_put1 HG.out 10 rfl (.tmp 147) (.tmp 148) rfl rfl rfl (by have:=HBX.out; simp only [List.length_append,List.length_cons,List.length_nil]; omega) ?_; intro v8 w8 hpg; have HG:=Lib.hid hpg; clear hpg))
         go_roundg (gk - 1)
         all_goals first | omega | skip
         exact ⟨0 + 1,by omega,by simp,HG.out.turn (by rw [HN.out,← HXX.out]; simp)⟩
        ·rw [if_neg hj2] at hbx hnx
         have hz2:((0:Int) == (l:Int)) = false:=by rw [beq_eq_false_iff_ne]; omega
         have HBX:=Lib.hid (show X.length + 5 + s3.length + 0≤1099511627776 from hbx)
         have HN:=Lib.hid hnx
         clear hbx hnx hj2 hl
         go_wp2_with (first
          | (at_builtin; refine wpList_put HG.out [112,105,99,107,115] rfl (.tmp 130) (.const (.string ⟨#[112,105,99,107,115]⟩)) rfl rfl rfl (by have:=HBX.out; simp only [List.length_cons,List.length_nil]; omega) ?_; intro v6 w6 hpg; have HG:=Lib.hid hpg; have d11:w6.cell? ⟨q,11,none⟩ = some (.slice (some ⟨g,f,none⟩) n3 c3):=HCQ.out _ HG.out.k 11; have cg:=HCG.out _ HG.out.k; clear hpg)
          | (go_at_call 33; refine (HT.out _).mono ?_; rintro e w' ⟨rfl,kx⟩; have HG:=Lib.hid (HG.out.kept kx); clear kx)
          | (at_builtin; refine wpList_put HG.out s3 rfl (.tmp 132) (.tmp 139) rfl rfl rfl (by have:=HBX.out; simp only [List.length_append,List.length_cons,List.length_nil]; omega) ?_; intro v7 w7 hpg; have HG:=Lib.hid hpg; have d11:w7.cell? ⟨q,11,none⟩ = some (.slice (some ⟨g,f,none⟩) n3 c3):=HCQ.out _ HG.out.k 11; clear hpg))
         go_roundg (gk - 1)
         all_goals first | omega | skip
         exact ⟨0 + 1,by omega,by simp,HG.out.turn (by rw [HN.out,← HXX.out]; simp)⟩
       ·rw [if_neg hj1] at hbx hnx
        have hz:((j:Int) == 0) = false:=by rw [beq_eq_false_iff_ne]; omega
        by_cases hj2:j + 1 = n3
        ·rw [if_pos hj2] at hbx hnx
         obtain rfl:l = j:=by omega
         have HBX:=Lib.hid (show X.length + 0 + s3.length + 1≤1099511627776 from hbx)
         have HN:=Lib.hid hnx
         clear hbx hnx hj1 hj2 hl
         go_wp2_with (first
          | (go_at_call 33; refine (HT.out _).mono ?_; rintro e w' ⟨rfl,kx⟩; have HG:=Lib.hid (HG.out.kept kx); clear kx)
          | (at_builtin; refine wpList_put HG.out s3 rfl (.tmp 132) (.tmp 139) rfl rfl rfl (by have:=HBX.out; omega) ?_; intro v7 w7 hpg; have HG:=Lib.hid hpg; have d11:w7.cell? ⟨q,11,none⟩ = some (.slice (some ⟨g,f,none⟩) n3 c3):=HCQ.out _ HG.out.k 11; clear hpg)
          | (at_builtin; refine wpList_put1 HG.out 10 rfl (.tmp 147) (.tmp 148) rfl rfl rfl (by have:=HBX.out; simp only [List.length_append,List.length_cons,List.length_nil]; omega) ?_; intro v8 w8 hpg; have HG:=Lib.hid hpg; clear hpg))
         go_roundg (gk - 1)
         all_goals first | omega | skip
         exact ⟨l + 1,by omega,by simp,HG.out.turn (by rw [HN.out,← HXX.out]; simp)⟩
        ·rw [if_neg hj2] at hbx hnx
         have hz2:((j:Int) == (l:Int)) = false:=by rw [beq_eq_false_iff_ne]; omega
         have HBX:=Lib.hid (show X.length + 0 + s3.length + 0≤1099511627776 from hbx)
         have HN:=Lib.hid hnx
         clear hbx hnx hj1 hj2 hl
         go_wp2_with (first
          | (go_at_call 33; refine (HT.out _).mono ?_; rintro e w' ⟨rfl,kx⟩; have HG:=Lib.hid (HG.out.kept kx); clear kx)
          | (at_builtin; refine wpList_put HG.out s3 rfl (.tmp 132) (.tmp 139) rfl rfl rfl (by have:=HBX.out; omega) ?_; intro v7 w7 hpg; have HG:=Lib.hid hpg; have d11:w7.cell? ⟨q,11,none⟩ = some (.slice (some ⟨g,f,none⟩) n3 c3):=HCQ.out _ HG.out.k 11; clear hpg))
         go_roundg (gk - 1)
         all_goals first | omega | skip
         exact ⟨j + 1,by omega,by simp,HG.out.turn (by rw [HN.out,← HXX.out]; simp)⟩
      ·obtain rfl:j = n3:=by omega
       have hjI:¬ (j:Int) < (j:Int):=by omega
       have hpg:=HJ.out
       rw [show pkS PS j = picksS PS from by rw [← HPL.out]; exact pkS_full PS] at hpg
       obtain ⟨A3,hA3⟩:∃ A,A2 ++ picksS PS = A:=⟨_,rfl⟩
       have hFU:=HFU.out
       have hBD:=HBD.out
       rw [hA3] at hFU hBD hpg
       have HFU:=Lib.hid hFU
       have HBD:=Lib.hid hBD
       have HG:=Lib.hid hpg
       have d13:wr.cell? ⟨q,13,none⟩ = some (.slice o4 n4 c4):=HCQ.out _ HG.out.k 13
       clear hpg hFU hBD hA3 HJ HPB HPI HPL HPS
       go_wp2_with fail
       generalize wr = wC at *
       clear d13
       go_loopg [6,8,14] n4 (fun gq s6 s8 s14 wr=>∃ (k:Nat) (b':Bool),gq + k = n4∧s14 = .int .i64 (k:Int)∧s8 = .bool b'∧Hid (Pg W3 [] (A3 ++ (m.es.take k).flatMap (fun e=>endR e.reopen)) b' s6 wr∧b' = (b && (m.es.take k).all (fun e=>e.fs.all okK))))
       case atStart=>exact ⟨0,b,by omega,rfl,rfl,by simpa using HG.out,by simp⟩
       case round =>
        obtain ⟨k,b',hgk,rfl,rfl,HJ⟩:=hrel
        obtain ⟨G1,hG1⟩:∃ G,gk = G:=⟨_,rfl⟩
        rw [hG1] at hgk
        have HGG:=Lib.hid hG1
        clear hG1
        have d13:wr.cell? ⟨q,13,none⟩ = some (.slice o4 n4 c4):=HCQ.out _ HJ.out.1.k 13
        by_cases hk:k < n4
        ·have hkI:(k:Int) < (n4:Int):=by omega
         have hk0:(0:Int)≤(k:Int):=by omega
         have hkl:k < m.es.length:=by rw [HC.out.2.2.2.1]; exact hk
         obtain ⟨o',c',e',-,hcs,-⟩:=HH.out.2.2.1.es
         rw [HC.out.2.2.2.2.2.2.2,HC.out.2.2.2.1] at e'
         cases e'
         obtain ⟨g,f,rfl,hgl⟩:=hcs.some (by rw [flatc_len _ 3 (fun _=>rfl)]; omega)
         have hcs2:=fun (W:World) (kw:Keep (fun _=>False) W3 W)=>hcs.kept (HK.out.1.trans kw)
         have he:=HH.out.2.2.1.ends _ (List.getElem_mem hkl)
         obtain ⟨o5,c5,hv5,-,hcs5,-⟩:=he.keeps
         obtain ⟨o6,c6,hv6⟩:=he.faults.val
         obtain ⟨n5,hn5⟩:∃ n,(m.es[k]).ks.length = n:=⟨_,rfl⟩
         obtain ⟨n6,hn6⟩:∃ n,(m.es[k]).fs.length = n:=⟨_,rfl⟩
         rw [hn5] at hv5
         rw [hn6] at hv6
         have hbk:=HH.out.2.2.2.1.2.2.2.2.2 _ (List.getElem_mem hkl)
         rw [hn5,hn6] at hbk
         have hb5:n5≤256:=hbk.2
         have hb6:n6≤64:=hbk.1
         have hdl:=HH.out.2.1.dat.2 _ (List.getElem_mem hkl)
         have hok:=HH.out.2.1.ok.ends _ (List.mem_map.2 ⟨_,List.getElem_mem hkl,rfl⟩)
         have hjk:=he.junk
         have hff:=(he.kept HK.out.1).faults
         rw [hv6,hn6] at hff
         have HCE:=Lib.hid (show ∀ (W:World),Keep (fun _=>False) W3 W→W.cell? ⟨g,f + k * 3,none⟩ = some (.int .i64 (m.es[k]).dir)∧W.cell? ⟨g,f + k * 3 + 1,none⟩ = some (.slice o5 n5 c5)∧W.cell? ⟨g,f + k * 3 + 2,none⟩ = some (.slice o6 n6 c6) from fun W kw=>by
          have d0:=(hcs2 W kw).get 3 (fun _=>rfl) (List.getElem?_eq_getElem hkl) 0 (by omega)
          have d1:=(hcs2 W kw).get 3 (fun _=>rfl) (List.getElem?_eq_getElem hkl) 1 (by omega)
          have d2:=(hcs2 W kw).get 3 (fun _=>rfl) (List.getElem?_eq_getElem hkl) 2 (by omega)
          rw [← hv5,← hv6]
          exact ⟨d0,d1,d2⟩)
         obtain ⟨B,hB⟩:∃ B,A3 ++ (m.es.take k).flatMap (fun e=>endR e.reopen) = B:=⟨_,rfl⟩
         obtain ⟨E,hE⟩:∃ E,m.es[k] = E:=⟨_,rfl⟩
         have hEN:endR E.reopen = (([101,110,100,32]:Str) ++ decS E.dir) ++ E.ks.flatMap (fun x:MK=>32 :: keepR x.k) ++ [10] ++ faultsS E.fs:=by
          unfold endR
          simp [putL,bod,ME.reopen,List.flatMap_map]
         have hNX:A3 ++ (m.es.take (k + 1)).flatMap (fun e=>endR e.reopen) = B ++ ((([101,110,100,32]:Str) ++ decS E.dir) ++ E.ks.flatMap (fun x:MK=>32 :: keepR x.k) ++ [10] ++ faultsS E.fs):=by
          rw [flat_next (fun e:ME=>endR e.reopen) m.es k hkl,← hB,← List.append_assoc,hE,hEN]
         have hLN:(B ++ ((([101,110,100,32]:Str) ++ decS E.dir) ++ E.ks.flatMap (fun x:MK=>32 :: keepR x.k) ++ [10] ++ faultsS E.fs)).length≤1099511627776:=by
          have h1:=HBD.out
          rw [flat_split (fun e:ME=>endR e.reopen) m.es k hkl,hE,hEN] at h1
          rw [← hB]
          simp only [List.length_append] at h1 ⊢
          omega
         have hAX:(b && (m.es.take (k + 1)).all (fun e=>e.fs.all okK)) = (b' && E.fs.all okK):=by
          rw [HJ.out.2,List.take_add_one,List.getElem?_eq_getElem hkl,Option.toList_some,List.all_append,hE]
          simp [Bool.and_assoc]
         rw [hE] at hcs5 hn5 hn6 hdl hok hjk hff HCE
         have hpg:=HJ.out.1
         rw [hB] at hpg
         have HE:=Lib.hid (And.intro hcs5 (And.intro hn5 (And.intro hn6 (And.intro hdl (And.intro hok (And.intro hjk (And.intro hff (And.intro hNX (And.intro hLN hAX)))))))))
         have HT:=Lib.hid (fun W=>rtext_any E.dir W hok.1)
         have hdm:(decS E.dir).length≤21:=dec_max hok.1
         obtain ⟨dr,hdr⟩:∃ x,E.dir = x:=⟨_,rfl⟩
         have e0:=(HCE.out _ hpg.k).1
         have e1:=(HCE.out _ hpg.k).2.1
         rw [hdr] at HT HE HCE e0 hdm
         obtain ⟨s2,hs2⟩:∃ s,decS dr = s:=⟨_,rfl⟩
         rw [hs2] at HT HE hdm
         obtain ⟨s3,hs3⟩:∃ s,[101,110,100,32] ++ s2 = s:=⟨_,rfl⟩
         rw [hs3] at HE
         have m1:¬ 9223372036854775807 < 4 + (strB s2).size:=by rw [strB_size]; omega
         have u1:=cat_to hs3
         rw [show strB [101,110,100,32] = ⟨#[101,110,100,32]⟩ from rfl] at u1
         obtain ⟨q5,hq5⟩:∃ q5,wr.heap.size = q5:=⟨_,rfl⟩
         obtain ⟨W5,hW5⟩:∃ W5,wr.alloc (.cells #[.int .i64 dr,.slice o5 n5 c5] 80) = W5:=⟨_,rfl⟩
         have hg5:=hpg.add (.cells #[.int .i64 dr,.slice o5 n5 c5] 80 (0,0)) q5 hq5
         rw [show wr.alloc (.cells #[.int .i64 dr,.slice o5 n5 c5] 80 (0,0)) = W5 from hW5] at hg5
         have HG:=Lib.hid hg5
         have f0:W5.cell? ⟨q5,0,none⟩ = some (.int .i64 dr):=blk_cell hg5.box 0
         clear hcs hcs2 he hv5 hv6 hbk hkl hB hE hEN hNX hLN hAX hcs5 hn5 hn6 hdl hok hjk hff hpg hdr hs2 hs3 hdm hg5 HJ hgl
         go_wp2_with (first
          | (go_at_call 33; refine (HT.out _).mono ?_; rintro e w' ⟨rfl,kx⟩; have HG:=Lib.hid (HG.out.kept kx); clear kx)
          | (at_builtin; refine wpList_put HG.out s3 rfl (.tmp 163) (.tmp 167) rfl rfl rfl (by have:=HE.out.2.2.2.2.2.2.2.2.1; simp only [List.length_append] at this; omega) ?_; intro v6 w6 hpg; have HG:=Lib.hid hpg; clear hpg))
         clear e0 e1 f0 d13
         generalize w6 = wD at *
         generalize v6 = vD at *
         go_loopg [6,16] n5 (fun gq s6 s16 wr=>∃ j:Nat,gq + j = n5∧s16 = .int .i64 (j:Int)∧Hid (Pg W3 [(q5,.cells #[.int .i64 dr,.slice o5 n5 c5] 80 (0,0))] (B ++ s3 ++ (E.ks.take j).flatMap (fun x:MK=>32 :: keepR x.k)) b' s6 wr))
         case atStart=>exact ⟨0,by omega,rfl,HG.out.turn (by simp)⟩
         case round =>
          obtain ⟨j,hgj,rfl,HJ⟩:=hrel
          have f1:wr.cell? ⟨q5,1,none⟩ = some (.slice o5 n5 c5):=blk_cell HJ.out.box 1
          by_cases hj:j < n5
          ·have hjI:(j:Int) < (n5:Int):=by omega
           have hj0:(0:Int)≤(j:Int):=by omega
           have hjl:j < E.ks.length:=by rw [HE.out.2.1]; exact hj
           obtain ⟨g2,f2,rfl,hgl⟩:=HE.out.1.some (by rw [flatc_len _ 2 (fun _=>rfl)]; omega)
           have hjk:=HE.out.2.2.2.2.2.1 _ (List.getElem_mem hjl)
           have hdn:=HE.out.2.2.2.1 _ (List.getElem_mem hjl)
           have hko:=HE.out.2.2.2.2.1.2.1 _ (List.mem_map.2 ⟨_,List.getElem_mem hjl,rfl⟩)
           have hsp:=flat_split (fun x:MK=>32 :: keepR x.k) E.ks j hjl
           have hnx:=flat_next (fun x:MK=>32 :: keepR x.k) E.ks j hjl
           obtain ⟨oJ,cJ,hvJ,-,hcJ,-⟩:=hjk
           obtain ⟨nJ,hnJ⟩:∃ n,(E.ks[j]).k.junk.length = n:=⟨_,rfl⟩
           rw [hnJ] at hvJ
           have HCK:=Lib.hid (show ∀ (W:World),Keep (fun _=>False) W3 W→W.cell? ⟨g2,f2 + j * 2,none⟩ = some (.int .i64 (E.ks[j]).k.n)∧W.cell? ⟨g2,f2 + j * 2 + 1,none⟩ = some (.slice oJ nJ cJ) from fun W kw=>by
            have hcs2:=HE.out.1.kept (HK.out.1.trans kw)
            have d0:=hcs2.get 2 (fun _=>rfl) (List.getElem?_eq_getElem hjl) 0 (by omega)
            have d1:=hcs2.get 2 (fun _=>rfl) (List.getElem?_eq_getElem hjl) 1 (by omega)
            rw [← hvJ]
            exact ⟨d0,d1⟩)
           obtain ⟨kk,hkk⟩:∃ kk,(E.ks[j]).k = kk:=⟨_,rfl⟩
           rw [hkk] at hcJ hdn hko hsp hnx hnJ HCK
           obtain ⟨X,hX⟩:∃ X,B ++ s3 ++ (E.ks.take j).flatMap (fun x:MK=>32 :: keepR x.k) = X:=⟨_,rfl⟩
           have hXN:B ++ s3 ++ (E.ks.take (j + 1)).flatMap (fun x:MK=>32 :: keepR x.k) = X ++ 32 :: keepR kk:=by rw [hnx,← hX]; simp only [List.append_assoc]
           have hXL:X.length + (32 :: keepR kk).length≤1099511627776:=by
            have h1:=HE.out.2.2.2.2.2.2.2.2.1
            rw [hsp] at h1
            rw [← hX]
            simp only [List.length_append] at h1 ⊢
            omega
           have hpg:=HJ.out
           rw [hX] at hpg
           obtain ⟨kn,hkn⟩:∃ x,kk.n = x:=⟨_,rfl⟩
           have hkr:keepR kk = decS kn ++ (if nJ = 0 then [] else 58 :: pairsS kk.junk):=by
            unfold keepR
            rw [hkn]
            by_cases h0:nJ = 0
            ·rw [if_pos h0,if_pos (List.length_eq_zero_iff.1 (hnJ.trans h0))]
            ·rw [if_neg h0,if_neg (fun e=>h0 (by rw [← hnJ,e]; rfl))]
           rw [hkn] at hko HCK
           have HT:=Lib.hid (fun W=>rtext_any kn W hko)
           have HX:=Lib.hid (fun (W:World) (kw:Keep (fun _=>False) W3 W)=>rhex_any oJ cJ kk.junk W (hcJ.kept (HK.out.1.trans kw)) hdn)
           rw [hnJ] at HX
           have hdm:=dec_max hko
           rw [hkr] at hXN hXL
           obtain ⟨s4,hs4⟩:∃ s,decS kn = s:=⟨_,rfl⟩
           rw [hs4] at HT hdm hXN hXL
           obtain ⟨s5,hs5⟩:∃ s,[32] ++ s4 = s:=⟨_,rfl⟩
           have l5:s5.length = s4.length + 1:=by rw [← hs5]; simp
           have m2:¬ 9223372036854775807 < 1 + (strB s4).size:=by rw [strB_size]; omega
           have u2:=cat_to hs5
           rw [show strB [32] = ⟨#[32]⟩ from rfl] at u2
           have g0:=(HCK.out _ hpg.k).1
           have HG:=Lib.hid hpg
           by_cases h0:nJ = 0
           ·rw [if_pos h0,List.append_nil] at hXN hXL
            subst h0
            have HXN:=Lib.hid (show B ++ s3 ++ (E.ks.take (j + 1)).flatMap (fun x:MK=>32 :: keepR x.k) = X ++ s5 from by rw [hXN,← hs5]; rfl)
            have HXL:=Lib.hid (show X.length + s5.length≤1099511627776 from by rw [l5]; simpa using hXL)
            clear hcJ hdn hko hsp hnx hnJ hvJ hkk hX hXN hXL hpg hkn hkr hdm hs4 hs5 l5 HJ hgl hjl
            go_wp2_with (first
             | (go_at_call 33; refine (HT.out _).mono ?_; rintro e w' ⟨rfl,kx⟩; have HG:=Lib.hid (HG.out.kept kx); clear kx)
             | (at_builtin; refine wpList_put HG.out s5 rfl (.tmp 176) (.tmp 184) rfl rfl rfl HXL.out ?_; intro v7 w7 hpg; have HG:=Lib.hid hpg; have f1:w7.cell? ⟨q5,1,none⟩ = some (.slice (some ⟨g2,f2,none⟩) n5 c5):=blk_cell HG.out.box 1; have g1:=(HCK.out _ HG.out.k).2; clear hpg))
            go_roundg (gk - 1)
            all_goals first | omega | skip
            exact ⟨j + 1,by omega,by simp,HG.out.turn HXN.out.symm⟩
           ·rw [if_neg h0] at hXN hXL
            have h0I:(0:Int) < (nJ:Int):=by omega
            obtain ⟨s6,hs6⟩:∃ s,pairsS kk.junk = s:=⟨_,rfl⟩
            rw [hs6] at HX hXN hXL
            obtain ⟨s7,hs7⟩:∃ s,[58] ++ s6 = s:=⟨_,rfl⟩
            have l7:s7.length = s6.length + 1:=by rw [← hs7]; simp
            have hXL2:X.length + s5.length + s7.length≤1099511627776:=by
             simp only [List.length_append,List.length_cons] at hXL
             omega
            have m3:¬ 9223372036854775807 < 1 + (strB s6).size:=by rw [strB_size]; omega
            have u3:=cat_to hs7
            rw [show strB [58] = ⟨#[58]⟩ from rfl] at u3
            have HXN:=Lib.hid (show B ++ s3 ++ (E.ks.take (j + 1)).flatMap (fun x:MK=>32 :: keepR x.k) = X ++ s5 ++ s7 from by rw [hXN,← hs5,← hs7]; simp)
            have HXL:=Lib.hid hXL2
            clear hcJ hdn hko hsp hnx hnJ hvJ hkk hX hXN hXL hXL2 hpg hkn hkr hdm hs4 hs5 l5 HJ hgl hjl hs6 hs7 l7 h0
            go_wp2_with (first
             | (go_at_call 33; refine (HT.out _).mono ?_; rintro e w' ⟨rfl,kx⟩; have HG:=Lib.hid (HG.out.kept kx); clear kx)
             | (at_builtin; refine wpList_put HG.out s5 rfl (.tmp 176) (.tmp 184) rfl rfl rfl (by have:=HXL.out; omega) ?_; intro v7 w7 hpg; have HG:=Lib.hid hpg; have f1:w7.cell? ⟨q5,1,none⟩ = some (.slice (some ⟨g2,f2,none⟩) n5 c5):=blk_cell HG.out.box 1; have g1:=(HCK.out _ HG.out.k).2; clear hpg)
             | (go_at_call 37; refine (HX.out _ HG.out.k).mono ?_; rintro e w' ⟨rfl,kx⟩; have HG:=Lib.hid (HG.out.kept kx); clear kx)
             | (at_builtin; refine wpList_put HG.out s7 rfl (.tmp 194) (.tmp 202) rfl rfl rfl (by have:=HXL.out; rw [List.length_append]; omega) ?_; intro v8 w8 hpg; have HG:=Lib.hid hpg; clear hpg))
            go_roundg (gk - 1)
            all_goals first | omega | skip
            exact ⟨j + 1,by omega,by simp,HG.out.turn HXN.out.symm⟩
          ·obtain rfl:j = n5:=by omega
           have hjI:¬ (j:Int) < (j:Int):=by omega
           have hpg:=HJ.out
           rw [List.take_of_length_le (by rw [HE.out.2.1]; exact Nat.le_refl _)] at hpg
           have HG:=Lib.hid hpg.drop
           have d13:wr.cell? ⟨q,13,none⟩ = some (.slice (some ⟨g,f,none⟩) n4 c4):=HCQ.out _ hpg.k 13
           have hlb:(B ++ s3 ++ E.ks.flatMap (fun x:MK=>32 :: keepR x.k)).length + 1≤1099511627776∧(B ++ s3 ++ E.ks.flatMap (fun x:MK=>32 :: keepR x.k) ++ [10] ++ faultsS E.fs).length≤1099511627776:=by
            have h1:=HE.out.2.2.2.2.2.2.2.2.1
            simp only [List.length_append,List.length_cons,List.length_nil] at h1 ⊢
            omega
           have HLB:=Lib.hid hlb
           obtain ⟨r,hr⟩:∃ r,E.fs.all okK = r:=⟨_,rfl⟩
           have HFA:=Lib.hid (fun (W:World) (v:Value) (hpg:Pg W3 [] (B ++ s3 ++ E.ks.flatMap (fun x:MK=>32 :: keepR x.k) ++ [10]) b' v W)=>pg_faults (.slice o6 n6 c6) E.fs hpg (by rw [HE.out.2.2.1]; exact HE.out.2.2.2.2.2.2.1) HE.out.2.2.2.2.1.2.2 (by rw [HE.out.2.2.1]; omega) HLB.out.2)
           have hAX:=HE.out.2.2.2.2.2.2.2.2.2
           rw [hr] at HFA hAX
           have HAX:=Lib.hid hAX
           have hNX:=HE.out.2.2.2.2.2.2.2.1
           have HNX:=Lib.hid (show A3 ++ (m.es.take (k + 1)).flatMap (fun e=>endR e.reopen) = B ++ s3 ++ E.ks.flatMap (fun x:MK=>32 :: keepR x.k) ++ [10] ++ faultsS E.fs from by rw [hNX]; simp only [List.append_assoc])
           clear hpg hlb hr hAX hNX HJ
           have hG:=HGG.out
           cases b' with
           | false =>
            go_wp2_with (first
             | (at_builtin; refine wpList_put1 HG.out 10 rfl (.tmp 204) (.tmp 205) rfl rfl rfl HLB.out.1 ?_; intro v8 w8 hpg; have HG:=Lib.hid hpg; have d13:w8.cell? ⟨q,13,none⟩ = some (.slice (some ⟨g,f,none⟩) n4 c4):=HCQ.out _ HG.out.k 13; have d2:=(HCE.out _ HG.out.k).2.2; clear hpg)
             | (go_at_call 35; refine (HFA.out _ _ HG.out).mono ?_; rintro e w9 ⟨v9,rfl,hpg⟩; have HG:=Lib.hid hpg; clear hpg))
            go_roundg (G1 - 1)
            all_goals first | omega | skip
            exact ⟨k + 1,false,by omega,by simp,rfl,HG.out.turn HNX.out.symm,HAX.out.symm⟩
           | true =>
            go_wp2_with (first
             | (at_builtin; refine wpList_put1 HG.out 10 rfl (.tmp 204) (.tmp 205) rfl rfl rfl HLB.out.1 ?_; intro v8 w8 hpg; have HG:=Lib.hid hpg; have d13:w8.cell? ⟨q,13,none⟩ = some (.slice (some ⟨g,f,none⟩) n4 c4):=HCQ.out _ HG.out.k 13; have d2:=(HCE.out _ HG.out.k).2.2; clear hpg)
             | (go_at_call 35; refine (HFA.out _ _ HG.out).mono ?_; rintro e w9 ⟨v9,rfl,hpg⟩; have HG:=Lib.hid hpg; clear hpg))
            go_roundg (G1 - 1)
            all_goals first | omega | skip
            exact ⟨k + 1,r,by omega,by simp,rfl,by have:=HG.out.turn HNX.out.symm; rw [Bool.true_and] at this; exact this,by have:=HAX.out.symm; rw [Bool.true_and] at this; exact this⟩
        ·obtain rfl:k = n4:=by omega
         have hkI:¬ (k:Int) < (k:Int):=by omega
         have hpg:=HJ.out
         rw [List.take_of_length_le (by rw [HC.out.2.2.2.1]; exact Nat.le_refl _)] at hpg
         have hKF:=HKF.out
         rw [← hpg.2] at hKF
         have hb0:=hpg.1
         rw [← HFU.out] at hb0
         have hPF:=HPF.out
         rw [hKF] at hPF
         obtain ⟨bb,hbb,hbl,hbe⟩:=hb0.ex
         obtain ⟨oS,cS,hvS⟩:=rb_val hbb.t
         have HBB:=Lib.hid (And.intro hbb hbe)
         have HFin:=Lib.hid (HK.out.1.trans hb0.k)
         have HP:=Lib.hid hPF
         have hfb:=HBD.out
         rw [← HFU.out] at hfb
         clear hpg hKF hb0 hPF HJ hbb
         cases b' with
         | false =>
          clear hbe
          go_wp2_with fail
          go_ret2
          exact ⟨by rw [HP.out]; rfl,HFin.out⟩
         | true =>
          have e:=hbe rfl
          subst e
          obtain ⟨L,hL⟩:∃ L,(rfullS m.play).length = L:=⟨_,rfl⟩
          rw [hL] at hvS
          subst hvS
          have hP:=HP.out
          rw [if_neg (by decide),hL] at hP
          rw [hL] at hfb
          clear hbe hbl
          by_cases hbig:65536 < L
          ·have hbI:(65536:Int) < (L:Int):=by omega
           have HQ:=Lib.hid (show rprintF m.play = ([],3) from by rw [hP,if_pos hbig])
           clear hP hbig hL
           go_wp2_with fail
           go_ret2
           exact ⟨by rw [HQ.out]; rfl,HFin.out⟩
          ·have hbI:¬ (65536:Int) < (L:Int):=by omega
           have HQ:=Lib.hid (show rprintF m.play = (rfullS m.play,0) from by rw [hP,if_neg hbig])
           have hcv:=conv_str HBB.out.1.t
           clear hP hbig hL
           go_wp2_with fail
           go_ret2
           exact ⟨by rw [HQ.out]; rfl,HFin.out⟩
end Sc
end Go.Proofs.YtkkecpamnnojoaaGreatDoor
namespace Go.Proofs.YtkkecpamnnojoaaGreatDoor
open Go.ChangeShapes Go.WideShapes Go.ChangeAt Go.RowKit Go.Shelf
open Bt Dc By
namespace Sc

def lC (c:MC):Nat:=10 + c.c.data.length
def lT (t:MT):Nat:=1 + (t.l.map lC).sum
def lK (k:MK):Nat:=10 + k.k.junk.length
def lE (e:ME):Nat:=e.fs.length + (e.ks.map lK).sum
def lM (m:M):Nat:=m.ps.length + m.fs.length + (m.ts.map lT).sum + (m.es.map lE).sum
theorem sum_next {α:Type} (f:α→Nat) (l:List α) (k:Nat) (h:k < l.length):((l.take (k + 1)).map f).sum = ((l.take k).map f).sum + f l[k]:=by
 have:l.take (k + 1) = l.take k ++ [l[k]]:=by rw [List.take_add_one,List.getElem?_eq_getElem h]; rfl
 rw [this,List.map_append,List.sum_append]
 simp
theorem sum_le {α:Type} (f:α→Nat) (l:List α) (k:Nat):((l.take k).map f).sum≤(l.map f).sum:=by
 have:(l.map f).sum = ((l.take k).map f).sum + ((l.drop k).map f).sum:=by rw [← List.sum_append,← List.map_append,List.take_append_drop]
 omega
theorem sum_len {α:Type} (f:α→Nat) (hf:∀ x,1≤f x) (l:List α):l.length≤(l.map f).sum:=by
 induction l with
 | nil=>simp
 | cons x l ih=>have:=hf x; simp only [List.length_cons,List.map_cons,List.sum_cons]; omega
theorem sum_mem {α:Type} (f:α→Nat) (l:List α) (k:Nat) (h:k < l.length):f l[k]≤(l.map f).sum:=by
 have h1:=sum_next f l k h
 have h2:=sum_le f l (k + 1)
 omega
theorem light_any (m:M) (w:World) (h:Seen w m) (hb:lM m≤1099511627776) (hb4:m.es.length≤1099511627776) :
  Calls Tryz.prog 13 #[.agg m.val] w fun e w'=>e = .returned (.bool (decide (lM m < 131072)))∧Keep (fun _=>False) w w':=by
 obtain ⟨o1,c1,hv1⟩:=h.fs.val
 obtain ⟨o2,c2,hv2⟩:=h.ts.val
 obtain ⟨o3,c3,hv3⟩:=h.ps.val
 obtain ⟨o4,c4,hv4⟩:=h.es.val
 obtain ⟨n1,hn1⟩:∃ n,m.fs.length = n:=⟨_,rfl⟩
 obtain ⟨n2,hn2⟩:∃ n,m.ts.length = n:=⟨_,rfl⟩
 obtain ⟨n3,hn3⟩:∃ n,m.ps.length = n:=⟨_,rfl⟩
 obtain ⟨n4,hn4⟩:∃ n,m.es.length = n:=⟨_,rfl⟩
 have hlm:lM m = n3 + n1 + (m.ts.map lT).sum + (m.es.map lE).sum:=by unfold lM; rw [hn1,hn3]
 have h2:n2≤(m.ts.map lT).sum:=by rw [← hn2]; exact sum_len lT (fun t=>by unfold lT; omega) m.ts
 have hh4:=h.es
 unfold M.val
 rw [hn4] at hb4
 rw [hv1,hv2,hv3,hv4,hn1,hn2,hn3,hn4]
 have HH:=Lib.hid (And.intro h (And.intro hn2 (And.intro hn4 (And.intro hv2 hv4))))
 have HB:=Lib.hid (And.intro hlm hb)
 have hb1:n1≤1099511627776:=by omega
 have hb2:n2≤1099511627776:=by omega
 have hb3:n3≤1099511627776:=by omega
 clear h hv1 hv2 hv3 hv4 hn1 hn2 hn3 hn4 hlm hb h2 hh4
 obtain ⟨q,hq⟩:∃ q,w.heap.size = q:=⟨_,rfl⟩
 obtain ⟨W0,hW0⟩:∃ W0,w.alloc (.cells #[.int .i64 m.disk,.int .i64 m.segMax,.int .i64 m.base,.int .i64 m.qcap,.int .i64 m.qbytes,.int .i64 m.pmost,.int .i64 m.pbytes,.float .f64 m.linger,.float .f64 m.alpha,.slice o1 n1 c1,.slice o2 n2 c2,.slice o3 n3 c3,.int .i64 m.most,.slice o4 n4 c4] 40) = W0:=⟨_,rfl⟩
 have b0:W0.heap[q]? = some (.cells #[.int .i64 m.disk,.int .i64 m.segMax,.int .i64 m.base,.int .i64 m.qcap,.int .i64 m.qbytes,.int .i64 m.pmost,.int .i64 m.pbytes,.float .f64 m.linger,.float .f64 m.alpha,.slice o1 n1 c1,.slice o2 n2 c2,.slice o3 n3 c3,.int .i64 m.most,.slice o4 n4 c4] 40 (0,0)):=by rw [← hW0,← hq]; exact blk_new _ _
 have k0:Keep (fun _=>False) w W0:=by rw [← hW0]; exact (Keep.refl _ w).alloc _
 have HK0:=Lib.hid k0
 have e9:W0.cell? ⟨q,9,none⟩ = some (.slice o1 n1 c1):=blk_cell b0 9
 have e10:W0.cell? ⟨q,10,none⟩ = some (.slice o2 n2 c2):=blk_cell b0 10
 have e11:W0.cell? ⟨q,11,none⟩ = some (.slice o3 n3 c3):=blk_cell b0 11
 have e13:W0.cell? ⟨q,13,none⟩ = some (.slice o4 n4 c4):=blk_cell b0 13
 clear b0 k0
 go_enter Tryz.func13,Tryz.ntmps13
 go_wp2_with fail
 clear hW0 hq
 go_loopg [3,4,5] n2 (fun gq s3 s4 s5 wr=>∃ k N:Nat,gq + k = n2∧s4 = .int .i64 (k:Int)∧s3 = .int .i64 (N:Int)∧Hid (N = n3 + n1 + ((m.ts.take k).map lT).sum∧Keep (fun _=>False) W0 wr))
 case atStart=>exact ⟨0,n3 + n1,by omega,rfl,by simp,by simp,Keep.refl _ _⟩
 case round =>
  obtain ⟨k,N,hgk,rfl,rfl,hN,hkp⟩:=hrel
  have x10:=cell_kept hkp e10
  obtain ⟨G,hG⟩:∃ G,gk = G:=⟨_,rfl⟩
  rw [hG] at hgk
  have HGG:=Lib.hid hG
  clear hG
  by_cases hk:k < n2
  ·have hkI:(k:Int) < (n2:Int):=by omega
   have hk0:(0:Int)≤(k:Int):=by omega
   have hkl:k < m.ts.length:=by rw [HH.out.2.1]; exact hk
   obtain ⟨o',c',e',-,hcs,-⟩:=HH.out.1.ts
   rw [HH.out.2.2.2.1,HH.out.2.1] at e'
   cases e'
   obtain ⟨g,f,rfl,hc,hl⟩:=hcs k (by simpa using hkl)
   have ht:=HH.out.1.calls _ (List.getElem_mem hkl)
   obtain ⟨o5,c5,hv5,-,hcs5,-⟩:=ht.row
   obtain ⟨n5,hn5⟩:∃ n,(m.ts[k]).l.length = n:=⟨_,rfl⟩
   rw [hn5] at hv5
   have cg:wr.cell? ⟨g,f + k,none⟩ = some (.slice o5 n5 c5):=by
    rw [((HK0.out.trans hkp).cell (p:=⟨g,f + k,none⟩) hl id).trans hc,List.getElem?_map,List.getElem?_eq_getElem hkl,← hv5]
    rfl
   have hnx:=sum_next lT m.ts k hkl
   have hle:=sum_le lT m.ts (k + 1)
   obtain ⟨tl,htl⟩:∃ tl,(m.ts[k]).l = tl:=⟨_,rfl⟩
   have hlt:lT m.ts[k] = 1 + (tl.map lC).sum:=by unfold lT; rw [htl]
   rw [htl] at hn5 hcs5
   have hda:=ht.data
   rw [htl] at hda
   have hbt:=HB.out
   have hN1:N + 1 + (tl.map lC).sum≤1099511627776:=by omega
   have h5:n5≤(tl.map lC).sum:=by rw [← hn5]; exact sum_len lC (fun t=>by unfold lC; omega) tl
   have HNX:=Lib.hid (show N + 1 + (tl.map lC).sum = n3 + n1 + ((m.ts.take (k + 1)).map lT).sum from by omega)
   have HT:=Lib.hid (And.intro hcs5 (And.intro hn5 (And.intro hda hkp)))
   have hN2:N≤1099511627776:=by omega
   have hb5:n5≤1099511627776:=by omega
   have HNB:=Lib.hid hN1
   clear hc hcs ht hv5 hnx hle htl hlt hcs5 hn5 hda hbt h5 hkp hN1 hN hkl
   go_wp2_with fail
   go_loopg [3,5] n5 (fun gq s3 s5 wr'=>∃ j N':Nat,gq + j = n5∧s5 = .int .i64 (j:Int)∧s3 = .int .i64 (N':Int)∧Hid (N' = N + 1 + ((tl.take j).map lC).sum∧Keep (fun _=>False) wr wr'))
   case atStart=>exact ⟨0,N + 1,by omega,rfl,by simp,by simp,Keep.refl _ _⟩
   case round =>
    obtain ⟨j,N',hgj,rfl,rfl,hN',hkj⟩:=hrel
    have y10:=cell_kept hkj x10
    have yg:=cell_kept hkj cg
    by_cases hj:j < n5
    ·have hjI:(j:Int) < (n5:Int):=by omega
     have hj0:(0:Int)≤(j:Int):=by omega
     have hjl:j < tl.length:=by rw [HT.out.2.1]; exact hj
     obtain ⟨g2,f2,rfl,hgl⟩:=HT.out.1.some (by rw [flatc_len _ 3 (fun _=>rfl)]; omega)
     have hcs2:=HT.out.1.kept ((HK0.out.trans HT.out.2.2.2).trans hkj)
     have d2:=hcs2.get 3 (fun _=>rfl) (List.getElem?_eq_getElem hjl) 2 (by omega)
     unfold MC.cells at d2
     simp at d2
     have hdd:=HT.out.2.2.1 _ (List.getElem_mem hjl)
     obtain ⟨oD,cD,hvD⟩:=hdd.val
     obtain ⟨nD,hnD⟩:∃ n,(tl[j]).c.data.length = n:=⟨_,rfl⟩
     rw [hvD,hnD] at d2
     have hnx:=sum_next lC tl j hjl
     have hle:=sum_le lC tl (j + 1)
     have hlc:lC tl[j] = 10 + nD:=by unfold lC; rw [hnD]
     have hbt:=HNB.out
     have HNX2:=Lib.hid (show N' + 10 + nD = N + 1 + ((tl.take (j + 1)).map lC).sum from by omega)
     have hN3:N'≤1099511627776:=by omega
     have hD3:nD≤1099511627776:=by omega
     have HKJ:=Lib.hid hkj
     clear hcs2 hdd hvD hnD hnx hle hlc hbt hN' hkj hjl hgl
     go_wp2_with fail
     go_roundg (gk - 1)
     all_goals first | omega | skip
     exact ⟨j + 1,N' + 10 + nD,by omega,by simp,by simp,HNX2.out,HKJ.out⟩
    ·obtain rfl:j = n5:=by omega
     have hjI:¬ (j:Int) < (j:Int):=by omega
     have HF:=Lib.hid (show N' = N + 1 + (tl.map lC).sum from by rw [hN',List.take_of_length_le (by rw [HT.out.2.1]; exact Nat.le_refl _)])
     have HKJ:=Lib.hid hkj
     clear hN' hkj
     go_wp2_with fail
     have hG:=HGG.out
     go_roundg (G - 1)
     all_goals first | omega | skip
     exact ⟨k + 1,N',by omega,by simp,by simp,by rw [HF.out]; exact HNX.out,HT.out.2.2.2.trans HKJ.out⟩
  ·obtain rfl:k = n2:=by omega
   have hkI:¬ (k:Int) < (k:Int):=by omega
   have hN1:N + (m.es.map lE).sum = lM m:=by
    rw [HB.out.1,hN,List.take_of_length_le (by rw [HH.out.2.1]; exact Nat.le_refl _)]
   have h4:∀ j,j < m.es.length→True:=fun _ _=>trivial
   have x13:=cell_kept hkp e13
   have hbt:=HB.out.2
   have HN:=Lib.hid hN1
   have hN2:N≤1099511627776:=by omega
   have hes:(m.es.map lE).sum≤1099511627776:=by omega
   have HES:=Lib.hid hes
   have HKP:=Lib.hid hkp
   clear e10 e11 e9 e13 h4 hN hN1 hbt hkp hes
   go_wp2_with fail
   go_loopg [3,6,7] n4 (fun gq s3 s6 s7 wx=>∃ j M:Nat,gq + j = n4∧s6 = .int .i64 (j:Int)∧s3 = .int .i64 (M:Int)∧Hid (M = N + ((m.es.take j).map lE).sum∧Keep (fun _=>False) wr wx))
   case atStart=>exact ⟨0,N,by omega,rfl,rfl,by simp,Keep.refl _ _⟩
   case round =>
    obtain ⟨j,M,hgj,rfl,rfl,hM,hkp⟩:=hrel
    have y13:=cell_kept hkp x13
    obtain ⟨G2,hG2⟩:∃ G,gk = G:=⟨_,rfl⟩
    rw [hG2] at hgj
    have HGG2:=Lib.hid hG2
    clear hG2
    by_cases hj:j < n4
    ·have hjI:(j:Int) < (n4:Int):=by omega
     have hj0:(0:Int)≤(j:Int):=by omega
     have hjl:j < m.es.length:=by rw [HH.out.2.2.1]; exact hj
     obtain ⟨o',c',e',-,hcs,-⟩:=HH.out.1.es
     rw [HH.out.2.2.2.2,HH.out.2.2.1] at e'
     cases e'
     obtain ⟨g,f,rfl,hgl⟩:=hcs.some (by rw [flatc_len _ 3 (fun _=>rfl)]; omega)
     have hcs2:=hcs.kept ((HK0.out.trans HKP.out).trans hkp)
     have d1:=hcs2.get 3 (fun _=>rfl) (List.getElem?_eq_getElem hjl) 1 (by omega)
     have d2:=hcs2.get 3 (fun _=>rfl) (List.getElem?_eq_getElem hjl) 2 (by omega)
     unfold ME.cells at d1 d2
     simp at d1 d2
     have he:=HH.out.1.ends _ (List.getElem_mem hjl)
     have hnx:=sum_next lE m.es j hjl
     have hle:=sum_le lE m.es (j + 1)
     obtain ⟨E,hE⟩:∃ E,m.es[j] = E:=⟨_,rfl⟩
     rw [hE] at d1 d2 he hnx
     obtain ⟨oK,cK,hvK,-,hcsK,-⟩:=he.keeps
     obtain ⟨oF,cF,hvF⟩:=he.faults.val
     obtain ⟨nK,hnK⟩:∃ n,E.ks.length = n:=⟨_,rfl⟩
     obtain ⟨nF,hnF⟩:∃ n,E.fs.length = n:=⟨_,rfl⟩
     rw [hvK,hnK] at d1
     rw [hvF,hnF] at d2
     have hlt:lE E = nF + (E.ks.map lK).sum:=by unfold lE; rw [hnF]
     have hbt:=HB.out.2
     have hbn:=HN.out
     have hM1:M + nF + (E.ks.map lK).sum≤1099511627776:=by have:=HES.out; omega
     have h5:nK≤(E.ks.map lK).sum:=by rw [← hnK]; exact sum_len lK (fun t=>by unfold lK; omega) E.ks
     have HNX:=Lib.hid (show M + nF + (E.ks.map lK).sum = N + ((m.es.take (j + 1)).map lE).sum from by omega)
     have HT:=Lib.hid (And.intro hcsK (And.intro hnK (And.intro he.junk hkp)))
     have hM2:M≤1099511627776:=by omega
     have hbF:nF≤1099511627776:=by omega
     have hbK:nK≤1099511627776:=by omega
     have HNB:=Lib.hid hM1
     clear hcs hcs2 he hnx hle hE hvK hvF hnK hnF hlt hbt hbn hM1 h5 hM hkp hcsK hjl
     go_wp2_with fail
     go_loopg [3,7] nK (fun gq s3 s7 wx=>∃ i M':Nat,gq + i = nK∧s7 = .int .i64 (i:Int)∧s3 = .int .i64 (M':Int)∧Hid (M' = M + nF + ((E.ks.take i).map lK).sum∧Keep (fun _=>False) wr wx))
     case atStart=>exact ⟨0,M + nF,by omega,rfl,by simp,by simp,Keep.refl _ _⟩
     case round =>
      obtain ⟨i,M',hgi,rfl,rfl,hM',hki⟩:=hrel
      have z13:=cell_kept hki y13
      have z1:=cell_kept hki d1
      by_cases hi:i < nK
      ·have hiI:(i:Int) < (nK:Int):=by omega
       have hi0:(0:Int)≤(i:Int):=by omega
       have hil:i < E.ks.length:=by rw [HT.out.2.1]; exact hi
       obtain ⟨g2,f2,rfl,hgl2⟩:=HT.out.1.some (by rw [flatc_len _ 2 (fun _=>rfl)]; omega)
       have hcs3:=HT.out.1.kept (((HK0.out.trans HKP.out).trans HT.out.2.2.2).trans hki)
       have d3:=hcs3.get 2 (fun _=>rfl) (List.getElem?_eq_getElem hil) 1 (by omega)
       unfold MK.cells at d3
       simp at d3
       have hdd:=HT.out.2.2.1 _ (List.getElem_mem hil)
       obtain ⟨oD,cD,hvD⟩:=hdd.val
       obtain ⟨nD,hnD⟩:∃ n,(E.ks[i]).k.junk.length = n:=⟨_,rfl⟩
       rw [hvD,hnD] at d3
       have hnx:=sum_next lK E.ks i hil
       have hle:=sum_le lK E.ks (i + 1)
       have hlc:lK E.ks[i] = 10 + nD:=by unfold lK; rw [hnD]
       have hbt:=HNB.out
       have HNX2:=Lib.hid (show M' + 10 + nD = M + nF + ((E.ks.take (i + 1)).map lK).sum from by omega)
       have hN3:M'≤1099511627776:=by omega
       have hD3:nD≤1099511627776:=by omega
       have HKJ:=Lib.hid hki
       clear hcs3 hdd hvD hnD hnx hle hlc hbt hM' hki hil hgl2
       go_wp2_with fail
       go_roundg (gk - 1)
       all_goals first | omega | skip
       exact ⟨i + 1,M' + 10 + nD,by omega,by simp,by simp,HNX2.out,HKJ.out⟩
      ·obtain rfl:i = nK:=by omega
       have hiI:¬ (i:Int) < (i:Int):=by omega
       have HF:=Lib.hid (show M' = M + nF + (E.ks.map lK).sum from by rw [hM',List.take_of_length_le (by rw [HT.out.2.1]; exact Nat.le_refl _)])
       have HKJ:=Lib.hid hki
       clear hM' hki
       go_wp2_with fail
       have hG:=HGG2.out
       go_roundg (G2 - 1)
       all_goals first | omega | skip
       exact ⟨j + 1,M',by omega,by simp,by simp,by rw [HF.out]; exact HNX.out,HT.out.2.2.2.trans HKJ.out⟩
    ·obtain rfl:j = n4:=by omega
     have hjI:¬ (j:Int) < (j:Int):=by omega
     have hF:M = lM m:=by rw [← HN.out,hM,List.take_of_length_le (by rw [HH.out.2.2.1]; exact Nat.le_refl _)]
     have HKK:=Lib.hid ((HK0.out.trans HKP.out).trans hkp)
     have HFM:=Lib.hid hF
     have HMM:=Lib.hid hM
     clear hM hkp hF HN
     by_cases hm:M < 131072
     ·have hmI:(M:Int) < 131072:=by omega
      go_wp2_with fail
      go_ret
      exact ⟨by rw [← HFM.out,decide_eq_true hm]; rfl,HKK.out⟩
     ·have hmI:¬ (M:Int) < 131072:=by omega
      go_wp2_with fail
      go_ret
      exact ⟨by rw [← HFM.out,decide_eq_false hm]; rfl,HKK.out⟩



end Sc
end Go.Proofs.YtkkecpamnnojoaaGreatDoor
