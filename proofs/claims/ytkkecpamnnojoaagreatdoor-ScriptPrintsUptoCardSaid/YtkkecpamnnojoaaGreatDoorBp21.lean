/- A part of the proof of ScriptPrints: nothing is assumed. By an AI agent. -/
import Derived.Test.YtkkecpamnnojoaaGreatDoorBp20
import Derived.Test.YtkkecpamnnojoaaGreatDoorBp17
import Derived.Test.YtkkecpamnnojoaaGreatDoorBp18
set_option linter.unusedVariables false
set_option linter.unusedSimpArgs false
set_option maxRecDepth 100000
set_option maxHeartbeats 32000000
namespace Go.Proofs.YtkkecpamnnojoaaGreatDoor
open Go.ChangeShapes Go.WideShapes Go.ChangeAt Go.RowKit Go.Shelf
open Bt Dc By
attribute [local go_sem] Oper.semAt_some
namespace Sc

def rword (k:Int):Str:=if 1 ≤ k ∧ k ≤ 7 then callWord k else [63]
theorem rword_any (k:Int) (w:World) :
  Calls Tryz.prog 71 #[.int .i64 k] w fun e w' => e = .returned (.string (strB (rword k))) ∧ Keep (fun _ => False) w w':=by
 by_cases h1:k < 1
 ·have hr:rword k = [63]:=by unfold rword; rw [if_neg (by omega)]
  have HR:=Lib.hid hr
  clear hr
  go_enter Tryz.func71,Tryz.ntmps71
  go_wp2_with fail
  go_ret
  exact ⟨by rw [HR.out]; rfl,(Keep.refl _ w).alloc _⟩
 by_cases h7:7 < k
 ·have hr:rword k = [63]:=by unfold rword; rw [if_neg (by omega)]
  have HR:=Lib.hid hr
  clear hr
  go_enter Tryz.func71,Tryz.ntmps71
  go_wp2_with fail
  go_ret
  exact ⟨by rw [HR.out]; rfl,(Keep.refl _ w).alloc _⟩
 obtain rfl | rfl | rfl | rfl | rfl | rfl | rfl:k = 1 ∨ k = 2 ∨ k = 3 ∨ k = 4 ∨ k = 5 ∨ k = 6 ∨ k = 7:=by omega
 all_goals
  clear h1 h7
  go_enter Tryz.func71,Tryz.ntmps71
  go_wp2_with fail
  go_ret
  exact ⟨rfl,(Keep.refl _ w).alloc _⟩
theorem rmany_any (m:M) (w:World) (h:Seen w m) (hb:m.fs.length ≤ 1099511627776 ∧ m.ts.length ≤ 1099511627776 ∧ m.ps.length ≤ 1099511627776 ∧ m.es.length ≤ 1099511627776) :
  Calls Tryz.prog 32 #[.agg m.val] w fun e w' => e = .returned (.bool (manyF m.play)) ∧ Keep (fun _ => False) w w':=by
 obtain ⟨o1,c1,hv1⟩:=h.fs.val
 obtain ⟨o2,c2,hv2⟩:=h.ts.val
 obtain ⟨o3,c3,hv3⟩:=h.ps.val
 obtain ⟨o4,c4,hv4⟩:=h.es.val
 obtain ⟨n1,hn1⟩:∃ n,m.fs.length = n:=⟨_,rfl⟩
 obtain ⟨n2,hn2⟩:∃ n,m.ts.length = n:=⟨_,rfl⟩
 obtain ⟨n3,hn3⟩:∃ n,m.ps.length = n:=⟨_,rfl⟩
 obtain ⟨n4,hn4⟩:∃ n,m.es.length = n:=⟨_,rfl⟩
 have HP:=Lib.hid (And.intro (show m.play.faults.length = n1 from hn1) (And.intro (show m.play.tasks.length = n2 from by unfold M.play; simpa using hn2) (And.intro (show m.play.picks.length = n3 from hn3) (show m.play.ends.length = n4 from by unfold M.play; simpa using hn4))))
 unfold M.val
 rw [hv1,hv2,hv3,hv4,hn1,hn2,hn3,hn4]
 have HH:=Lib.hid (And.intro h (And.intro hn2 (And.intro hn4 (And.intro hv2 hv4))))
 rw [hn1,hn2,hn3,hn4] at hb
 obtain ⟨hb1,hb2,hb3,hb4⟩:=hb
 clear h hv1 hv2 hv3 hv4 hn1 hn2 hn3 hn4
 by_cases g1:64 < n1
 ·have HR:=Lib.hid (manyA (p:=m.play) (by rw [HP.out.1]; exact Or.inl g1))
  have i1:(64:Int) < (n1:Int):=by omega
  go_enter Tryz.func32,Tryz.ntmps32
  go_wp2_with fail
  go_ret
  exact ⟨by rw [HR.out]; rfl,(Keep.refl _ w).alloc _⟩
 have i1:¬ (64:Int) < (n1:Int):=by omega
 by_cases g2:16 < n2
 ·have HR:=Lib.hid (manyA (p:=m.play) (by rw [HP.out.2.1]; exact Or.inr (Or.inl g2)))
  have i2:(16:Int) < (n2:Int):=by omega
  go_enter Tryz.func32,Tryz.ntmps32
  go_wp2_with fail
  go_ret
  exact ⟨by rw [HR.out]; rfl,(Keep.refl _ w).alloc _⟩
 have i2:¬ (16:Int) < (n2:Int):=by omega
 by_cases g3:65536 < n3
 ·have HR:=Lib.hid (manyA (p:=m.play) (by rw [HP.out.2.2.1]; exact Or.inr (Or.inr (Or.inl g3))))
  have i3:(65536:Int) < (n3:Int):=by omega
  go_enter Tryz.func32,Tryz.ntmps32
  go_wp2_with fail
  go_ret
  exact ⟨by rw [HR.out]; rfl,(Keep.refl _ w).alloc _⟩
 have i3:¬ (65536:Int) < (n3:Int):=by omega
 by_cases g4:16 < n4
 ·have HR:=Lib.hid (manyA (p:=m.play) (by rw [HP.out.2.2.2]; exact Or.inr (Or.inr (Or.inr g4))))
  have i4:(16:Int) < (n4:Int):=by omega
  go_enter Tryz.func32,Tryz.ntmps32
  go_wp2_with fail
  go_ret
  exact ⟨by rw [HR.out]; rfl,(Keep.refl _ w).alloc _⟩
 have i4:¬ (16:Int) < (n4:Int):=by omega
 have HM:=Lib.hid (show manyF m.play = (m.ts.any (fun t => decide (256 < t.l.length)) || m.es.any (fun x => decide (64 < x.fs.length ∨ 256 < x.ks.length))) from by
  unfold manyF
  rw [HP.out.1,HP.out.2.1,HP.out.2.2.1,HP.out.2.2.2,decide_eq_false (by omega)]
  simp [M.play,List.any_map,Function.comp_def,ME.reopen]
  rfl)
 go_enter Tryz.func32,Tryz.ntmps32
 go_wp2_with fail
 have hbx:=blk_new w (.cells #[.int .i64 m.disk,.int .i64 m.segMax,.int .i64 m.base,.int .i64 m.qcap,.int .i64 m.qbytes,.int .i64 m.pmost,.int .i64 m.pbytes,.float .f64 m.linger,.float .f64 m.alpha,.slice o1 n1 c1,.slice o2 n2 c2,.slice o3 n3 c3,.int .i64 m.most,.slice o4 n4 c4] 40)
 have HBX:=Lib.hid hbx
 clear hbx
 go_loopg [3] n2 (fun gq s3 wr => ∃ k:Nat,gq + k = n2 ∧ s3 = .int .i64 (k:Int) ∧ Hid ((m.ts.take k).any (fun t => decide (256 < t.l.length)) = false ∧ Keep (fun _ => False) w wr ∧ wr.cell? ⟨w.heap.size,13,none⟩ = some (.slice o4 n4 c4) ∧ wr.cell? ⟨w.heap.size,10,none⟩ = some (.slice o2 n2 c2) ∧ w.heap.size < wr.heap.size))
 case atStart => exact ⟨0,by omega,rfl,by simp,(Keep.refl _ w).alloc _,blk_cell HBX.out 13,blk_cell HBX.out 10,by simp⟩
 case round =>
  obtain ⟨k,hgk,rfl,HK⟩:=hrel
  have hc10:=HK.out.2.2.2.1
  by_cases hk:k < n2
  ·have hkI:(k:Int) < (n2:Int):=by omega
   have hk0:(0:Int) ≤ (k:Int):=by omega
   have hkl:k < m.ts.length:=by rw [HH.out.2.1]; exact hk
   obtain ⟨o',c',e',-,hcs,-⟩:=HH.out.1.ts
   rw [HH.out.2.2.2.1] at e'
   cases e'
   obtain ⟨g,f,rfl,hc,hl⟩:=hcs k (by simpa using hkl)
   have ht:=HH.out.1.calls _ (List.getElem_mem hkl)
   obtain ⟨o5,c5,hv5⟩:=ht.row.val
   obtain ⟨n5,hn5⟩:∃ n,(m.ts[k]).l.length = n:=⟨_,rfl⟩
   have cg:wr.cell? ⟨g,f + k,none⟩ = some (.slice o5 n5 c5):=by
    rw [(HK.out.2.1.cell (p:=⟨g,f + k,none⟩) hl id).trans hc,List.getElem?_map,List.getElem?_eq_getElem hkl,← hn5,← hv5]
    rfl
   have htk:m.ts.take (k + 1) = m.ts.take k ++ [m.ts[k]]:=by rw [List.take_add_one,List.getElem?_eq_getElem hkl]; rfl
   have HS:=Lib.hid (show (m.ts.take (k + 1)).any (fun t => decide (256 < t.l.length)) = decide (256 < n5) from by rw [htk,List.any_append,HK.out.1,← hn5]; simp)
   have HTK:=Lib.hid (show m.ts.any (fun t => decide (256 < t.l.length)) = (decide (256 < n5) || (m.ts.drop (k + 1)).any (fun t => decide (256 < t.l.length))) from by
    rw [← HS.out,← List.any_append,List.take_append_drop])
   clear hc hcs ht hv5 htk hkl hn5
   by_cases h5:256 < n5
   ·have i5:(256:Int) < (n5:Int):=by omega
    have HR:=Lib.hid (show manyF m.play = true from by rw [HM.out,HTK.out,decide_eq_true h5]; rfl)
    clear h5
    go_wp2_with fail
    go_ret
    exact ⟨by rw [HR.out]; rfl,HK.out.2.1⟩
   ·have i5:¬ (256:Int) < (n5:Int):=by omega
    have HR:=Lib.hid (show (m.ts.take (k + 1)).any (fun t => decide (256 < t.l.length)) = false from by rw [HS.out,decide_eq_false h5])
    clear h5
    go_wp2_with fail
    go_roundg (gk - 1)
    all_goals first | omega | skip
    exact ⟨k + 1,by omega,by simp,HR.out,HK.out.2⟩
  ·obtain rfl:k = n2:=by omega
   have hkI:¬ (k:Int) < (k:Int):=by omega
   have hc13:=HK.out.2.2.1
   have hlt:=HK.out.2.2.2.2
   have HM2:=Lib.hid (show manyF m.play = m.es.any (fun x => decide (64 < x.fs.length ∨ 256 < x.ks.length)) from by
    have h:=HK.out.1
    rw [List.take_of_length_le (by rw [HH.out.2.1]; exact Nat.le_refl _)] at h
    rw [HM.out,h]; rfl)
   have HK1:=Lib.hid HK.out.2.1
   clear HM HK
   go_wp2_with fail
   go_loopg [4] n4 (fun gq s4 wr => ∃ j:Nat,gq + j = n4 ∧ s4 = .int .i64 (j:Int) ∧ wr.cell? ⟨w.heap.size,13,none⟩ = some (.slice o4 n4 c4) ∧ Hid ((m.es.take j).any (fun x => decide (64 < x.fs.length ∨ 256 < x.ks.length)) = false ∧ Keep (fun _ => False) w wr))
   case atStart => exact ⟨0,by omega,rfl,hc13,by simp,HK1.out⟩
   case round =>
    obtain ⟨j,hgj,rfl,hj13,HJ⟩:=hrel
    by_cases hj:j < n4
    ·have hjI:(j:Int) < (n4:Int):=by omega
     have hj0:(0:Int) ≤ (j:Int):=by omega
     have hjl:j < m.es.length:=by rw [HH.out.2.2.1]; exact hj
     obtain ⟨o',c',e',-,hcs,-⟩:=HH.out.1.es
     rw [HH.out.2.2.2.2] at e'
     cases e'
     obtain ⟨g,f,rfl,hgl⟩:=hcs.some (by rw [flatc_len _ 3 (fun _ => rfl)]; omega)
     have he:=HH.out.1.ends _ (List.getElem_mem hjl)
     have hcs2:=hcs.kept HJ.out.2
     have d0:=hcs2.get 3 (fun _ => rfl) (List.getElem?_eq_getElem hjl) 0 (by omega)
     have d1:=hcs2.get 3 (fun _ => rfl) (List.getElem?_eq_getElem hjl) 1 (by omega)
     have d2:=hcs2.get 3 (fun _ => rfl) (List.getElem?_eq_getElem hjl) 2 (by omega)
     unfold ME.cells at d0 d1 d2
     simp at d0 d1 d2
     obtain ⟨o5,c5,hv5⟩:=he.keeps.val
     obtain ⟨o6,c6,hv6⟩:=he.faults.val
     obtain ⟨n5,hn5⟩:∃ n,(m.es[j]).ks.length = n:=⟨_,rfl⟩
     obtain ⟨n6,hn6⟩:∃ n,(m.es[j]).fs.length = n:=⟨_,rfl⟩
     rw [hv5,hn5] at d1
     rw [hv6,hn6] at d2
     have htk:m.es.take (j + 1) = m.es.take j ++ [m.es[j]]:=by rw [List.take_add_one,List.getElem?_eq_getElem hjl]; rfl
     have HS:=Lib.hid (show (m.es.take (j + 1)).any (fun x => decide (64 < x.fs.length ∨ 256 < x.ks.length)) = decide (64 < n6 ∨ 256 < n5) from by rw [htk,List.any_append,HJ.out.1,← hn5,← hn6]; simp)
     have HTK:=Lib.hid (show m.es.any (fun x => decide (64 < x.fs.length ∨ 256 < x.ks.length)) = (decide (64 < n6 ∨ 256 < n5) || (m.es.drop (j + 1)).any (fun x => decide (64 < x.fs.length ∨ 256 < x.ks.length))) from by
      rw [← HS.out,← List.any_append,List.take_append_drop])
     generalize (m.es[j]).dir = dr at *
     clear he hcs hcs2 hv5 hv6 htk hjl hn5 hn6
     by_cases h6:64 < n6
     ·have i6:(64:Int) < (n6:Int):=by omega
      have HR:=Lib.hid (show manyF m.play = true from by rw [HM2.out,HTK.out,decide_eq_true (Or.inl h6)]; rfl)
      clear h6
      go_wp2_with fail
      go_ret
      exact ⟨by rw [HR.out]; rfl,HJ.out.2⟩
     ·have i6:¬ (64:Int) < (n6:Int):=by omega
      by_cases h5:256 < n5
      ·have i5:(256:Int) < (n5:Int):=by omega
       have HR:=Lib.hid (show manyF m.play = true from by rw [HM2.out,HTK.out,decide_eq_true (Or.inr h5)]; rfl)
       clear h5 h6
       go_wp2_with fail
       go_ret
       exact ⟨by rw [HR.out]; rfl,HJ.out.2⟩
      ·have i5:¬ (256:Int) < (n5:Int):=by omega
       have HR:=Lib.hid (show (m.es.take (j + 1)).any (fun x => decide (64 < x.fs.length ∨ 256 < x.ks.length)) = false from by rw [HS.out,decide_eq_false (by omega)])
       clear h5 h6
       go_wp2_with fail
       go_roundg (gk - 1)
       all_goals first | omega | skip
       exact ⟨j + 1,by omega,by simp,hj13,HR.out,HJ.out.2⟩
    ·obtain rfl:j = n4:=by omega
     have hjI:¬ (j:Int) < (j:Int):=by omega
     have HR:=Lib.hid (show manyF m.play = false from by
      have h:=HJ.out.1
      rw [List.take_of_length_le (by rw [HH.out.2.2.1]; exact Nat.le_refl _)] at h
      rw [HM2.out,h])
     have HJ1:=Lib.hid HJ.out.2
     clear HJ
     go_wp2_with fail
     go_ret
     exact ⟨by rw [HR.out]; rfl,HJ1.out⟩

structure Rb (w0 W:World) (v:Value) (B:Str):Prop where
 k:Keep (fun _ => False) w0 W
 t:W.ownsRow w0.heap.size 5 1 v B.length (u8v B)
theorem rb_from {w:World} {base sz n:Nat} {e:TypeId} {v:Value} {xs:List Value} (h:w.ownsRow base e sz v n xs) {g:Nat} (hg:v.ownBlock = some g):base ≤ g:=by
 rcases h.2 with ⟨h1,-⟩ | ⟨g2,c2,cur,h1,h2,-⟩
 ·rw [h1] at hg; cases hg
 ·rw [h1] at hg; cases hg; exact h2
theorem rb_val {w:World} {base sz n:Nat} {e:TypeId} {v:Value} {xs:List Value} (h:w.ownsRow base e sz v n xs):∃ o c,v = .slice o n c:=by
 rcases h.2 with ⟨rfl,rfl⟩ | ⟨g,cap,cur,rfl,-⟩
 ·exact ⟨none,0,rfl⟩
 ·exact ⟨_,cap,rfl⟩
theorem Rb.kept {w0 W W':World} {v:Value} {B:Str} (h:Rb w0 W v B) (k:Keep (fun _ => False) W W'):Rb w0 W' v B:=⟨h.k.trans k,row_keep h.t k fun _ _ => id⟩
theorem Rb.grow {w0 W W':World} {v v':Value} {B C:Str} (h:Rb w0 W v B) (hrow:W'.ownsRow 0 5 1 v' (B.length + C.length) (u8v B ++ u8v C)) (k:Keep (fun g => v.ownBlock = some g) W W') (hb:v'.ownBlock = v.ownBlock ∨ ∃ g,v'.ownBlock = some g ∧ W.heap.size ≤ g):Rb w0 W' v' (B ++ C):=by
 have hlow:∀ g,v'.ownBlock = some g → w0.heap.size ≤ g:=fun g hg => by
  rcases hb with hb | ⟨g',hb,hl⟩
  ·exact rb_from h.t (by rw [← hb]; exact hg)
  ·rw [hb] at hg; cases hg; exact Nat.le_trans h.k.size hl
 refine ⟨h.k.own k fun i hi => Or.inr (rb_from h.t hi),?_⟩
 rw [List.length_append,u8v_app]
 exact row_base hrow hlow
structure Rs (w0 W:World) (v:Value) (B:Str) (q:Nat) (o:Obj):Prop where
 r:Rb w0 W v B
 b:W.heap[q]? = some o
 ne:v.ownBlock ≠ some q
theorem Rs.kept {w0 W W':World} {v:Value} {B:Str} {q:Nat} {o:Obj} (h:Rs w0 W v B q o) (k:Keep (fun _ => False) W W'):Rs w0 W' v B q o:=⟨h.r.kept k,k.same h.b id,h.ne⟩
theorem Rs.grow {w0 W W':World} {v v':Value} {B C:Str} {q:Nat} {o:Obj} (h:Rs w0 W v B q o) (hrow:W'.ownsRow 0 5 1 v' (B.length + C.length) (u8v B ++ u8v C)) (k:Keep (fun g => v.ownBlock = some g) W W') (hb:v'.ownBlock = v.ownBlock ∨ ∃ g,v'.ownBlock = some g ∧ W.heap.size ≤ g):Rs w0 W' v' (B ++ C) q o:=by
 refine ⟨h.r.grow hrow k hb,k.same h.b h.ne,fun e => ?_⟩
 rcases hb with hb | ⟨g',hb,hl⟩
 ·exact h.ne (by rw [← hb]; exact e)
 ·rw [hb] at e; cases e
  have:=lt_of_block h.b
  omega
theorem step_append_str_k {P:Program} {w:World} {ops:Array Oper} {o:Oper} {a:Act} {K:Act → World → Prop} {Q:Exit → Act → World → Prop} {E:Prop} (hgd:o.guard = none) (sl x:Operand) (t u:TypeId)
  (ho:o.op = .call { callee:=.builtin .append,args:=#[sl,x],argTypes:=#[t,u] }) (e:TypeId) (i:TypeInfo) (ht:P.underlying t = some (.slice e)) (hu:P.underlying u = some .string) (hi:P.info? e = some i) (hz:i.zero = some (.int .u8 0)) (hsize:i.size = 1) (hby:i.bytes = 1)
  (v:Value) (n:Nat) (xs:List Value) (hs:a.eval sl = v) (hown:w.ownsRow 0 e 1 v n xs) (s:Str) (hx:a.eval x = .string (strB s)) (hn:n + s.length ≤ 1099511627776)
  (h:∀ v' w',w'.ownsRow 0 e 1 v' (n + s.length) (xs ++ u8v s) → w.grownBy w' v.ownBlock → (v'.ownBlock = v.ownBlock ∨ ∃ g,v'.ownBlock = some g ∧ w.heap.size ≤ g) → K (a.put o.dst v') w') :
  if Region.wanted o (yielded ops a.tmps) = true then Oper.wp P o a w K Q else E:=by
 have hw:Region.wanted o (yielded ops a.tmps) = true:=by simp [Region.wanted,hgd]
 rw [if_pos hw]
 obtain ⟨v',w',hr,h2,h3,h4⟩:=run_append_str_k (P:=P) w t u o.type e i ht hu hi hz hsize hby v n xs hown s hn
 unfold Oper.wp execOp
 simp only [ho,resolve,invoke,builtin,Sem.run_bind,Sem.run_pure,Result.andThen_ok,List.map_toArray,List.map_cons,List.map_nil,hs,hx,hr]
 exact h v' w' h2 h3 h4
def RbOut (w0:World) (B full:Str) (ok:Bool) (e:Ending) (w':World):Prop:=∃ v' C,e = .returned (.tuple #[v',.bool ok]) ∧ Rb w0 w' v' (B ++ C) ∧ C.length ≤ full.length ∧ (ok = true → C = full)
theorem RbOut.no {w0 w':World} {B C full:Str} {ok:Bool} {v':Value} {e:Ending} (ho:ok = false) (he:e = .returned (.tuple #[v',.bool false])) (h:Rb w0 w' v' (B ++ C)) (hl:C.length ≤ full.length):RbOut w0 B full ok e w':=
 ⟨v',C,by rw [ho]; exact he,h,hl,fun h => by rw [ho] at h; cases h⟩
theorem RbOut.yes {w0 w':World} {B full:Str} {ok:Bool} {v':Value} {e:Ending} (ho:ok = true) (he:e = .returned (.tuple #[v',.bool true])) (h:Rb w0 w' v' (B ++ full)):RbOut w0 B full ok e w':=
 ⟨v',full,by rw [ho]; exact he,h,Nat.le_refl _,fun _ => rfl⟩
def okK (f:Fault):Bool:=decide (1 ≤ f.kind ∧ f.kind ≤ 4)
theorem faultL_is (f:Fault):faultL f = ((((([102,97,117,108,116,32] ++ decS f.at_) ++ [32]) ++ faultWord f.kind) ++ [32]) ++ decS f.part) ++ [10]:=by
 unfold faultL putL
 simp [bod]
theorem cat_to {s t u:Str} (h:s ++ t = u):strB s ++ strB t = strB u:=by rw [rstrB_cat,h]
theorem decS_len {n:Int} (h:IsI n):(decS n).length ≤ 21:=Lib.itoa_length_le n h.1 h.2
theorem fword_len (k:Int):(faultWord k).length ≤ 5:=by
 unfold faultWord; split; · decide
 split; · decide
 split; · decide
 split <;> decide
theorem rfaults_any {w0 w:World} {v:Value} {B:Str} (fv:Value) (fs:List Fault) (h:Rb w0 w v B) (hfs:SlAt w0 fv fs.length (fsv fs)) (hok:∀ f ∈ fs,FaultOk f) (hn:fs.length ≤ 1073741824) (hb:(B ++ faultsS fs).length ≤ 1099511627776) :
  Calls Tryz.prog 35 #[v,fv] w fun e w' => RbOut w0 B (faultsS fs) (fs.all okK) e w':=by
 obtain ⟨o1,c1,rfl,-,hcs,-⟩:=hfs
 obtain ⟨n,hN⟩:∃ n,fs.length = n:=⟨_,rfl⟩
 have HH:=Lib.hid (And.intro h (And.intro hcs (And.intro hok (And.intro hN hb))))
 rw [hN] at hn ⊢
 clear h hcs hok hN hb
 go_enter Tryz.func35,Tryz.ntmps35
 go_wp2_with fail
 obtain ⟨q,hq⟩:∃ q,w.heap.size = q:=⟨_,rfl⟩
 rw [hq]
 go_loopg [0,7] n (fun gq s0 s7 wr => ∃ k:Nat,gq + k = n ∧ s7 = .int .i64 (k:Int) ∧ Hid (Rs w0 wr s0 (B ++ faultsS (fs.take k)) q (.cells #[.string ⟨#[105,111]⟩,.string ⟨#[102,117,108,108]⟩,.string ⟨#[112,111,119,101,114]⟩,.string ⟨#[112,97,110,105,99]⟩] 9 (0,0)) ∧ (fs.take k).all okK = true))
 case atStart =>
  refine ⟨0,by omega,rfl,⟨?_,?_,?_⟩,by simp⟩
  ·simpa [faultsS] using HH.out.1.kept ((Keep.refl _ w).alloc _)
  ·rw [← hq]; exact blk_new _ _
  ·intro e; have:=row_lt HH.out.1.t e; omega
 case round =>
  obtain ⟨k,hgk,rfl,HK⟩:=hrel
  by_cases hk:k < n
  ·have hkI:(k:Int) < (n:Int):=by omega
   have hk0:(0:Int) ≤ (k:Int):=by omega
   have hkl:k < fs.length:=by rw [HH.out.2.2.2.1]; exact hk
   obtain ⟨g,f,rfl,hgl⟩:=HH.out.2.1.some (by unfold fsv; rw [flatc_len _ 3 (fun _ => rfl)]; omega)
   have hcs2:=HH.out.2.1.kept HK.out.1.r.k
   have d0:=hcs2.get 3 (fun _ => rfl) (List.getElem?_eq_getElem hkl) 0 (by omega)
   have d1:=hcs2.get 3 (fun _ => rfl) (List.getElem?_eq_getElem hkl) 1 (by omega)
   have d2:=hcs2.get 3 (fun _ => rfl) (List.getElem?_eq_getElem hkl) 2 (by omega)
   unfold fcells at d0 d1 d2
   simp at d0 d1 d2
   have hfo:=HH.out.2.2.1 _ (List.getElem_mem hkl)
   have htk:fs.take (k + 1) = fs.take k ++ [fs[k]]:=by rw [List.take_add_one,List.getElem?_eq_getElem hkl]; rfl
   have hsn:faultsS (fs.take (k + 1)) = faultsS (fs.take k) ++ faultL fs[k]:=by rw [htk]; unfold faultsS; rw [List.flatMap_append]; simp only [List.flatMap_cons,List.flatMap_nil,List.append_nil]
   have hpre:∀ j,(faultsS (fs.take j)).length ≤ (faultsS fs).length:=fun j => by
    have h2:faultsS fs = faultsS (fs.take j) ++ faultsS (fs.drop j):=by unfold faultsS; rw [← List.flatMap_append,List.take_append_drop]
    rw [h2,List.length_append]; omega
   have hall:(fs.take (k + 1)).all okK = decide (1 ≤ (fs[k]).kind ∧ (fs[k]).kind ≤ 4):=by
    rw [htk,List.all_append,HK.out.2]
    show (true && (okK fs[k] && true)) = _
    rw [Bool.true_and,Bool.and_true]; rfl
   have hno:decide (1 ≤ (fs[k]).kind ∧ (fs[k]).kind ≤ 4) = false → fs.all okK = false:=fun h => by
    rw [← List.take_append_drop (k + 1) fs,List.all_append,hall,h]; rfl
   have hle:=HH.out.2.2.2.2
   have hle2:(faultsS (fs.take (k + 1))).length ≤ (faultsS fs).length:=hpre _
   rw [faultL_is] at hsn
   unfold FaultOk at hfo
   generalize (fs[k]).kind = kd at *
   generalize (fs[k]).at_ = ka at *
   generalize (fs[k]).part = kp at *
   by_cases b1:kd < 1
   ·have HR:=Lib.hid (And.intro (hno (by rw [decide_eq_false (by omega)])) (hpre k))
    clear hno hall hsn htk hle hle2 hpre hfo hcs2 hkl
    go_wp2_with fail
    go_ret2
    exact RbOut.no (C:=faultsS (fs.take k)) HR.out.1 rfl HK.out.1.r HR.out.2
   by_cases b4:4 < kd
   ·have HR:=Lib.hid (And.intro (hno (by rw [decide_eq_false (by omega)])) (hpre k))
    clear hno hall hsn htk hle hle2 hpre hfo hcs2 hkl
    go_wp2_with fail
    go_ret2
    exact RbOut.no (C:=faultsS (fs.take k)) HR.out.1 rfl HK.out.1.r HR.out.2
   obtain ⟨j,hj⟩:∃ j:Nat,kd - 1 = (j:Int):=⟨(kd - 1).toNat,by omega⟩
   have hj4:j < 4:=by omega
   have hcg:=hcs2
   have e0:=d0
   have HC4:=Lib.hid (fun (W:World) (v':Value) (B':Str) (hR:Rs w0 W v' B' q (.cells #[.string ⟨#[105,111]⟩,.string ⟨#[102,117,108,108]⟩,.string ⟨#[112,111,119,101,114]⟩,.string ⟨#[112,97,110,105,99]⟩] 9 (0,0))) =>
    show W.cell? ⟨g,f + k * 3,none⟩ = some (.int .i64 ka) ∧ W.cell? ⟨g,f + k * 3 + 1,none⟩ = some (.int .i64 kd) ∧ W.cell? ⟨g,f + k * 3 + 2,none⟩ = some (.int .i64 kp) ∧ W.cell? ⟨q,j,none⟩ = some (.string (strB (faultWord kd))) from by
     have z:=HK.out.1.r.k
     refine ⟨?_,?_,?_,?_⟩
     ·rw [hR.r.k.cell (p:=⟨g,f + k * 3,none⟩) hgl id,← z.cell (p:=⟨g,f + k * 3,none⟩) hgl id]; exact d0
     ·rw [hR.r.k.cell (p:=⟨g,f + k * 3 + 1,none⟩) hgl id,← z.cell (p:=⟨g,f + k * 3 + 1,none⟩) hgl id]; exact d1
     ·rw [hR.r.k.cell (p:=⟨g,f + k * 3 + 2,none⟩) hgl id,← z.cell (p:=⟨g,f + k * 3 + 2,none⟩) hgl id]; exact d2
     ·rw [blk_cell hR.b j]
      obtain rfl | rfl | rfl | rfl:kd = 1 ∨ kd = 2 ∨ kd = 3 ∨ kd = 4:=by omega
      all_goals (obtain rfl | rfl | rfl | rfl:j = 0 ∨ j = 1 ∨ j = 2 ∨ j = 3:=by omega)
      all_goals first | omega | rfl)
   obtain ⟨F,hF⟩:∃ F:Int → Str,∀ n,decS n = F n:=⟨decS,fun _ => rfl⟩
   have HT:=Lib.hid (fun (x:Int) (W:World) (hx:IsI x) => show Calls Tryz.prog 33 #[.int .i64 x] W (fun e w' => e = .returned (.string (strB (F x))) ∧ Keep (fun _ => False) W w') from by rw [← hF x]; exact rtext_any x W hx)
   have HX:=Lib.hid hfo
   have l1:=decS_len hfo.1
   have l3:=decS_len hfo.2
   have l2:=fword_len kd
   have HR:=Lib.hid (And.intro HK.out.1 (And.intro hall (And.intro hsn (And.intro hle hle2))))
   have hw:IntKind.i64.wrap (kd - 1) = (j:Int):=by rw [hj,IntKind.wrap_i64]; omega
   have hj0:(0:Int) ≤ (j:Int):=by omega
   have hj4':(j:Int) < 4:=by omega
   obtain ⟨s2,hs2⟩:∃ s,faultWord kd = s:=⟨_,rfl⟩
   rw [hF ka] at l1
   rw [hs2] at HC4 l2
   rw [hF kp] at l3
   rw [hF ka,hs2,hF kp] at HR
   obtain ⟨a1,h1⟩:∃ s,[102,97,117,108,116,32] ++ F ka = s:=⟨_,rfl⟩
   obtain ⟨a2,h2⟩:∃ s,a1 ++ [32] = s:=⟨_,rfl⟩
   obtain ⟨a3,h3⟩:∃ s,a2 ++ s2 = s:=⟨_,rfl⟩
   obtain ⟨a4,h4⟩:∃ s,a3 ++ [32] = s:=⟨_,rfl⟩
   obtain ⟨a5,h5⟩:∃ s,a4 ++ F kp = s:=⟨_,rfl⟩
   obtain ⟨a6,h6⟩:∃ s,a5 ++ [10] = s:=⟨_,rfl⟩
   rw [h1,h2,h3,h4,h5,h6] at HR
   have n1:a1.length = 6 + (F ka).length:=by rw [← h1]; simp; omega
   have n2:a2.length = a1.length + 1:=by rw [← h2]; simp
   have n3:a3.length = a2.length + s2.length:=by rw [← h3]; simp
   have n4:a4.length = a3.length + 1:=by rw [← h4]; simp
   have n5:a5.length = a4.length + (F kp).length:=by rw [← h5]; simp
   have m1:=cat_fits (s:=[102,97,117,108,116,32]) (t:=F ka) (N:=100) (by simp; omega) (by decide)
   have m2:=cat_fits (s:=a1) (t:=[32]) (N:=100) (by simp; omega) (by decide)
   have m3:=cat_fits (s:=a2) (t:=s2) (N:=100) (by omega) (by decide)
   have m4:=cat_fits (s:=a3) (t:=[32]) (N:=100) (by simp; omega) (by decide)
   have m5:=cat_fits (s:=a4) (t:=F kp) (N:=100) (by omega) (by decide)
   have m6:=cat_fits (s:=a5) (t:=[10]) (N:=100) (by simp; omega) (by decide)
   have u1:=cat_to h1
   have u2:=cat_to h2
   have u3:=cat_to h3
   have u4:=cat_to h4
   have u5:=cat_to h5
   have u6:=cat_to h6
   rw [show strB [102,97,117,108,116,32] = ⟨#[102,97,117,108,116,32]⟩ from rfl] at m1 u1
   rw [show strB [32] = ⟨#[32]⟩ from rfl] at m2 u2 m4 u4
   rw [show strB [10] = ⟨#[10]⟩ from rfl] at m6 u6
   have o1:¬ 9223372036854775807 < 6 + (strB (F ka)).size:=m1
   have o2:¬ 9223372036854775807 < (strB a1).size + 1:=m2
   have o4:¬ 9223372036854775807 < (strB a3).size + 1:=m4
   have o6:¬ 9223372036854775807 < (strB a5).size + 1:=m6
   have y2:¬ 9223372036854775807 ≤ (strB a1).size:=fun h => o2 (Nat.lt_succ_of_le h)
   have y4:¬ 9223372036854775807 ≤ (strB a3).size:=fun h => o4 (Nat.lt_succ_of_le h)
   have y6:¬ 9223372036854775807 ≤ (strB a5).size:=fun h => o6 (Nat.lt_succ_of_le h)
   have i1:¬ kd < 1:=b1
   have i4:¬ 4 < kd:=b4
   obtain ⟨i0,hi0,hz0,hz1,hz2⟩:=info8k
   have HI:=Lib.hid (And.intro hi0 (And.intro hz0 (And.intro hz1 hz2)))
   clear hi0 hz0 hz1 hz2 n1 n2 n3 n4 n5 h1 h2 h3 h4 h5 h6 l1 l2 l3 hs2 hF hcg e0 hno hall hsn htk hle hle2 hpre hfo hcs2 hkl hj hj4 HK
   have HNow:=Lib.hid ((Keep.refl (fun _ => False) wr).drewN 1)
   go_wp2_with fail
   go_region_held3 (fun W' => W'.cell? ⟨g,f + k * 3,none⟩ = some (.int .i64 ka) ∧ W'.cell? ⟨g,f + k * 3 + 1,none⟩ = some (.int .i64 kd) ∧ W'.cell? ⟨g,f + k * 3 + 2,none⟩ = some (.int .i64 kp) ∧ W'.cell? ⟨q,j,none⟩ = some (.string (strB s2)))
    (first
     | exact HC4.out _ _ _ (HR.out.1.kept HNow.out)
     | exact HC4.out _ _ _ HG.out)
    (first
     | (go_at_call 33; refine (HT.out _ _ (by first | exact HX.out.1 | exact HX.out.2)).mono ?_; rintro e w' ⟨rfl,kx⟩; have HNow:=Lib.hid (HNow.out.trans kx); clear kx)
     | (refine step_append_str_k rfl (.tmp 30) (.tmp 57) 53 9 rfl 5 i0 Tryz.underlying53 Tryz.underlying9 HI.out.1 HI.out.2.1 HI.out.2.2.1 HI.out.2.2.2 _ _ _ rfl (row_base (HR.out.1.kept HNow.out).r.t fun g _ => Nat.zero_le _) a6 rfl (by have h1:=HR.out.2.2.2.1; have h2:=HR.out.2.2.2.2; have h3:=congrArg List.length HR.out.2.2.1; simp only [List.length_append] at h1 h3 ⊢; omega) ?_; intro v1 w4 hrow hgr hblk; have HG:=Lib.hid ((HR.out.1.kept HNow.out).grow hrow (keep_grown hgr) hblk); clear hrow hgr hblk))
   all_goals go_wp2_with fail
   all_goals go_roundg (gk - 1)
   all_goals first | omega | skip
   all_goals
    refine ⟨k + 1,by omega,by simp,?_,?_⟩
    ·rw [HR.out.2.2.1,← List.append_assoc]; exact HG.out
    ·rw [HR.out.2.1,decide_eq_true (by omega)]
  ·obtain rfl:k = n:=by omega
   have hkI:¬ (k:Int) < (k:Int):=by omega
   have h1:=HK.out.1.r
   have h2:=HK.out.2
   rw [List.take_of_length_le (by rw [HH.out.2.2.2.1]; exact Nat.le_refl _)] at h1 h2
   have HP:=Lib.hid (And.intro h1 h2)
   clear h1 h2 HK
   go_wp2_with fail
   go_ret2
   exact RbOut.yes HP.out.2 rfl HP.out.1

def rcallT (c:Call):Str:=
 if c.kind = 1 ∨ c.kind = 2 then putL [callWord c.kind,pairsS c.data]
 else if c.kind = 3 ∨ c.kind = 7 then putL [callWord c.kind] else putL [callWord c.kind,decS c.lsn]
theorem rcallT_is (c:Call):rcallT c = if c.kind = 1 ∨ c.kind = 2 then (callWord c.kind ++ ([32] ++ pairsS c.data)) ++ [10] else if c.kind = 3 ∨ c.kind = 7 then callWord c.kind ++ [10] else (callWord c.kind ++ ([32] ++ decS c.lsn)) ++ [10]:=by
 unfold rcallT putL
 simp [bod]
theorem rcalled_no {w0 w:World} {v:Value} {B:Str} (k l:Int) (o:Option Addr) (n cp:Nat) (h:Rb w0 w v B) (hk:k < 1 ∨ 7 < k) :
  Calls Tryz.prog 36 #[v,.agg #[.int .i64 k,.int .i64 l,.slice o n cp]] w fun e w' => e = .returned (.tuple #[v,.bool false]) ∧ Rb w0 w' v B:=by
 have hr:strB (rword k) = ⟨#[63]⟩:=by unfold rword; rw [if_neg (by omega)]; rfl
 have HH:=Lib.hid h
 have HW:=Lib.hid (fun W => by have:=rword_any k W; rw [hr] at this; exact this)
 obtain ⟨q,hq⟩:∃ q,w.heap.size = q:=⟨_,rfl⟩
 obtain ⟨W0,hW0⟩:∃ W0,w.alloc (.cells #[.int .i64 k,.int .i64 l,.slice o n cp] 76) = W0:=⟨_,rfl⟩
 have b0:W0.heap[q]? = some (.cells #[.int .i64 k,.int .i64 l,.slice o n cp] 76 (0,0)):=by rw [← hW0,← hq]; exact blk_new _ _
 have k0:Keep (fun _ => False) w W0:=by rw [← hW0]; exact (Keep.refl _ w).alloc _
 have e0:=blk_cell b0 0
 have e1:=blk_cell b0 1
 have e2:=blk_cell b0 2
 simp at e0 e1 e2
 have HB:=Lib.hid (And.intro b0 k0)
 have g1:(k == 1) = false:=by rw [beq_eq_false_iff_ne]; omega
 have g2:(k == 2) = false:=by rw [beq_eq_false_iff_ne]; omega
 have g3:(k == 3) = false:=by rw [beq_eq_false_iff_ne]; omega
 have g7:(k == 7) = false:=by rw [beq_eq_false_iff_ne]; omega
 clear h hr b0 k0 hk
 go_enter Tryz.func36,Tryz.ntmps36
 go_wp2_with (go_at_call 71; refine (HW.out _).mono ?_; rintro e w' ⟨rfl,kx⟩)
 go_ret2
 exact ⟨rfl,HH.out.kept (HB.out.2.trans kx)⟩
theorem Rb.grow1 {w0 W w4:World} {o:Obj} {v v':Value} {B:Str} {c:UInt8} (h:Rb w0 W v B) (hrow:w4.ownsRow 0 5 1 v' (B.length + 1) (u8v B ++ [.int .u8 (c.toNat:Int)])) (hg:(W.alloc o).grownBy w4 v.ownBlock) (hb:v'.ownBlock = v.ownBlock ∨ v'.ownBlock = some (W.alloc o).heap.size):Rb w0 w4 v' (B ++ [c]):=
 h.grow (C:=[c]) hrow (((Keep.refl (fun q => v.ownBlock = some q) W).alloc o).trans (keep_grown hg)) (hb.imp_right fun e => ⟨_,e,by simp⟩)
theorem Rs.row0 {w0 W:World} {v:Value} {B:Str} {q:Nat} {o:Obj} (h:Rs w0 W v B q o):W.ownsRow 0 5 1 v B.length (u8v B):=row_base h.r.t fun g _ => Nat.zero_le _
theorem Rs.row1 {w0 W:World} {v:Value} {B:Str} {q:Nat} {o o':Obj} (h:Rs w0 W v B q o):(W.alloc o').ownsRow 0 5 1 v B.length (u8v B):=row_keep h.row0 ((Keep.refl (fun _ => False) W).alloc _) fun _ _ => id
theorem rs_box {w0 w:World} {v:Value} {B:Str} (h:Rb w0 w v B) (o:Obj) (W0:World) (q:Nat) (hW:w.alloc o = W0) (hq:w.heap.size = q) (hb:W0.heap[q]? = some o):Rs w0 W0 v B q o:=
 ⟨h.kept (by rw [← hW]; exact (Keep.refl _ w).alloc _),hb,fun e => by have:=row_lt h.t e; omega⟩
theorem rcalled_bad1 {w0 w:World} {v:Value} {B:Str} (l:Int) (o:Option Addr) (n cp:Nat) (h:Rb w0 w v B) (hl:l ≠ 0) :
  Calls Tryz.prog 36 #[v,.agg #[.int .i64 1,.int .i64 l,.slice o n cp]] w fun e w' => e = .returned (.tuple #[v,.bool false]) ∧ Rb w0 w' v B:=by
 obtain ⟨q,hq⟩:∃ q,w.heap.size = q:=⟨_,rfl⟩
 obtain ⟨W0,hW0⟩:∃ W0,w.alloc (.cells #[.int .i64 1,.int .i64 l,.slice o n cp] 76) = W0:=⟨_,rfl⟩
 have b0:W0.heap[q]? = some (.cells #[.int .i64 1,.int .i64 l,.slice o n cp] 76 (0,0)):=by rw [← hW0,← hq]; exact blk_new _ _
 have HR:=Lib.hid (rs_box h _ W0 q hW0 hq b0)
 have e0:=blk_cell b0 0
 have e1:=blk_cell b0 1
 have e2:=blk_cell b0 2
 simp at e0 e1 e2
 have HW:=Lib.hid (fun W => show Calls Tryz.prog 71 #[.int .i64 1] W (fun e w' => e = .returned (.string ⟨#[97,112,112,101,110,100]⟩) ∧ Keep (fun _ => False) W w') from rword_any 1 W)
 have g1:(l == 0) = false:=by rw [beq_eq_false_iff_ne]; exact hl
 clear h b0
 go_enter Tryz.func36,Tryz.ntmps36
 go_wp2_with (go_at_call 71; refine (HW.out _).mono ?_; rintro e w' ⟨rfl,kx⟩; have HR:=Lib.hid (HR.out.kept kx); have e0:=cell_kept kx e0; have e1:=cell_kept kx e1; have e2:=cell_kept kx e2; clear kx)
 go_ret2
 exact ⟨rfl,HR.out.r⟩
theorem rcalled_bad2 {w0 w:World} {v:Value} {B:Str} (l:Int) (o:Option Addr) (n cp:Nat) (h:Rb w0 w v B) (hl:l ≠ 0) :
  Calls Tryz.prog 36 #[v,.agg #[.int .i64 2,.int .i64 l,.slice o n cp]] w fun e w' => e = .returned (.tuple #[v,.bool false]) ∧ Rb w0 w' v B:=by
 obtain ⟨q,hq⟩:∃ q,w.heap.size = q:=⟨_,rfl⟩
 obtain ⟨W0,hW0⟩:∃ W0,w.alloc (.cells #[.int .i64 2,.int .i64 l,.slice o n cp] 76) = W0:=⟨_,rfl⟩
 have b0:W0.heap[q]? = some (.cells #[.int .i64 2,.int .i64 l,.slice o n cp] 76 (0,0)):=by rw [← hW0,← hq]; exact blk_new _ _
 have HR:=Lib.hid (rs_box h _ W0 q hW0 hq b0)
 have e0:=blk_cell b0 0
 have e1:=blk_cell b0 1
 have e2:=blk_cell b0 2
 simp at e0 e1 e2
 have HW:=Lib.hid (fun W => show Calls Tryz.prog 71 #[.int .i64 2] W (fun e w' => e = .returned (.string ⟨#[97,115,121,110,99]⟩) ∧ Keep (fun _ => False) W w') from rword_any 2 W)
 have g1:(l == 0) = false:=by rw [beq_eq_false_iff_ne]; exact hl
 clear h b0
 go_enter Tryz.func36,Tryz.ntmps36
 go_wp2_with (go_at_call 71; refine (HW.out _).mono ?_; rintro e w' ⟨rfl,kx⟩; have HR:=Lib.hid (HR.out.kept kx); have e0:=cell_kept kx e0; have e1:=cell_kept kx e1; have e2:=cell_kept kx e2; clear kx)
 go_ret2
 exact ⟨rfl,HR.out.r⟩
theorem rcalled_bad3 {w0 w:World} {v:Value} {B:Str} (l:Int) (o:Option Addr) (n cp:Nat) (h:Rb w0 w v B) (hn:0 < n) :
  Calls Tryz.prog 36 #[v,.agg #[.int .i64 3,.int .i64 l,.slice o n cp]] w fun e w' => e = .returned (.tuple #[v,.bool false]) ∧ Rb w0 w' v B:=by
 obtain ⟨q,hq⟩:∃ q,w.heap.size = q:=⟨_,rfl⟩
 obtain ⟨W0,hW0⟩:∃ W0,w.alloc (.cells #[.int .i64 3,.int .i64 l,.slice o n cp] 76) = W0:=⟨_,rfl⟩
 have b0:W0.heap[q]? = some (.cells #[.int .i64 3,.int .i64 l,.slice o n cp] 76 (0,0)):=by rw [← hW0,← hq]; exact blk_new _ _
 have HR:=Lib.hid (rs_box h _ W0 q hW0 hq b0)
 have e0:=blk_cell b0 0
 have e1:=blk_cell b0 1
 have e2:=blk_cell b0 2
 simp at e0 e1 e2
 have HW:=Lib.hid (fun W => show Calls Tryz.prog 71 #[.int .i64 3] W (fun e w' => e = .returned (.string ⟨#[115,121,110,99]⟩) ∧ Keep (fun _ => False) W w') from rword_any 3 W)
 have g1:(0:Int) < (n:Int):=by omega
 have g2:((n:Int) == 0) = false:=by rw [beq_eq_false_iff_ne]; omega
 clear h b0
 go_enter Tryz.func36,Tryz.ntmps36
 go_wp2_with (go_at_call 71; refine (HW.out _).mono ?_; rintro e w' ⟨rfl,kx⟩; have HR:=Lib.hid (HR.out.kept kx); have e0:=cell_kept kx e0; have e1:=cell_kept kx e1; have e2:=cell_kept kx e2; clear kx)
 go_ret2
 exact ⟨rfl,HR.out.r⟩
theorem rcalled_bad4 {w0 w:World} {v:Value} {B:Str} (l:Int) (o:Option Addr) (n cp:Nat) (h:Rb w0 w v B) (hn:0 < n) :
  Calls Tryz.prog 36 #[v,.agg #[.int .i64 4,.int .i64 l,.slice o n cp]] w fun e w' => e = .returned (.tuple #[v,.bool false]) ∧ Rb w0 w' v B:=by
 obtain ⟨q,hq⟩:∃ q,w.heap.size = q:=⟨_,rfl⟩
 obtain ⟨W0,hW0⟩:∃ W0,w.alloc (.cells #[.int .i64 4,.int .i64 l,.slice o n cp] 76) = W0:=⟨_,rfl⟩
 have b0:W0.heap[q]? = some (.cells #[.int .i64 4,.int .i64 l,.slice o n cp] 76 (0,0)):=by rw [← hW0,← hq]; exact blk_new _ _
 have HR:=Lib.hid (rs_box h _ W0 q hW0 hq b0)
 have e0:=blk_cell b0 0
 have e1:=blk_cell b0 1
 have e2:=blk_cell b0 2
 simp at e0 e1 e2
 have HW:=Lib.hid (fun W => show Calls Tryz.prog 71 #[.int .i64 4] W (fun e w' => e = .returned (.string ⟨#[114,101,97,100]⟩) ∧ Keep (fun _ => False) W w') from rword_any 4 W)
 have g1:(0:Int) < (n:Int):=by omega
 have g2:((n:Int) == 0) = false:=by rw [beq_eq_false_iff_ne]; omega
 clear h b0
 go_enter Tryz.func36,Tryz.ntmps36
 go_wp2_with (go_at_call 71; refine (HW.out _).mono ?_; rintro e w' ⟨rfl,kx⟩; have HR:=Lib.hid (HR.out.kept kx); have e0:=cell_kept kx e0; have e1:=cell_kept kx e1; have e2:=cell_kept kx e2; clear kx)
 go_ret2
 exact ⟨rfl,HR.out.r⟩
theorem rcalled_bad5 {w0 w:World} {v:Value} {B:Str} (l:Int) (o:Option Addr) (n cp:Nat) (h:Rb w0 w v B) (hn:0 < n) :
  Calls Tryz.prog 36 #[v,.agg #[.int .i64 5,.int .i64 l,.slice o n cp]] w fun e w' => e = .returned (.tuple #[v,.bool false]) ∧ Rb w0 w' v B:=by
 obtain ⟨q,hq⟩:∃ q,w.heap.size = q:=⟨_,rfl⟩
 obtain ⟨W0,hW0⟩:∃ W0,w.alloc (.cells #[.int .i64 5,.int .i64 l,.slice o n cp] 76) = W0:=⟨_,rfl⟩
 have b0:W0.heap[q]? = some (.cells #[.int .i64 5,.int .i64 l,.slice o n cp] 76 (0,0)):=by rw [← hW0,← hq]; exact blk_new _ _
 have HR:=Lib.hid (rs_box h _ W0 q hW0 hq b0)
 have e0:=blk_cell b0 0
 have e1:=blk_cell b0 1
 have e2:=blk_cell b0 2
 simp at e0 e1 e2
 have HW:=Lib.hid (fun W => show Calls Tryz.prog 71 #[.int .i64 5] W (fun e w' => e = .returned (.string ⟨#[110,101,120,116]⟩) ∧ Keep (fun _ => False) W w') from rword_any 5 W)
 have g1:(0:Int) < (n:Int):=by omega
 have g2:((n:Int) == 0) = false:=by rw [beq_eq_false_iff_ne]; omega
 clear h b0
 go_enter Tryz.func36,Tryz.ntmps36
 go_wp2_with (go_at_call 71; refine (HW.out _).mono ?_; rintro e w' ⟨rfl,kx⟩; have HR:=Lib.hid (HR.out.kept kx); have e0:=cell_kept kx e0; have e1:=cell_kept kx e1; have e2:=cell_kept kx e2; clear kx)
 go_ret2
 exact ⟨rfl,HR.out.r⟩
theorem rcalled_bad6 {w0 w:World} {v:Value} {B:Str} (l:Int) (o:Option Addr) (n cp:Nat) (h:Rb w0 w v B) (hn:0 < n) :
  Calls Tryz.prog 36 #[v,.agg #[.int .i64 6,.int .i64 l,.slice o n cp]] w fun e w' => e = .returned (.tuple #[v,.bool false]) ∧ Rb w0 w' v B:=by
 obtain ⟨q,hq⟩:∃ q,w.heap.size = q:=⟨_,rfl⟩
 obtain ⟨W0,hW0⟩:∃ W0,w.alloc (.cells #[.int .i64 6,.int .i64 l,.slice o n cp] 76) = W0:=⟨_,rfl⟩
 have b0:W0.heap[q]? = some (.cells #[.int .i64 6,.int .i64 l,.slice o n cp] 76 (0,0)):=by rw [← hW0,← hq]; exact blk_new _ _
 have HR:=Lib.hid (rs_box h _ W0 q hW0 hq b0)
 have e0:=blk_cell b0 0
 have e1:=blk_cell b0 1
 have e2:=blk_cell b0 2
 simp at e0 e1 e2
 have HW:=Lib.hid (fun W => show Calls Tryz.prog 71 #[.int .i64 6] W (fun e w' => e = .returned (.string ⟨#[116,114,117,110,99,97,116,101]⟩) ∧ Keep (fun _ => False) W w') from rword_any 6 W)
 have g1:(0:Int) < (n:Int):=by omega
 have g2:((n:Int) == 0) = false:=by rw [beq_eq_false_iff_ne]; omega
 clear h b0
 go_enter Tryz.func36,Tryz.ntmps36
 go_wp2_with (go_at_call 71; refine (HW.out _).mono ?_; rintro e w' ⟨rfl,kx⟩; have HR:=Lib.hid (HR.out.kept kx); have e0:=cell_kept kx e0; have e1:=cell_kept kx e1; have e2:=cell_kept kx e2; clear kx)
 go_ret2
 exact ⟨rfl,HR.out.r⟩
theorem rcalled_bad7 {w0 w:World} {v:Value} {B:Str} (l:Int) (o:Option Addr) (n cp:Nat) (h:Rb w0 w v B) (hn:0 < n) :
  Calls Tryz.prog 36 #[v,.agg #[.int .i64 7,.int .i64 l,.slice o n cp]] w fun e w' => e = .returned (.tuple #[v,.bool false]) ∧ Rb w0 w' v B:=by
 obtain ⟨q,hq⟩:∃ q,w.heap.size = q:=⟨_,rfl⟩
 obtain ⟨W0,hW0⟩:∃ W0,w.alloc (.cells #[.int .i64 7,.int .i64 l,.slice o n cp] 76) = W0:=⟨_,rfl⟩
 have b0:W0.heap[q]? = some (.cells #[.int .i64 7,.int .i64 l,.slice o n cp] 76 (0,0)):=by rw [← hW0,← hq]; exact blk_new _ _
 have HR:=Lib.hid (rs_box h _ W0 q hW0 hq b0)
 have e0:=blk_cell b0 0
 have e1:=blk_cell b0 1
 have e2:=blk_cell b0 2
 simp at e0 e1 e2
 have HW:=Lib.hid (fun W => show Calls Tryz.prog 71 #[.int .i64 7] W (fun e w' => e = .returned (.string ⟨#[99,108,111,115,101]⟩) ∧ Keep (fun _ => False) W w') from rword_any 7 W)
 have g1:(0:Int) < (n:Int):=by omega
 have g2:((n:Int) == 0) = false:=by rw [beq_eq_false_iff_ne]; omega
 clear h b0
 go_enter Tryz.func36,Tryz.ntmps36
 go_wp2_with (go_at_call 71; refine (HW.out _).mono ?_; rintro e w' ⟨rfl,kx⟩; have HR:=Lib.hid (HR.out.kept kx); have e0:=cell_kept kx e0; have e1:=cell_kept kx e1; have e2:=cell_kept kx e2; clear kx)
 go_ret2
 exact ⟨rfl,HR.out.r⟩
theorem rcalled_bad3l {w0 w:World} {v:Value} {B:Str} (l:Int) (o:Option Addr) (n cp:Nat) (h:Rb w0 w v B) (hl:l ≠ 0) (hn:n = 0) :
  Calls Tryz.prog 36 #[v,.agg #[.int .i64 3,.int .i64 l,.slice o n cp]] w fun e w' => e = .returned (.tuple #[v,.bool false]) ∧ Rb w0 w' v B:=by
 obtain ⟨q,hq⟩:∃ q,w.heap.size = q:=⟨_,rfl⟩
 obtain ⟨W0,hW0⟩:∃ W0,w.alloc (.cells #[.int .i64 3,.int .i64 l,.slice o n cp] 76) = W0:=⟨_,rfl⟩
 have b0:W0.heap[q]? = some (.cells #[.int .i64 3,.int .i64 l,.slice o n cp] 76 (0,0)):=by rw [← hW0,← hq]; exact blk_new _ _
 have HR:=Lib.hid (rs_box h _ W0 q hW0 hq b0)
 have e0:=blk_cell b0 0
 have e1:=blk_cell b0 1
 have e2:=blk_cell b0 2
 simp at e0 e1 e2
 have HW:=Lib.hid (fun W => show Calls Tryz.prog 71 #[.int .i64 3] W (fun e w' => e = .returned (.string ⟨#[115,121,110,99]⟩) ∧ Keep (fun _ => False) W w') from rword_any 3 W)
 subst hn
 have g1:(l == 0) = false:=by rw [beq_eq_false_iff_ne]; exact hl
 clear h b0
 go_enter Tryz.func36,Tryz.ntmps36
 go_wp2_with (go_at_call 71; refine (HW.out _).mono ?_; rintro e w' ⟨rfl,kx⟩; have HR:=Lib.hid (HR.out.kept kx); have e0:=cell_kept kx e0; have e1:=cell_kept kx e1; have e2:=cell_kept kx e2; clear kx)
 go_ret2
 exact ⟨rfl,HR.out.r⟩
theorem rcalled_bad7l {w0 w:World} {v:Value} {B:Str} (l:Int) (o:Option Addr) (n cp:Nat) (h:Rb w0 w v B) (hl:l ≠ 0) (hn:n = 0) :
  Calls Tryz.prog 36 #[v,.agg #[.int .i64 7,.int .i64 l,.slice o n cp]] w fun e w' => e = .returned (.tuple #[v,.bool false]) ∧ Rb w0 w' v B:=by
 obtain ⟨q,hq⟩:∃ q,w.heap.size = q:=⟨_,rfl⟩
 obtain ⟨W0,hW0⟩:∃ W0,w.alloc (.cells #[.int .i64 7,.int .i64 l,.slice o n cp] 76) = W0:=⟨_,rfl⟩
 have b0:W0.heap[q]? = some (.cells #[.int .i64 7,.int .i64 l,.slice o n cp] 76 (0,0)):=by rw [← hW0,← hq]; exact blk_new _ _
 have HR:=Lib.hid (rs_box h _ W0 q hW0 hq b0)
 have e0:=blk_cell b0 0
 have e1:=blk_cell b0 1
 have e2:=blk_cell b0 2
 simp at e0 e1 e2
 have HW:=Lib.hid (fun W => show Calls Tryz.prog 71 #[.int .i64 7] W (fun e w' => e = .returned (.string ⟨#[99,108,111,115,101]⟩) ∧ Keep (fun _ => False) W w') from rword_any 7 W)
 subst hn
 have g1:(l == 0) = false:=by rw [beq_eq_false_iff_ne]; exact hl
 clear h b0
 go_enter Tryz.func36,Tryz.ntmps36
 go_wp2_with (go_at_call 71; refine (HW.out _).mono ?_; rintro e w' ⟨rfl,kx⟩; have HR:=Lib.hid (HR.out.kept kx); have e0:=cell_kept kx e0; have e1:=cell_kept kx e1; have e2:=cell_kept kx e2; clear kx)
 go_ret2
 exact ⟨rfl,HR.out.r⟩
theorem rcalled_good1 {w0 w:World} {v:Value} {B:Str} (l:Int) (o:Option Addr) (n cp:Nat) (h:Rb w0 w v B) {D:Str} (hd:CsAt w0 o (u8v D)) (hnd:D.length = n) (hn:n ≤ 1073741824) (hl:l = 0) (hb:(B ++ ((callWord 1 ++ ([32] ++ pairsS D)) ++ [10])).length ≤ 1099511627776) :
  Calls Tryz.prog 36 #[v,.agg #[.int .i64 1,.int .i64 l,.slice o n cp]] w fun e w' => ∃ v',e = .returned (.tuple #[v',.bool true]) ∧ Rb w0 w' v' (B ++ ((callWord 1 ++ ([32] ++ pairsS D)) ++ [10])):=by
 obtain ⟨q,hq⟩:∃ q,w.heap.size = q:=⟨_,rfl⟩
 obtain ⟨W0,hW0⟩:∃ W0,w.alloc (.cells #[.int .i64 1,.int .i64 l,.slice o n cp] 76) = W0:=⟨_,rfl⟩
 have b0:W0.heap[q]? = some (.cells #[.int .i64 1,.int .i64 l,.slice o n cp] 76 (0,0)):=by rw [← hW0,← hq]; exact blk_new _ _
 have HR:=Lib.hid (rs_box h _ W0 q hW0 hq b0)
 have e0:=blk_cell b0 0
 have e1:=blk_cell b0 1
 have e2:=blk_cell b0 2
 simp at e0 e1 e2
 have HW:=Lib.hid (fun W => show Calls Tryz.prog 71 #[.int .i64 1] W (fun e w' => e = .returned (.string ⟨#[97,112,112,101,110,100]⟩) ∧ Keep (fun _ => False) W w') from rword_any 1 W)
 subst hl
 have HX:=Lib.hid (fun W (kw:Keep (fun _ => False) w0 W) => rhex_any o cp D W (hd.kept kw) (by rw [hnd]; exact hn))
 rw [hnd] at HX
 obtain ⟨s2,hs2⟩:∃ s,pairsS D = s:=⟨_,rfl⟩
 rw [hs2] at HX hb ⊢
 obtain ⟨s3,hs3⟩:∃ s,[32] ++ s2 = s:=⟨_,rfl⟩
 rw [hs3] at hb ⊢
 have l3:s2.length + 1 = s3.length:=by rw [← hs3]; simp
 have m1:¬ 9223372036854775807 < 1 + (strB s2).size:=by rw [strB_size]; simp only [List.length_append] at hb; omega
 have u1:=cat_to hs3
 rw [show strB [32] = ⟨#[32]⟩ from rfl] at u1
 have HB:=Lib.hid hb
 obtain ⟨i0,hi0,hz0,hz1,hz2⟩:=info8k
 have HI:=Lib.hid (And.intro hi0 (And.intro hz0 (And.intro hz1 hz2)))
 clear h b0 hb hi0 hz0 hz1 hz2 hd hnd hn hs2 hs3 l3
 go_enter Tryz.func36,Tryz.ntmps36
 go_wp2_with (first
  | (go_at_call 71; refine (HW.out _).mono ?_; rintro e w' ⟨rfl,kx⟩; have HR:=Lib.hid (HR.out.kept kx); have e0:=cell_kept kx e0; have e1:=cell_kept kx e1; have e2:=cell_kept kx e2; clear kx)
  | (at_builtin; refine wpList_append_str_k _ rfl (.tmp 50) (.tmp 53) 53 9 rfl 5 i0 Tryz.underlying53 Tryz.underlying9 HI.out.1 HI.out.2.1 HI.out.2.2.1 HI.out.2.2.2 _ _ _ rfl HR.out.row0 (callWord 1) rfl (by have h:=HB.out; simp only [List.length_append] at h ⊢; omega) ?_; intro v1 w4 hrow hgr hblk; have HG:=Lib.hid (HR.out.grow hrow (keep_grown hgr) hblk); have e0:=blk_cell HG.out.b 0; have e1:=blk_cell HG.out.b 1; have e2:=blk_cell HG.out.b 2; simp at e0 e1 e2; clear hrow hgr hblk)
  | (go_at_call 37; refine (HX.out _ HG.out.r.k).mono ?_; rintro e w' ⟨rfl,kx⟩; have HG:=Lib.hid (HG.out.kept kx); clear kx)
  | (at_builtin; refine wpList_append_str_k _ rfl (.tmp 56) (.tmp 60) 53 9 rfl 5 i0 Tryz.underlying53 Tryz.underlying9 HI.out.1 HI.out.2.1 HI.out.2.2.1 HI.out.2.2.2 _ _ _ rfl HG.out.row0 s3 rfl (by have h:=HB.out; simp only [List.length_append] at h ⊢; omega) ?_; intro v1 w4 hrow hgr hblk; have HH:=Lib.hid (HG.out.grow hrow (keep_grown hgr) hblk); have e0:=blk_cell HH.out.b 0; have e1:=blk_cell HH.out.b 1; have e2:=blk_cell HH.out.b 2; simp at e0 e1 e2; clear hrow hgr hblk)
  | (at_builtin; refine wpList_append_own_at _ rfl (.tmp 70) (.tmp 71) 53 rfl 0 5 i0 (.int .u8 0) 1 1 Tryz.underlying53 HI.out.1 HI.out.2.1 HI.out.2.2.1 HI.out.2.2.2 rfl (by decide) _ _ _ rfl HH.out.row1 ⟨_,0,none⟩ 1 1 [.int .u8 10] rfl rfl (cell_one_new _ _ _) (by simp [Value.oneCell']) (by have h:=HB.out; unfold maxLen; simp only [List.length_append] at h ⊢; omega) (by have h:=HB.out; simp only [List.length_append] at h ⊢; omega) (Nat.zero_le _) ?_; intro v2 w5 hrow hgr _ hblk; have HF:=Lib.hid (HH.out.r.grow1 (c:=10) hrow hgr hblk); clear hrow hgr hblk))
 go_ret2
 exact ⟨v2,rfl,by have h:=HF.out; simp only [List.append_assoc] at h ⊢; exact h⟩
theorem rcalled_good2 {w0 w:World} {v:Value} {B:Str} (l:Int) (o:Option Addr) (n cp:Nat) (h:Rb w0 w v B) {D:Str} (hd:CsAt w0 o (u8v D)) (hnd:D.length = n) (hn:n ≤ 1073741824) (hl:l = 0) (hb:(B ++ ((callWord 2 ++ ([32] ++ pairsS D)) ++ [10])).length ≤ 1099511627776) :
  Calls Tryz.prog 36 #[v,.agg #[.int .i64 2,.int .i64 l,.slice o n cp]] w fun e w' => ∃ v',e = .returned (.tuple #[v',.bool true]) ∧ Rb w0 w' v' (B ++ ((callWord 2 ++ ([32] ++ pairsS D)) ++ [10])):=by
 obtain ⟨q,hq⟩:∃ q,w.heap.size = q:=⟨_,rfl⟩
 obtain ⟨W0,hW0⟩:∃ W0,w.alloc (.cells #[.int .i64 2,.int .i64 l,.slice o n cp] 76) = W0:=⟨_,rfl⟩
 have b0:W0.heap[q]? = some (.cells #[.int .i64 2,.int .i64 l,.slice o n cp] 76 (0,0)):=by rw [← hW0,← hq]; exact blk_new _ _
 have HR:=Lib.hid (rs_box h _ W0 q hW0 hq b0)
 have e0:=blk_cell b0 0
 have e1:=blk_cell b0 1
 have e2:=blk_cell b0 2
 simp at e0 e1 e2
 have HW:=Lib.hid (fun W => show Calls Tryz.prog 71 #[.int .i64 2] W (fun e w' => e = .returned (.string ⟨#[97,115,121,110,99]⟩) ∧ Keep (fun _ => False) W w') from rword_any 2 W)
 subst hl
 have HX:=Lib.hid (fun W (kw:Keep (fun _ => False) w0 W) => rhex_any o cp D W (hd.kept kw) (by rw [hnd]; exact hn))
 rw [hnd] at HX
 obtain ⟨s2,hs2⟩:∃ s,pairsS D = s:=⟨_,rfl⟩
 rw [hs2] at HX hb ⊢
 obtain ⟨s3,hs3⟩:∃ s,[32] ++ s2 = s:=⟨_,rfl⟩
 rw [hs3] at hb ⊢
 have l3:s2.length + 1 = s3.length:=by rw [← hs3]; simp
 have m1:¬ 9223372036854775807 < 1 + (strB s2).size:=by rw [strB_size]; simp only [List.length_append] at hb; omega
 have u1:=cat_to hs3
 rw [show strB [32] = ⟨#[32]⟩ from rfl] at u1
 have HB:=Lib.hid hb
 obtain ⟨i0,hi0,hz0,hz1,hz2⟩:=info8k
 have HI:=Lib.hid (And.intro hi0 (And.intro hz0 (And.intro hz1 hz2)))
 clear h b0 hb hi0 hz0 hz1 hz2 hd hnd hn hs2 hs3 l3
 go_enter Tryz.func36,Tryz.ntmps36
 go_wp2_with (first
  | (go_at_call 71; refine (HW.out _).mono ?_; rintro e w' ⟨rfl,kx⟩; have HR:=Lib.hid (HR.out.kept kx); have e0:=cell_kept kx e0; have e1:=cell_kept kx e1; have e2:=cell_kept kx e2; clear kx)
  | (at_builtin; refine wpList_append_str_k _ rfl (.tmp 50) (.tmp 53) 53 9 rfl 5 i0 Tryz.underlying53 Tryz.underlying9 HI.out.1 HI.out.2.1 HI.out.2.2.1 HI.out.2.2.2 _ _ _ rfl HR.out.row0 (callWord 2) rfl (by have h:=HB.out; simp only [List.length_append] at h ⊢; omega) ?_; intro v1 w4 hrow hgr hblk; have HG:=Lib.hid (HR.out.grow hrow (keep_grown hgr) hblk); have e0:=blk_cell HG.out.b 0; have e1:=blk_cell HG.out.b 1; have e2:=blk_cell HG.out.b 2; simp at e0 e1 e2; clear hrow hgr hblk)
  | (go_at_call 37; refine (HX.out _ HG.out.r.k).mono ?_; rintro e w' ⟨rfl,kx⟩; have HG:=Lib.hid (HG.out.kept kx); clear kx)
  | (at_builtin; refine wpList_append_str_k _ rfl (.tmp 56) (.tmp 60) 53 9 rfl 5 i0 Tryz.underlying53 Tryz.underlying9 HI.out.1 HI.out.2.1 HI.out.2.2.1 HI.out.2.2.2 _ _ _ rfl HG.out.row0 s3 rfl (by have h:=HB.out; simp only [List.length_append] at h ⊢; omega) ?_; intro v1 w4 hrow hgr hblk; have HH:=Lib.hid (HG.out.grow hrow (keep_grown hgr) hblk); have e0:=blk_cell HH.out.b 0; have e1:=blk_cell HH.out.b 1; have e2:=blk_cell HH.out.b 2; simp at e0 e1 e2; clear hrow hgr hblk)
  | (at_builtin; refine wpList_append_own_at _ rfl (.tmp 70) (.tmp 71) 53 rfl 0 5 i0 (.int .u8 0) 1 1 Tryz.underlying53 HI.out.1 HI.out.2.1 HI.out.2.2.1 HI.out.2.2.2 rfl (by decide) _ _ _ rfl HH.out.row1 ⟨_,0,none⟩ 1 1 [.int .u8 10] rfl rfl (cell_one_new _ _ _) (by simp [Value.oneCell']) (by have h:=HB.out; unfold maxLen; simp only [List.length_append] at h ⊢; omega) (by have h:=HB.out; simp only [List.length_append] at h ⊢; omega) (Nat.zero_le _) ?_; intro v2 w5 hrow hgr _ hblk; have HF:=Lib.hid (HH.out.r.grow1 (c:=10) hrow hgr hblk); clear hrow hgr hblk))
 go_ret2
 exact ⟨v2,rfl,by have h:=HF.out; simp only [List.append_assoc] at h ⊢; exact h⟩
theorem rcalled_good3 {w0 w:World} {v:Value} {B:Str} (l:Int) (o:Option Addr) (n cp:Nat) (h:Rb w0 w v B) (hn:n = 0) (hl:l = 0) (hb:(B ++ (callWord 3 ++ [10])).length ≤ 1099511627776) :
  Calls Tryz.prog 36 #[v,.agg #[.int .i64 3,.int .i64 l,.slice o n cp]] w fun e w' => ∃ v',e = .returned (.tuple #[v',.bool true]) ∧ Rb w0 w' v' (B ++ (callWord 3 ++ [10])):=by
 obtain ⟨q,hq⟩:∃ q,w.heap.size = q:=⟨_,rfl⟩
 obtain ⟨W0,hW0⟩:∃ W0,w.alloc (.cells #[.int .i64 3,.int .i64 l,.slice o n cp] 76) = W0:=⟨_,rfl⟩
 have b0:W0.heap[q]? = some (.cells #[.int .i64 3,.int .i64 l,.slice o n cp] 76 (0,0)):=by rw [← hW0,← hq]; exact blk_new _ _
 have HR:=Lib.hid (rs_box h _ W0 q hW0 hq b0)
 have e0:=blk_cell b0 0
 have e1:=blk_cell b0 1
 have e2:=blk_cell b0 2
 simp at e0 e1 e2
 have HW:=Lib.hid (fun W => show Calls Tryz.prog 71 #[.int .i64 3] W (fun e w' => e = .returned (.string ⟨#[115,121,110,99]⟩) ∧ Keep (fun _ => False) W w') from rword_any 3 W)
 subst hn
 subst hl
 have HB:=Lib.hid hb
 obtain ⟨i0,hi0,hz0,hz1,hz2⟩:=info8k
 have HI:=Lib.hid (And.intro hi0 (And.intro hz0 (And.intro hz1 hz2)))
 clear h b0 hb hi0 hz0 hz1 hz2
 go_enter Tryz.func36,Tryz.ntmps36
 go_wp2_with (first
  | (go_at_call 71; refine (HW.out _).mono ?_; rintro e w' ⟨rfl,kx⟩; have HR:=Lib.hid (HR.out.kept kx); have e0:=cell_kept kx e0; have e1:=cell_kept kx e1; have e2:=cell_kept kx e2; clear kx)
  | (at_builtin; refine wpList_append_str_k _ rfl (.tmp 50) (.tmp 53) 53 9 rfl 5 i0 Tryz.underlying53 Tryz.underlying9 HI.out.1 HI.out.2.1 HI.out.2.2.1 HI.out.2.2.2 _ _ _ rfl HR.out.row0 (callWord 3) rfl (by have h:=HB.out; simp only [List.length_append] at h ⊢; omega) ?_; intro v1 w4 hrow hgr hblk; have HG:=Lib.hid (HR.out.grow hrow (keep_grown hgr) hblk); have e0:=blk_cell HG.out.b 0; have e1:=blk_cell HG.out.b 1; have e2:=blk_cell HG.out.b 2; simp at e0 e1 e2; clear hrow hgr hblk)
  | (at_builtin; refine wpList_append_own_at _ rfl (.tmp 70) (.tmp 71) 53 rfl 0 5 i0 (.int .u8 0) 1 1 Tryz.underlying53 HI.out.1 HI.out.2.1 HI.out.2.2.1 HI.out.2.2.2 rfl (by decide) _ _ _ rfl HG.out.row1 ⟨_,0,none⟩ 1 1 [.int .u8 10] rfl rfl (cell_one_new _ _ _) (by simp [Value.oneCell']) (by have h:=HB.out; unfold maxLen; simp only [List.length_append] at h ⊢; omega) (by have h:=HB.out; simp only [List.length_append] at h ⊢; omega) (Nat.zero_le _) ?_; intro v2 w5 hrow hgr _ hblk; have HF:=Lib.hid (HG.out.r.grow1 (c:=10) hrow hgr hblk); clear hrow hgr hblk))
 go_ret2
 exact ⟨v2,rfl,by have h:=HF.out; simp only [List.append_assoc] at h ⊢; exact h⟩
theorem rcalled_good4 {w0 w:World} {v:Value} {B:Str} (l:Int) (o:Option Addr) (n cp:Nat) (h:Rb w0 w v B) (hn:n = 0) (hl:IsI l) (hb:(B ++ ((callWord 4 ++ ([32] ++ decS l)) ++ [10])).length ≤ 1099511627776) :
  Calls Tryz.prog 36 #[v,.agg #[.int .i64 4,.int .i64 l,.slice o n cp]] w fun e w' => ∃ v',e = .returned (.tuple #[v',.bool true]) ∧ Rb w0 w' v' (B ++ ((callWord 4 ++ ([32] ++ decS l)) ++ [10])):=by
 obtain ⟨q,hq⟩:∃ q,w.heap.size = q:=⟨_,rfl⟩
 obtain ⟨W0,hW0⟩:∃ W0,w.alloc (.cells #[.int .i64 4,.int .i64 l,.slice o n cp] 76) = W0:=⟨_,rfl⟩
 have b0:W0.heap[q]? = some (.cells #[.int .i64 4,.int .i64 l,.slice o n cp] 76 (0,0)):=by rw [← hW0,← hq]; exact blk_new _ _
 have HR:=Lib.hid (rs_box h _ W0 q hW0 hq b0)
 have e0:=blk_cell b0 0
 have e1:=blk_cell b0 1
 have e2:=blk_cell b0 2
 simp at e0 e1 e2
 have HW:=Lib.hid (fun W => show Calls Tryz.prog 71 #[.int .i64 4] W (fun e w' => e = .returned (.string ⟨#[114,101,97,100]⟩) ∧ Keep (fun _ => False) W w') from rword_any 4 W)
 subst hn
 have HX:=Lib.hid (fun W => rtext_any l W hl)
 obtain ⟨s2,hs2⟩:∃ s,decS l = s:=⟨_,rfl⟩
 rw [hs2] at HX hb ⊢
 obtain ⟨s3,hs3⟩:∃ s,[32] ++ s2 = s:=⟨_,rfl⟩
 rw [hs3] at hb ⊢
 have l3:s2.length + 1 = s3.length:=by rw [← hs3]; simp
 have m1:¬ 9223372036854775807 < 1 + (strB s2).size:=by rw [strB_size]; simp only [List.length_append] at hb; omega
 have u1:=cat_to hs3
 rw [show strB [32] = ⟨#[32]⟩ from rfl] at u1
 have HB:=Lib.hid hb
 obtain ⟨i0,hi0,hz0,hz1,hz2⟩:=info8k
 have HI:=Lib.hid (And.intro hi0 (And.intro hz0 (And.intro hz1 hz2)))
 clear h b0 hb hi0 hz0 hz1 hz2 hl hs2 hs3 l3
 go_enter Tryz.func36,Tryz.ntmps36
 go_wp2_with (first
  | (go_at_call 71; refine (HW.out _).mono ?_; rintro e w' ⟨rfl,kx⟩; have HR:=Lib.hid (HR.out.kept kx); have e0:=cell_kept kx e0; have e1:=cell_kept kx e1; have e2:=cell_kept kx e2; clear kx)
  | (at_builtin; refine wpList_append_str_k _ rfl (.tmp 50) (.tmp 53) 53 9 rfl 5 i0 Tryz.underlying53 Tryz.underlying9 HI.out.1 HI.out.2.1 HI.out.2.2.1 HI.out.2.2.2 _ _ _ rfl HR.out.row0 (callWord 4) rfl (by have h:=HB.out; simp only [List.length_append] at h ⊢; omega) ?_; intro v1 w4 hrow hgr hblk; have HG:=Lib.hid (HR.out.grow hrow (keep_grown hgr) hblk); have e0:=blk_cell HG.out.b 0; have e1:=blk_cell HG.out.b 1; have e2:=blk_cell HG.out.b 2; simp at e0 e1 e2; clear hrow hgr hblk)
  | (go_at_call 33; refine (HX.out _).mono ?_; rintro e w' ⟨rfl,kx⟩; have HG:=Lib.hid (HG.out.kept kx); clear kx)
  | (at_builtin; refine wpList_append_str_k _ rfl (.tmp 64) (.tmp 68) 53 9 rfl 5 i0 Tryz.underlying53 Tryz.underlying9 HI.out.1 HI.out.2.1 HI.out.2.2.1 HI.out.2.2.2 _ _ _ rfl HG.out.row0 s3 rfl (by have h:=HB.out; simp only [List.length_append] at h ⊢; omega) ?_; intro v1 w4 hrow hgr hblk; have HH:=Lib.hid (HG.out.grow hrow (keep_grown hgr) hblk); have e0:=blk_cell HH.out.b 0; have e1:=blk_cell HH.out.b 1; have e2:=blk_cell HH.out.b 2; simp at e0 e1 e2; clear hrow hgr hblk)
  | (at_builtin; refine wpList_append_own_at _ rfl (.tmp 70) (.tmp 71) 53 rfl 0 5 i0 (.int .u8 0) 1 1 Tryz.underlying53 HI.out.1 HI.out.2.1 HI.out.2.2.1 HI.out.2.2.2 rfl (by decide) _ _ _ rfl HH.out.row1 ⟨_,0,none⟩ 1 1 [.int .u8 10] rfl rfl (cell_one_new _ _ _) (by simp [Value.oneCell']) (by have h:=HB.out; unfold maxLen; simp only [List.length_append] at h ⊢; omega) (by have h:=HB.out; simp only [List.length_append] at h ⊢; omega) (Nat.zero_le _) ?_; intro v2 w5 hrow hgr _ hblk; have HF:=Lib.hid (HH.out.r.grow1 (c:=10) hrow hgr hblk); clear hrow hgr hblk))
 go_ret2
 exact ⟨v2,rfl,by have h:=HF.out; simp only [List.append_assoc] at h ⊢; exact h⟩
theorem rcalled_good5 {w0 w:World} {v:Value} {B:Str} (l:Int) (o:Option Addr) (n cp:Nat) (h:Rb w0 w v B) (hn:n = 0) (hl:IsI l) (hb:(B ++ ((callWord 5 ++ ([32] ++ decS l)) ++ [10])).length ≤ 1099511627776) :
  Calls Tryz.prog 36 #[v,.agg #[.int .i64 5,.int .i64 l,.slice o n cp]] w fun e w' => ∃ v',e = .returned (.tuple #[v',.bool true]) ∧ Rb w0 w' v' (B ++ ((callWord 5 ++ ([32] ++ decS l)) ++ [10])):=by
 obtain ⟨q,hq⟩:∃ q,w.heap.size = q:=⟨_,rfl⟩
 obtain ⟨W0,hW0⟩:∃ W0,w.alloc (.cells #[.int .i64 5,.int .i64 l,.slice o n cp] 76) = W0:=⟨_,rfl⟩
 have b0:W0.heap[q]? = some (.cells #[.int .i64 5,.int .i64 l,.slice o n cp] 76 (0,0)):=by rw [← hW0,← hq]; exact blk_new _ _
 have HR:=Lib.hid (rs_box h _ W0 q hW0 hq b0)
 have e0:=blk_cell b0 0
 have e1:=blk_cell b0 1
 have e2:=blk_cell b0 2
 simp at e0 e1 e2
 have HW:=Lib.hid (fun W => show Calls Tryz.prog 71 #[.int .i64 5] W (fun e w' => e = .returned (.string ⟨#[110,101,120,116]⟩) ∧ Keep (fun _ => False) W w') from rword_any 5 W)
 subst hn
 have HX:=Lib.hid (fun W => rtext_any l W hl)
 obtain ⟨s2,hs2⟩:∃ s,decS l = s:=⟨_,rfl⟩
 rw [hs2] at HX hb ⊢
 obtain ⟨s3,hs3⟩:∃ s,[32] ++ s2 = s:=⟨_,rfl⟩
 rw [hs3] at hb ⊢
 have l3:s2.length + 1 = s3.length:=by rw [← hs3]; simp
 have m1:¬ 9223372036854775807 < 1 + (strB s2).size:=by rw [strB_size]; simp only [List.length_append] at hb; omega
 have u1:=cat_to hs3
 rw [show strB [32] = ⟨#[32]⟩ from rfl] at u1
 have HB:=Lib.hid hb
 obtain ⟨i0,hi0,hz0,hz1,hz2⟩:=info8k
 have HI:=Lib.hid (And.intro hi0 (And.intro hz0 (And.intro hz1 hz2)))
 clear h b0 hb hi0 hz0 hz1 hz2 hl hs2 hs3 l3
 go_enter Tryz.func36,Tryz.ntmps36
 go_wp2_with (first
  | (go_at_call 71; refine (HW.out _).mono ?_; rintro e w' ⟨rfl,kx⟩; have HR:=Lib.hid (HR.out.kept kx); have e0:=cell_kept kx e0; have e1:=cell_kept kx e1; have e2:=cell_kept kx e2; clear kx)
  | (at_builtin; refine wpList_append_str_k _ rfl (.tmp 50) (.tmp 53) 53 9 rfl 5 i0 Tryz.underlying53 Tryz.underlying9 HI.out.1 HI.out.2.1 HI.out.2.2.1 HI.out.2.2.2 _ _ _ rfl HR.out.row0 (callWord 5) rfl (by have h:=HB.out; simp only [List.length_append] at h ⊢; omega) ?_; intro v1 w4 hrow hgr hblk; have HG:=Lib.hid (HR.out.grow hrow (keep_grown hgr) hblk); have e0:=blk_cell HG.out.b 0; have e1:=blk_cell HG.out.b 1; have e2:=blk_cell HG.out.b 2; simp at e0 e1 e2; clear hrow hgr hblk)
  | (go_at_call 33; refine (HX.out _).mono ?_; rintro e w' ⟨rfl,kx⟩; have HG:=Lib.hid (HG.out.kept kx); clear kx)
  | (at_builtin; refine wpList_append_str_k _ rfl (.tmp 64) (.tmp 68) 53 9 rfl 5 i0 Tryz.underlying53 Tryz.underlying9 HI.out.1 HI.out.2.1 HI.out.2.2.1 HI.out.2.2.2 _ _ _ rfl HG.out.row0 s3 rfl (by have h:=HB.out; simp only [List.length_append] at h ⊢; omega) ?_; intro v1 w4 hrow hgr hblk; have HH:=Lib.hid (HG.out.grow hrow (keep_grown hgr) hblk); have e0:=blk_cell HH.out.b 0; have e1:=blk_cell HH.out.b 1; have e2:=blk_cell HH.out.b 2; simp at e0 e1 e2; clear hrow hgr hblk)
  | (at_builtin; refine wpList_append_own_at _ rfl (.tmp 70) (.tmp 71) 53 rfl 0 5 i0 (.int .u8 0) 1 1 Tryz.underlying53 HI.out.1 HI.out.2.1 HI.out.2.2.1 HI.out.2.2.2 rfl (by decide) _ _ _ rfl HH.out.row1 ⟨_,0,none⟩ 1 1 [.int .u8 10] rfl rfl (cell_one_new _ _ _) (by simp [Value.oneCell']) (by have h:=HB.out; unfold maxLen; simp only [List.length_append] at h ⊢; omega) (by have h:=HB.out; simp only [List.length_append] at h ⊢; omega) (Nat.zero_le _) ?_; intro v2 w5 hrow hgr _ hblk; have HF:=Lib.hid (HH.out.r.grow1 (c:=10) hrow hgr hblk); clear hrow hgr hblk))
 go_ret2
 exact ⟨v2,rfl,by have h:=HF.out; simp only [List.append_assoc] at h ⊢; exact h⟩
theorem rcalled_good6 {w0 w:World} {v:Value} {B:Str} (l:Int) (o:Option Addr) (n cp:Nat) (h:Rb w0 w v B) (hn:n = 0) (hl:IsI l) (hb:(B ++ ((callWord 6 ++ ([32] ++ decS l)) ++ [10])).length ≤ 1099511627776) :
  Calls Tryz.prog 36 #[v,.agg #[.int .i64 6,.int .i64 l,.slice o n cp]] w fun e w' => ∃ v',e = .returned (.tuple #[v',.bool true]) ∧ Rb w0 w' v' (B ++ ((callWord 6 ++ ([32] ++ decS l)) ++ [10])):=by
 obtain ⟨q,hq⟩:∃ q,w.heap.size = q:=⟨_,rfl⟩
 obtain ⟨W0,hW0⟩:∃ W0,w.alloc (.cells #[.int .i64 6,.int .i64 l,.slice o n cp] 76) = W0:=⟨_,rfl⟩
 have b0:W0.heap[q]? = some (.cells #[.int .i64 6,.int .i64 l,.slice o n cp] 76 (0,0)):=by rw [← hW0,← hq]; exact blk_new _ _
 have HR:=Lib.hid (rs_box h _ W0 q hW0 hq b0)
 have e0:=blk_cell b0 0
 have e1:=blk_cell b0 1
 have e2:=blk_cell b0 2
 simp at e0 e1 e2
 have HW:=Lib.hid (fun W => show Calls Tryz.prog 71 #[.int .i64 6] W (fun e w' => e = .returned (.string ⟨#[116,114,117,110,99,97,116,101]⟩) ∧ Keep (fun _ => False) W w') from rword_any 6 W)
 subst hn
 have HX:=Lib.hid (fun W => rtext_any l W hl)
 obtain ⟨s2,hs2⟩:∃ s,decS l = s:=⟨_,rfl⟩
 rw [hs2] at HX hb ⊢
 obtain ⟨s3,hs3⟩:∃ s,[32] ++ s2 = s:=⟨_,rfl⟩
 rw [hs3] at hb ⊢
 have l3:s2.length + 1 = s3.length:=by rw [← hs3]; simp
 have m1:¬ 9223372036854775807 < 1 + (strB s2).size:=by rw [strB_size]; simp only [List.length_append] at hb; omega
 have u1:=cat_to hs3
 rw [show strB [32] = ⟨#[32]⟩ from rfl] at u1
 have HB:=Lib.hid hb
 obtain ⟨i0,hi0,hz0,hz1,hz2⟩:=info8k
 have HI:=Lib.hid (And.intro hi0 (And.intro hz0 (And.intro hz1 hz2)))
 clear h b0 hb hi0 hz0 hz1 hz2 hl hs2 hs3 l3
 go_enter Tryz.func36,Tryz.ntmps36
 go_wp2_with (first
  | (go_at_call 71; refine (HW.out _).mono ?_; rintro e w' ⟨rfl,kx⟩; have HR:=Lib.hid (HR.out.kept kx); have e0:=cell_kept kx e0; have e1:=cell_kept kx e1; have e2:=cell_kept kx e2; clear kx)
  | (at_builtin; refine wpList_append_str_k _ rfl (.tmp 50) (.tmp 53) 53 9 rfl 5 i0 Tryz.underlying53 Tryz.underlying9 HI.out.1 HI.out.2.1 HI.out.2.2.1 HI.out.2.2.2 _ _ _ rfl HR.out.row0 (callWord 6) rfl (by have h:=HB.out; simp only [List.length_append] at h ⊢; omega) ?_; intro v1 w4 hrow hgr hblk; have HG:=Lib.hid (HR.out.grow hrow (keep_grown hgr) hblk); have e0:=blk_cell HG.out.b 0; have e1:=blk_cell HG.out.b 1; have e2:=blk_cell HG.out.b 2; simp at e0 e1 e2; clear hrow hgr hblk)
  | (go_at_call 33; refine (HX.out _).mono ?_; rintro e w' ⟨rfl,kx⟩; have HG:=Lib.hid (HG.out.kept kx); clear kx)
  | (at_builtin; refine wpList_append_str_k _ rfl (.tmp 64) (.tmp 68) 53 9 rfl 5 i0 Tryz.underlying53 Tryz.underlying9 HI.out.1 HI.out.2.1 HI.out.2.2.1 HI.out.2.2.2 _ _ _ rfl HG.out.row0 s3 rfl (by have h:=HB.out; simp only [List.length_append] at h ⊢; omega) ?_; intro v1 w4 hrow hgr hblk; have HH:=Lib.hid (HG.out.grow hrow (keep_grown hgr) hblk); have e0:=blk_cell HH.out.b 0; have e1:=blk_cell HH.out.b 1; have e2:=blk_cell HH.out.b 2; simp at e0 e1 e2; clear hrow hgr hblk)
  | (at_builtin; refine wpList_append_own_at _ rfl (.tmp 70) (.tmp 71) 53 rfl 0 5 i0 (.int .u8 0) 1 1 Tryz.underlying53 HI.out.1 HI.out.2.1 HI.out.2.2.1 HI.out.2.2.2 rfl (by decide) _ _ _ rfl HH.out.row1 ⟨_,0,none⟩ 1 1 [.int .u8 10] rfl rfl (cell_one_new _ _ _) (by simp [Value.oneCell']) (by have h:=HB.out; unfold maxLen; simp only [List.length_append] at h ⊢; omega) (by have h:=HB.out; simp only [List.length_append] at h ⊢; omega) (Nat.zero_le _) ?_; intro v2 w5 hrow hgr _ hblk; have HF:=Lib.hid (HH.out.r.grow1 (c:=10) hrow hgr hblk); clear hrow hgr hblk))
 go_ret2
 exact ⟨v2,rfl,by have h:=HF.out; simp only [List.append_assoc] at h ⊢; exact h⟩
theorem rcalled_good7 {w0 w:World} {v:Value} {B:Str} (l:Int) (o:Option Addr) (n cp:Nat) (h:Rb w0 w v B) (hn:n = 0) (hl:l = 0) (hb:(B ++ (callWord 7 ++ [10])).length ≤ 1099511627776) :
  Calls Tryz.prog 36 #[v,.agg #[.int .i64 7,.int .i64 l,.slice o n cp]] w fun e w' => ∃ v',e = .returned (.tuple #[v',.bool true]) ∧ Rb w0 w' v' (B ++ (callWord 7 ++ [10])):=by
 obtain ⟨q,hq⟩:∃ q,w.heap.size = q:=⟨_,rfl⟩
 obtain ⟨W0,hW0⟩:∃ W0,w.alloc (.cells #[.int .i64 7,.int .i64 l,.slice o n cp] 76) = W0:=⟨_,rfl⟩
 have b0:W0.heap[q]? = some (.cells #[.int .i64 7,.int .i64 l,.slice o n cp] 76 (0,0)):=by rw [← hW0,← hq]; exact blk_new _ _
 have HR:=Lib.hid (rs_box h _ W0 q hW0 hq b0)
 have e0:=blk_cell b0 0
 have e1:=blk_cell b0 1
 have e2:=blk_cell b0 2
 simp at e0 e1 e2
 have HW:=Lib.hid (fun W => show Calls Tryz.prog 71 #[.int .i64 7] W (fun e w' => e = .returned (.string ⟨#[99,108,111,115,101]⟩) ∧ Keep (fun _ => False) W w') from rword_any 7 W)
 subst hn
 subst hl
 have HB:=Lib.hid hb
 obtain ⟨i0,hi0,hz0,hz1,hz2⟩:=info8k
 have HI:=Lib.hid (And.intro hi0 (And.intro hz0 (And.intro hz1 hz2)))
 clear h b0 hb hi0 hz0 hz1 hz2
 go_enter Tryz.func36,Tryz.ntmps36
 go_wp2_with (first
  | (go_at_call 71; refine (HW.out _).mono ?_; rintro e w' ⟨rfl,kx⟩; have HR:=Lib.hid (HR.out.kept kx); have e0:=cell_kept kx e0; have e1:=cell_kept kx e1; have e2:=cell_kept kx e2; clear kx)
  | (at_builtin; refine wpList_append_str_k _ rfl (.tmp 50) (.tmp 53) 53 9 rfl 5 i0 Tryz.underlying53 Tryz.underlying9 HI.out.1 HI.out.2.1 HI.out.2.2.1 HI.out.2.2.2 _ _ _ rfl HR.out.row0 (callWord 7) rfl (by have h:=HB.out; simp only [List.length_append] at h ⊢; omega) ?_; intro v1 w4 hrow hgr hblk; have HG:=Lib.hid (HR.out.grow hrow (keep_grown hgr) hblk); have e0:=blk_cell HG.out.b 0; have e1:=blk_cell HG.out.b 1; have e2:=blk_cell HG.out.b 2; simp at e0 e1 e2; clear hrow hgr hblk)
  | (at_builtin; refine wpList_append_own_at _ rfl (.tmp 70) (.tmp 71) 53 rfl 0 5 i0 (.int .u8 0) 1 1 Tryz.underlying53 HI.out.1 HI.out.2.1 HI.out.2.2.1 HI.out.2.2.2 rfl (by decide) _ _ _ rfl HG.out.row1 ⟨_,0,none⟩ 1 1 [.int .u8 10] rfl rfl (cell_one_new _ _ _) (by simp [Value.oneCell']) (by have h:=HB.out; unfold maxLen; simp only [List.length_append] at h ⊢; omega) (by have h:=HB.out; simp only [List.length_append] at h ⊢; omega) (Nat.zero_le _) ?_; intro v2 w5 hrow hgr _ hblk; have HF:=Lib.hid (HG.out.r.grow1 (c:=10) hrow hgr hblk); clear hrow hgr hblk))
 go_ret2
 exact ⟨v2,rfl,by have h:=HF.out; simp only [List.append_assoc] at h ⊢; exact h⟩
end Sc
end Go.Proofs.YtkkecpamnnojoaaGreatDoor
