/- A part of the proof of ScriptPrints: nothing is assumed. By an AI agent. -/
import Derived.Test.YtkkecpamnnojoaaGreatDoorBp23
import Derived.Test.YtkkecpamnnojoaaGreatDoorBp20
import Derived.Test.YtkkecpamnnojoaaGreatDoorBp18
import Derived.Deep.MidRow
set_option linter.unusedVariables false
set_option linter.unusedSimpArgs false
set_option maxRecDepth 100000
set_option maxHeartbeats 32000000
namespace Go.Proofs.YtkkecpamnnojoaaGreatDoor
open Go.ChangeShapes Go.WideShapes Go.ChangeAt Go.RowKit Go.Shelf
open Bt Dc By
namespace Sc

theorem light_sml {m:M} (h:lM m < 131072):Sml 131072 m.play:=by
 have hw:lM m = m.ps.length + m.fs.length + (m.ts.map lT).sum + (m.es.map lE).sum:=rfl
 constructor
 ·intro l hl c hc
  obtain ⟨t,ht,rfl⟩:=List.mem_map.1 hl
  obtain ⟨c',hc',rfl⟩:=List.mem_map.1 hc
  obtain ⟨i,hi,rfl⟩:=List.getElem_of_mem ht
  obtain ⟨j,hj,rfl⟩:=List.getElem_of_mem hc'
  have h1:=sum_mem lT m.ts i hi
  have h2:=sum_mem lC (m.ts[i]).l j hj
  rw [show lT m.ts[i] = 1 + ((m.ts[i]).l.map lC).sum from rfl] at h1
  rw [show lC (m.ts[i]).l[j] = 10 + (m.ts[i]).l[j].c.data.length from rfl] at h2
  omega
 ·intro r hr k hk
  obtain ⟨e,he,rfl⟩:=List.mem_map.1 hr
  obtain ⟨k',hk',rfl⟩:=List.mem_map.1 hk
  obtain ⟨i,hi,rfl⟩:=List.getElem_of_mem he
  obtain ⟨j,hj,rfl⟩:=List.getElem_of_mem hk'
  have h1:=sum_mem lE m.es i hi
  have h2:=sum_mem lK (m.es[i]).ks j hj
  rw [show lE m.es[i] = (m.es[i]).fs.length + ((m.es[i]).ks.map lK).sum from rfl] at h1
  rw [show lK (m.es[i]).ks[j] = 10 + (m.es[i]).ks[j].k.junk.length from rfl] at h2
  omega
theorem wP_bounds {m:M} {N:Nat} (h:wP m≤N):(m.fs.length≤N∧m.ts.length≤N∧m.ps.length≤N∧m.es.length≤N)∧((∀ t∈m.ts,t.l.length≤N∧∀ c∈t.l,c.c.data.length≤N)∧∀ e∈m.es,e.ks.length≤N∧e.fs.length≤N∧∀ k∈e.ks,k.k.junk.length≤N)∧lM m≤11 * N:=by
 have hw:wP m = m.fs.length + (m.ts.map wT).sum + m.ps.length + (m.es.map wE).sum:=rfl
 have ht:=sum_len wT (fun t=>by unfold wT; omega) m.ts
 have he:=sum_len wE (fun t=>by unfold wE; omega) m.es
 have key:∀ {α:Type} (f g:α→Nat) (l:List α),(∀ x,f x≤11 * g x)→(l.map f).sum≤11 * (l.map g).sum:=by
  intro α f g l hfg
  induction l with
  | nil=>simp
  | cons x l ih=>have:=hfg x; simp only [List.map_cons,List.sum_cons]; omega
 have hC:∀ c,lC c≤11 * wC c:=fun c=>by unfold lC wC; omega
 have hK:∀ c,lK c≤11 * wK c:=fun c=>by unfold lK wK; omega
 have hT:∀ t,lT t≤11 * wT t:=fun t=>by unfold lT wT; have:=key lC wC t.l hC; omega
 have hE:∀ t,lE t≤11 * wE t:=fun t=>by unfold lE wE; have:=key lK wK t.ks hK; omega
 have k1:=key lT wT m.ts hT
 have k2:=key lE wE m.es hE
 refine ⟨⟨by omega,by omega,by omega,by omega⟩,⟨fun t ht'=>?_,fun e he'=>?_⟩,by unfold lM; omega⟩
 ·obtain ⟨i,hi,rfl⟩:=List.getElem_of_mem ht'
  have h1:=sum_mem wT m.ts i hi
  have h2:=sum_len wC (fun c=>by unfold wC; omega) (m.ts[i]).l
  rw [show wT m.ts[i] = ((m.ts[i]).l.map wC).sum + 1 from rfl] at h1
  refine ⟨by omega,fun c hc=>?_⟩
  obtain ⟨j,hj,rfl⟩:=List.getElem_of_mem hc
  have h3:=sum_mem wC (m.ts[i]).l j hj
  rw [show wC (m.ts[i]).l[j] = (m.ts[i]).l[j].c.data.length + 1 from rfl] at h3
  omega
 ·obtain ⟨i,hi,rfl⟩:=List.getElem_of_mem he'
  have h1:=sum_mem wE m.es i hi
  have h2:=sum_len wK (fun c=>by unfold wK; omega) (m.es[i]).ks
  rw [show wE m.es[i] = ((m.es[i]).ks.map wK).sum + (m.es[i]).fs.length + 1 from rfl] at h1
  refine ⟨by omega,by omega,fun c hc=>?_⟩
  obtain ⟨j,hj,rfl⟩:=List.getElem_of_mem hc
  have h3:=sum_mem wK (m.es[i]).ks j hj
  rw [show wK (m.es[i]).ks[j] = (m.es[i]).ks[j].k.junk.length + 1 from rfl] at h3
  omega
theorem bd_wP {m:M} (h:wP m≤1048576):(m.fs.length≤1099511627776∧m.ts.length≤1099511627776∧m.ps.length≤1099511627776∧m.es.length≤1099511627776) ∧
  ((∀ t∈m.ts,t.l.length≤1099511627776∧∀ c∈t.l,c.c.data.length≤1099511627776)∧∀ e∈m.es,e.ks.length≤1099511627776∧e.fs.length≤1099511627776∧∀ k∈e.ks,k.k.junk.length≤1099511627776):=by
 obtain ⟨⟨h1,h2,h3,h4⟩,⟨h5,h6⟩,-⟩:=wP_bounds h
 exact ⟨⟨by omega,by omega,by omega,by omega⟩,fun t ht=>⟨by have:=(h5 t ht).1; omega,fun c hc=>by have:=(h5 t ht).2 c hc; omega⟩,fun e he=>⟨by have:=(h6 e he).1; omega,by have:=(h6 e he).2.1; omega,fun k hk=>by have:=(h6 e he).2.2 k hk; omega⟩⟩

theorem rcall_max {c:Call} {N:Nat} (hd:c.data.length≤N) (hi:IsI c.lsn):(rcallT c).length≤4 * N + 100:=by
 have hw:=(word_max c.kind).1
 have hp:=pairs_max c.data
 have hn:=dec_max hi
 unfold rcallT
 repeat' split
 all_goals
  unfold putL bod
  simp
  omega
theorem rkeep_max {k:Kp} {N:Nat} (hd:k.junk.length≤N) (hi:IsI k.n):(keepR k).length≤2 * N + 30:=by
 have hn:=dec_max hi
 have hp:=pairs_max k.junk
 unfold keepR
 rw [List.length_append]
 split
 ·simp; omega
 ·rw [List.length_cons]; omega
theorem rtask_max {l:List Call} {N:Nat} (hl:l.length≤256) (hs:∀ c∈l,c.data.length≤N) (hi:∀ c∈l,IsI c.lsn):(taskR l).length≤5 + 256 * (4 * N + 100):=by
 have h1:=flat_max rcallT (4 * N + 100) l fun c hc=>rcall_max (hs c hc) (hi c hc)
 have h3:=Nat.mul_le_mul_right (4 * N + 100) hl
 unfold taskR
 rw [List.length_append]
 exact Nat.add_le_add (by decide) (Nat.le_trans h1 h3)
theorem rend_max {r:Reopen} {N:Nat} (h1:r.faults.length≤64) (h2:r.keeps.length≤256) (hr:EndOk r) (hs:∀ k∈r.keeps,k.junk.length≤N):(endR r).length≤258 * (2 * N + 31) + 1 + 64 * 89:=by
 obtain ⟨h4,h5,h6⟩:=hr
 have h7:=put_max (2 * N + 30) ([101,110,100] :: decS r.dir :: r.keeps.map keepR) (by
  intro x hx
  rcases List.mem_cons.1 hx with rfl | hx
  ·show 3≤_; omega
  ·rcases List.mem_cons.1 hx with rfl | hx
   ·exact Nat.le_trans (dec_max h4) (by omega)
   ·obtain ⟨k,hk,rfl⟩:=List.mem_map.1 hx
    exact rkeep_max (hs k hk) (h5 k hk))
 have h8:=faults_max h6
 rw [List.length_cons,List.length_cons,List.length_map] at h7
 have h9:(r.keeps.length + 1 + 1) * (2 * N + 30 + 1)≤258 * (2 * N + 31):=Nat.mul_le_mul_right _ (by omega)
 have h10:r.faults.length * 89≤64 * 89:=Nat.mul_le_mul_right _ h1
 unfold endR
 rw [List.length_append]
 exact Nat.add_le_add (Nat.le_trans h7 (Nat.add_le_add_right h9 1)) (Nat.le_trans h8 h10)
theorem rfull_max {m:M} {N:Nat} (hok:PlayOk m.play) (hm:manyF m.play = false) (hs:Sml N m.play) (hN:N≤1048576) (hT:(txtS m.play.linger).length≤1073741824∧(txtS m.play.alpha).length≤1073741824):(rfullS m.play).length≤1099511627776:=by
 obtain ⟨g1,g2,g3,g4,g5,g6⟩:=many_not hm
 have e1:=head_max hok hT
 have e2:=faults_max hok.faults
 have e3:=flat_max taskR (5 + 256 * (4 * N + 100)) m.play.tasks fun l hl=>rtask_max (by
  obtain ⟨t,ht,rfl⟩:=List.mem_map.1 hl
  rw [List.length_map]; exact g3 t ht) (hs.data l hl) (hok.calls l hl)
 have e4:=picks_max (l:=m.play.picks) g4 hok.picks
 have e5:=flat_max endR (258 * (2 * N + 31) + 1 + 64 * 89) m.play.ends fun r hr=>by
  obtain ⟨e,he,rfl⟩:=List.mem_map.1 hr
  exact rend_max (g6 e he).1 (by have:=(g6 e he).2; show (e.ks.map (·.k)).length≤256; rw [List.length_map]; exact this) (hok.ends _ hr) (hs.junk _ hr)
 have n1:m.play.faults.length≤64:=g1
 have n2:m.play.tasks.length≤16:=by show (m.ts.map _).length≤16; rw [List.length_map]; exact g2
 have n4:m.play.ends.length≤16:=by show (m.es.map _).length≤16; rw [List.length_map]; exact g5
 have m0:m.play.faults.length * 89≤64 * 89:=Nat.mul_le_mul_right _ n1
 have m1:m.play.tasks.length * (5 + 256 * (4 * N + 100))≤16 * (5 + 256 * (4 * N + 100)):=Nat.mul_le_mul_right _ n2
 have m2:m.play.ends.length * (258 * (2 * N + 31) + 1 + 64 * 89)≤16 * (258 * (2 * N + 31) + 1 + 64 * 89):=Nat.mul_le_mul_right _ n4
 have e2:=Nat.le_trans e2 m0
 have e3:=Nat.le_trans e3 m1
 have e5:=Nat.le_trans e5 m2
 unfold rfullS
 simp only [List.length_append]
 generalize (headS m.play).length = a1 at *
 generalize (faultsS m.play.faults).length = a2 at *
 generalize (m.play.tasks.flatMap taskR).length = a3 at *
 generalize (picksS m.play.picks).length = a4 at *
 generalize (m.play.ends.flatMap endR).length = a5 at *
 clear hs hok hm hT m0 m1 m2 g1 g2 g3 g4 g5 g6 n1 n2 n4
 omega
theorem rpr_of {m:M} {N:Nat} (ok:PlayOk m.play) (hsm:Sml N m.play) (hN:N≤1048576) (len:m.fs.length≤1099511627776∧m.ts.length≤1099511627776∧m.ps.length≤1099511627776∧m.es.length≤1099511627776):RprOk m:=by
 refine ⟨ok,len,⟨fun t ht c hc=>?_,fun e he k hk=>?_⟩,fun hm=>rfull_max ok hm hsm hN ⟨txtS_max ok.linger,txtS_max ok.alpha⟩⟩
 ·have:=hsm.data _ (List.mem_map.2 ⟨t,ht,rfl⟩) _ (List.mem_map.2 ⟨c,hc,rfl⟩)
  omega
 ·have:=hsm.junk _ (List.mem_map.2 ⟨e,he,rfl⟩) _ (List.mem_map.2 ⟨k,hk,rfl⟩)
  omega
theorem rprint_any (m:M) (w:World) (hE:Ev w.heap.size w) (h:Seen w m) (hP:RprOk m) :
  Calls Tryz.prog 15 #[.agg m.val] w fun e w'=>e = .returned (.tuple #[.string (strB (printF m.play).1),.int .i64 (printF m.play).2])∧Keep (fun _=>False) w w':=by
 cases hm:manyF m.play with
 | true =>
  have e:printF m.play = ([],9):=by unfold printF; rw [if_pos hm]
  rw [e]
  exact rprint_many m w h hP hm
 | false =>
  rw [← rprint_same]
  exact rprint_few m w hE h hP hm
theorem load_play_mid {ops:Array Oper} {rest:List Oper} {o:Oper} {a:Act} {w:World} {Q:Exit→Act→World→Prop} (hgd:o.guard = none) (x:Operand) (ho:o.op = .load 40 x) (g f:Nat) (hx:a.eval x = .pointer (some ⟨g,f,none⟩)) (cs:Array Value) (hs:cs.size = 14) (hc:w.rangeAt g f cs.toList)
  (h:wpList Tryz.prog ops Q rest (a.put o.dst (.agg cs)) w):wpList Tryz.prog ops Q (o :: rest) a w:=
 wpList_load_mid hgd 40 x ho g f hx cs.toList _ hc Tryz.underlying40 rfl (by rw [Array.length_toList,hs]; exact play_size) (by simpa using h)
theorem prints_any (ms:List M) (v:Value) (w:World) (hv:SlAt w v ms.length (ms.flatMap fun m=>m.val.toList)) (hm:∀ m∈ms,Seen w m∧PlayOk m.play∧wP m≤1048576) (hE:Ev w.heap.size w) :
  Calls Tryz.prog 4 #[v] w fun e w'=>e = .returned (.bool true)∧Keep (fun _=>False) w w':=by
 obtain ⟨o,cp,rfl,-,hcs,-⟩:=hv
 obtain ⟨n,hN⟩:∃ n,ms.length = n:=⟨_,rfl⟩
 obtain ⟨K,hK⟩:∃ K,K = min n 10:=⟨_,rfl⟩
 have HEV:=Lib.hid (fun (W:World) (k:Keep (fun _=>False) w W)=>(hE.on k.none).up')
 have HBG:=Lib.hid (begun_any w hE)
 have HH:=Lib.hid (And.intro hcs (And.intro hm hN))
 rw [hN]
 clear hcs hm hN hE
 go_enter Tryz.func4,Tryz.ntmps4
 go_wp2_with (go_at_call 7; refine HBG.out.mono ?_; rintro e w' ⟨rfl,kx⟩; have HNow:=Lib.hid kx; clear kx)
 go_loopg [3] K (fun gq s3 wr=>∃ k:Nat,gq + k = K∧s3 = .int .i64 (k:Int)∧Hid (Keep (fun _=>False) w wr))
 case atStart=>exact ⟨0,by omega,rfl,HNow.out⟩
 case round =>
  obtain ⟨k,hgk,rfl,HJ⟩:=hrel
  have hk0:(0:Int)≤(k:Int):=by omega
  by_cases hk:k < K
  ·have hkI:(k:Int) < (n:Int):=by omega
   have hkT:(k:Int) < 10:=by omega
   have hkl:k < ms.length:=by rw [HH.out.2.2]; omega
   obtain ⟨g,f,rfl,hgl⟩:=HH.out.1.some (by rw [flatc_len _ 14 (fun _=>rfl)]; omega)
   have hx:=HH.out.2.1 _ (List.getElem_mem hkl)
   have hrg:∀ W,Keep (fun _=>False) w W→W.rangeAt g (f + k * 14) (ms[k]).val.toList:=fun W kw j u hu=>by
    have hj:j < 14:=by have:=(List.getElem?_eq_some_iff.1 hu).1; exact this
    rw [(HH.out.1.kept kw).get 14 (fun _=>rfl) (List.getElem?_eq_getElem hkl) j hj]
    exact hu
   obtain ⟨m,hmm⟩:∃ m,ms[k] = m:=⟨_,rfl⟩
   rw [hmm] at hx hrg
   have HRG:=Lib.hid hrg
   have HLI:=Lib.hid (fun (W:World) (kw:Keep (fun _=>False) w W)=>light_any m W (hx.1.kept kw) (by have:=(wP_bounds hx.2.2).2.2; omega) (bd_wP hx.2.2).1.2.2.2)
   have hsz:=M.val_size m
   have HS:=Lib.hid hx
   have HNow:=Lib.hid HJ.out
   clear hkl hrg hx hmm hgl
   by_cases hli:lM m < 131072
   ·rw [decide_eq_true hli] at HLI
    have hpo:=pr_of HS.out.2.1 (light_sml hli) (by omega) (bd_wP HS.out.2.2).1
    have hrp:=rpr_of HS.out.2.1 (light_sml hli) (by omega) (bd_wP HS.out.2.2).1
    have HPR:=Lib.hid (fun (W:World) (kw:Keep (fun _=>False) w W)=>print_any m W (HEV.out W kw) (HS.out.1.kept kw) hpo)
    have HRP:=Lib.hid (fun (W:World) (kw:Keep (fun _=>False) w W)=>rprint_any m W (HEV.out W kw) (HS.out.1.kept kw) hrp)
    generalize strB (printF m.play).1 = S1 at *
    generalize (printF m.play).2 = C1 at *
    generalize m.val = cs at *
    clear hli hpo hrp
    go_wp2_with (first
     | (refine load_guard (.tmp 22) 40 (by rfl) ?_; go_must (refine load_play_mid rfl (.tmp 22) rfl g (f + k * 14) rfl cs hsz (HRG.out _ HNow.out) ?_))
     | (refine load_guard (.tmp 29) 40 (by rfl) ?_; go_must (refine load_play_mid rfl (.tmp 29) rfl g (f + k * 14) rfl cs hsz (HRG.out _ HNow.out) ?_))
     | (refine load_guard (.tmp 37) 40 (by rfl) ?_; go_must (refine load_play_mid rfl (.tmp 37) rfl g (f + k * 14) rfl cs hsz (HRG.out _ HNow.out) ?_))
     | (go_at_call 13; refine (HLI.out _ HNow.out).mono ?_; rintro e w1 ⟨rfl,kx⟩; have HNow:=Lib.hid (HNow.out.trans kx); clear kx)
     | (go_at_call 14; refine (HPR.out _ HNow.out).mono ?_; rintro e w2 ⟨rfl,kx⟩; have HNow:=Lib.hid (HNow.out.trans kx); clear kx)
     | (go_at_call 15; refine (HRP.out _ HNow.out).mono ?_; rintro e w3 ⟨rfl,kx⟩; have HNow:=Lib.hid (HNow.out.trans kx); clear kx))
    go_roundg (gk - 1)
    all_goals first | omega | skip
    exact ⟨k + 1,by omega,by simp,HNow.out⟩
   ·rw [decide_eq_false hli] at HLI
    generalize m.val = cs at *
    clear hli
    go_wp2_with (first
     | (refine load_guard (.tmp 22) 40 (by rfl) ?_; go_must (refine load_play_mid rfl (.tmp 22) rfl g (f + k * 14) rfl cs hsz (HRG.out _ HNow.out) ?_))
     | (go_at_call 13; refine (HLI.out _ HNow.out).mono ?_; rintro e w1 ⟨rfl,kx⟩; have HNow:=Lib.hid (HNow.out.trans kx); clear kx))
    go_roundg (gk - 1)
    all_goals first | omega | skip
    exact ⟨k + 1,by omega,by simp,HNow.out⟩
  ·have hkT:¬ ((k:Int) < (n:Int)∧(k:Int) < 10):=by omega
   by_cases h10:(k:Int) < (n:Int)
   ·have h11:¬ (k:Int) < 10:=by omega
    clear hkT hk
    go_wp2_with fail
    go_ret
    exact ⟨rfl,HJ.out⟩
   ·clear hkT hk
    go_wp2_with fail
    go_ret
    exact ⟨rfl,HJ.out⟩
end Sc
end Go.Proofs.YtkkecpamnnojoaaGreatDoor
