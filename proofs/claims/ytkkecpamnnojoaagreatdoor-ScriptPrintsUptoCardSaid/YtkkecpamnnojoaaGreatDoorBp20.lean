/- A part of the proof of ScriptPrints: nothing is assumed. By an AI agent. -/
import Derived.Test.YtkkecpamnnojoaaGreatDoorBp19
import Derived.Lib.ItoaLen
import Derived.Lib.SmallJoins
import Derived.Test.YtkkecpamnnojoaaGreatDoorBp03
import Derived.Test.YtkkecpamnnojoaaGreatDoorBp18
import Derived.Test.YtkkecpamnnojoaaGreatDoorBp17
set_option linter.unusedVariables false
set_option linter.unusedSimpArgs false
set_option maxRecDepth 100000
set_option maxHeartbeats 32000000
namespace Go.Proofs.YtkkecpamnnojoaaGreatDoor
open Go.ChangeShapes Go.WideShapes Go.ChangeAt Go.RowKit
namespace Sc

def faultW (f:Fault):List Str:=[[102,97,117,108,116],decS f.at_,faultWord f.kind,decS f.part]
def callW (c:Call):List Str:=if c.kind = 1 ∨ c.kind = 2 then [callWord c.kind,pairsS c.data] else if c.kind = 3 ∨ c.kind = 7 then [callWord c.kind] else [callWord c.kind,decS c.lsn]
def taskW (l:List Call):List (List Str):=[[116,97,115,107]] :: l.map callW
def picksW (l:List Int):List (List Str):=if l = [] then [] else [[112,105,99,107,115] :: l.map decS]
def endW (r:Reopen):List (List Str):=([101,110,100] :: decS r.dir :: r.keeps.map keepT) :: r.faults.map faultW
def playW (p:Play):List Str:=[[112,108,97,121],decS p.disk,decS p.segMax,decS p.base,decS p.qcap,decS p.qbytes,decS p.pmost,decS p.pbytes,txtS p.linger,txtS p.alpha]
def mostW (p:Play):List Str:=[[109,111,115,116],decS p.most]
def allW (p:Play):List (List Str):=[playW p,mostW p] ++ p.faults.map faultW ++ p.tasks.flatMap taskW ++ picksW p.picks ++ p.ends.flatMap endW
theorem faults_w (l:List Fault):(l.map faultW).flatMap putL = faultsS l:=by
 unfold faultsS
 rw [List.flatMap_map]
 rfl
theorem call_w {c:Call} (h:c.data.length ≤ 65536):callT c = putL (callW c):=by
 unfold callT callW
 split
 ·rw [if_neg (by omega)]
 ·split <;> rfl
theorem task_w {l:List Call} (h:∀ c ∈ l,c.data.length ≤ 65536):(taskW l).flatMap putL = taskS l:=by
 unfold taskW taskS
 rw [List.flatMap_cons,List.flatMap_map]
 congr 1
 induction l with
 | nil => rfl
 | cons c l ih =>
  rw [List.flatMap_cons,List.flatMap_cons,ih fun x hx => h x (List.mem_cons_of_mem _ hx),call_w (h c (by simp))]
theorem end_w (r:Reopen):(endW r).flatMap putL = endT r:=by
 unfold endW endT
 rw [List.flatMap_cons,faults_w]
theorem picks_w (l:List Int):(picksW l).flatMap putL = picksS l:=by
 unfold picksW picksS
 split
 ·rfl
 ·simp
theorem all_w {p:Play} (h:∀ l ∈ p.tasks,∀ c ∈ l,c.data.length ≤ 65536):(allW p).flatMap putL = fullS p:=by
 unfold allW fullS
 simp only [List.flatMap_append,faults_w,picks_w]
 have e1:(p.tasks.flatMap taskW).flatMap putL = p.tasks.flatMap taskS:=by
  rw [List.flatMap_assoc]
  have:∀ L:List (List Call),(∀ l ∈ L,∀ c ∈ l,c.data.length ≤ 65536) → L.flatMap (fun x => (taskW x).flatMap putL) = L.flatMap taskS:=by
   intro L hL
   induction L with
   | nil => rfl
   | cons x L ih => rw [List.flatMap_cons,List.flatMap_cons,ih fun y hy => hL y (List.mem_cons_of_mem _ hy),task_w (hL x (by simp))]
  exact this p.tasks h
 have e2:(p.ends.flatMap endW).flatMap putL = p.ends.flatMap endT:=by
  rw [List.flatMap_assoc]
  congr 1
  funext r
  exact end_w r
 rw [e1,e2]
 unfold headS
 simp only [List.flatMap_cons,List.flatMap_nil,List.append_nil,playW,mostW]
structure Pt (p:Play):Prop where
 ok:PlayOk p
 faults:p.faults.length ≤ 64 ∧ ∀ f ∈ p.faults,1 ≤ f.kind ∧ f.kind ≤ 4
 tasks:p.tasks.length ≤ 16 ∧ ∀ l ∈ p.tasks,l.length ≤ 256 ∧ ∀ c ∈ l,rightF c = true
 picks:p.picks.length ≤ 65536
 ends:p.ends.length ≤ 16 ∧ ∀ r ∈ p.ends,r.faults.length ≤ 64 ∧ r.keeps.length ≤ 256 ∧ ∀ f ∈ r.faults,1 ≤ f.kind ∧ f.kind ≤ 4
theorem Pt.many {p:Play} (h:Pt p):manyF p = false:=by
 unfold manyF
 rw [Bool.or_eq_false_iff,Bool.or_eq_false_iff]
 refine ⟨⟨?_,?_⟩,?_⟩
 ·rw [decide_eq_false_iff_not]
  have:=h.faults.1
  have:=h.tasks.1
  have:=h.picks
  have:=h.ends.1
  omega
 ·rw [List.any_eq_false]
  intro l hl
  have:=(h.tasks.2 l hl).1
  simp; omega
 ·rw [List.any_eq_false]
  intro r hr
  have:=h.ends.2 r hr
  simp; omega
theorem Pt.known {p:Play} (h:Pt p):knownF p = true:=by
 unfold knownF
 rw [Bool.and_eq_true,List.all_eq_true,List.all_eq_true]
 constructor
 ·intro f hf
  rw [decide_eq_true_eq]
  rcases List.mem_append.1 hf with hf | hf
  ·exact fault_range.2 (h.faults.2 f hf)
  ·obtain ⟨r,hr,hf⟩:=List.mem_flatMap.1 hf
   exact fault_range.2 ((h.ends.2 r hr).2.2 f hf)
 ·intro l hl
  rw [List.all_eq_true]
  exact (h.tasks.2 l hl).2
theorem Pt.of {p:Play} (ok:PlayOk p) (hm:manyF p = false) (hk:knownF p = true):Pt p:=by
 unfold manyF at hm
 rw [Bool.or_eq_false_iff,Bool.or_eq_false_iff,decide_eq_false_iff_not,List.any_eq_false,List.any_eq_false] at hm
 unfold knownF at hk
 rw [Bool.and_eq_true,List.all_eq_true,List.all_eq_true] at hk
 obtain ⟨⟨m1,m2⟩,m3⟩:=hm
 obtain ⟨k1,k2⟩:=hk
 refine ⟨ok,⟨by omega,fun f hf => fault_range.1 (by simpa using k1 f (List.mem_append_left _ hf))⟩,⟨by omega,fun l hl => ⟨by have:=m2 l hl; simp at this; omega,?_⟩⟩,by omega,by omega,fun r hr => ?_⟩
 ·have:=k2 l hl
  rw [List.all_eq_true] at this
  exact this
 ·have h1:=m3 r hr
  simp at h1
  exact ⟨by omega,by omega,fun f hf => fault_range.1 (by simpa using k1 f (List.mem_append_right _ (List.mem_flatMap.2 ⟨r,hr,hf⟩)))⟩
def canP (p:Play):Play:={ p with linger:=canW p.linger,alpha:=canW p.alpha }

theorem right_kind {c:Call} (h:rightF c = true):1 ≤ c.kind ∧ c.kind ≤ 7:=by
 unfold rightF at h
 repeat' split at h
 all_goals first | omega | cases h
theorem gw_fault {f:Fault} (hk:1 ≤ f.kind ∧ f.kind ≤ 4):∀ x ∈ faultW f,gw x = true:=by
 intro x hx
 unfold faultW at hx
 simp at hx
 rcases hx with rfl | rfl | rfl | rfl
 ·decide
 ·exact decS_gw _
 ·exact (faultWord_gw hk).1
 ·exact decS_gw _
theorem gw_call {c:Call} (h:rightF c = true):∀ x ∈ callW c,gw x = true:=by
 have hk:=callWord_gw (right_kind h)
 intro x hx
 unfold callW at hx
 split at hx
 ·simp at hx
  rcases hx with rfl | rfl
  ·exact hk.1
  ·exact pairsS_gw _
 ·split at hx
  ·simp at hx
   subst hx
   exact hk.1
  ·simp at hx
   rcases hx with rfl | rfl
   ·exact hk.1
   ·exact decS_gw _
theorem step_fault {σ:PS} {f:Fault} (hk:1 ≤ f.kind ∧ f.kind ≤ 4) (hok:FaultOk f) (hst:σ.st = 2 ∨ σ.st = 5) (hf:(armed σ.p).length < 64):stepF σ [102,97,117,108,116] [decS f.at_,faultWord f.kind,decS f.part] = .ok ⟨arm σ.p f,σ.st⟩:=by
 have hn:nxt σ.st 3 = σ.st:=by rcases hst with h | h <;> rw [h] <;> decide
 have h:=step_is (σ:=σ) (w:=[102,97,117,108,116]) (ws:=[decS f.at_,faultWord f.kind,decS f.part]) (p:=arm σ.p f) 3 (by decide) (by decide) (by rw [hn]; omega) (fun h => absurd h (by decide)) (by unfold full; rw [if_pos rfl,decide_eq_false_iff_not]; omega) (by simp [counts]) (by
  unfold takeF
  rw [if_neg (by decide),if_neg (by decide),if_pos rfl]
  unfold faultF
  have e1:numOf ([decS f.at_,faultWord f.kind,decS f.part].getD 0 []) = some f.at_:=num_dec hok.1
  have e2:faultKind ([decS f.at_,faultWord f.kind,decS f.part].getD 1 []) = f.kind:=(faultWord_gw hk).2
  have e3:numOf ([decS f.at_,faultWord f.kind,decS f.part].getD 2 []) = some f.part:=num_dec hok.2
  rw [e1,e2,e3]
  simp only []
  rw [if_neg (by omega)])
 rw [h,hn]
theorem run_cons {σ σ':PS} {w:Str} {ws:List Str} {L:List (List Str)} (h:stepF σ w ws = .ok σ'):runL σ ((w :: ws) :: L) = runL σ' L:=by rw [runL,h]
theorem run_faults:∀ (fs:List Fault) (p:Play),p.ends = [] → p.faults.length + fs.length ≤ 64 → (∀ f ∈ fs,(1 ≤ f.kind ∧ f.kind ≤ 4) ∧ FaultOk f) → runL ⟨p,2⟩ (fs.map faultW) = .ok ⟨{ p with faults:=p.faults ++ fs },2⟩
 | [],p,_,_,_ => by rw [List.map_nil,runL,List.append_nil]
 | f :: fs,p,he,hn,hf => by
  obtain ⟨h1,h2⟩:=hf f (by simp)
  rw [List.length_cons] at hn
  have ha:armed p = p.faults:=by unfold armed; rw [he]; rfl
  have ha2:arm p f = { p with faults:=p.faults ++ [f] }:=by unfold arm; rw [he]; rfl
  rw [List.map_cons]
  unfold faultW
  rw [run_cons (step_fault (σ:=⟨p,2⟩) h1 h2 (Or.inl rfl) (by show (armed p).length < 64; rw [ha]; omega))]
  show runL ⟨arm p f,2⟩ _ = _
  rw [ha2]
  have ih:=run_faults fs { p with faults:=p.faults ++ [f] } he (by simp; omega) fun x hx => hf x (List.mem_cons_of_mem _ hx)
  unfold faultW at ih
  rw [ih]
  simp
theorem run_efaults:∀ (fs:List Fault) (p:Play) (es:List Reopen) (r:Reopen),p.ends = es ++ [r] → r.faults.length + fs.length ≤ 64 → (∀ f ∈ fs,(1 ≤ f.kind ∧ f.kind ≤ 4) ∧ FaultOk f) → runL ⟨p,5⟩ (fs.map faultW) = .ok ⟨{ p with ends:=es ++ [{ r with faults:=r.faults ++ fs }] },5⟩
 | [],p,es,r,he,_,_ => by rw [List.map_nil,runL,List.append_nil,← he]
 | f :: fs,p,es,r,he,hn,hf => by
  obtain ⟨h1,h2⟩:=hf f (by simp)
  rw [List.length_cons] at hn
  have ha:armed p = r.faults:=by unfold armed; rw [he]; simp
  have ha2:arm p f = { p with ends:=es ++ [{ r with faults:=r.faults ++ [f] }] }:=by unfold arm; rw [he]; simp
  rw [List.map_cons]
  unfold faultW
  rw [run_cons (step_fault (σ:=⟨p,5⟩) h1 h2 (Or.inr rfl) (by show (armed p).length < 64; rw [ha]; omega))]
  show runL ⟨arm p f,5⟩ _ = _
  rw [ha2]
  have ih:=run_efaults fs { p with ends:=es ++ [{ r with faults:=r.faults ++ [f] }] } es { r with faults:=r.faults ++ [f] } rfl (by simp; omega) fun x hx => hf x (List.mem_cons_of_mem _ hx)
  unfold faultW at ih
  rw [ih]
  simp
theorem callTo_is {p:Play} {ts:List (List Call)} {l:List Call} (h:p.tasks = ts ++ [l]) (c:Call):callTo p c = { p with tasks:=ts ++ [l ++ [c]] }:=by
 unfold callTo
 rw [h]
 simp [List.getLastD_eq_getLast?]
theorem step_call {p:Play} {ts:List (List Call)} {l:List Call} (h:p.tasks = ts ++ [l]) (hl:l.length < 256) {c:Call} (hr:rightF c = true) (hi:IsI c.lsn) {w:Str} {ws:List Str} (hw:callW c = w :: ws):stepF ⟨p,3⟩ w ws = .ok ⟨{ p with tasks:=ts ++ [l ++ [c]] },3⟩:=by
 obtain ⟨h1,h2,h3⟩:=callWord_gw (right_kind hr)
 have hfull:∀ n,full p 5 n = false:=fun n => by
  unfold full
  rw [if_neg (by decide),if_neg (by decide),if_pos rfl,decide_eq_false_iff_not,h]
  simp [List.getLastD_eq_getLast?]
  exact hl
 have hne:p.tasks ≠ []:=by rw [h]; simp
 have hn:nxt 3 5 = 3:=by decide
 have key:∀ ws,counts 5 (callWord c.kind) ws.length = true → callF p (callWord c.kind) ws = .ok (callTo p c) → stepF ⟨p,3⟩ (callWord c.kind) ws = .ok ⟨{ p with tasks:=ts ++ [l ++ [c]] },3⟩:=by
  intro ws hc ht
  have:=step_is (σ:=⟨p,3⟩) (w:=callWord c.kind) (ws:=ws) (p:=callTo p c) 5 h2 (by decide) (by show nxt 3 5 ≠ 6; rw [hn]; decide) (fun _ => hne) (hfull _) hc (by
   unfold takeF
   rw [if_neg (by decide),if_neg (by decide),if_neg (by decide),if_neg (by decide),if_pos rfl]
   exact ht)
  rw [this,callTo_is h]
  rfl
 have hct:∀ n,counts 5 (callWord c.kind) n = if c.kind = 3 ∨ c.kind = 7 then decide (n = 0) else decide (n = 1):=fun n => by
  unfold counts
  rw [if_neg (by decide),if_neg (by decide),if_neg (by decide),if_neg (by decide),if_pos rfl,h3]
 have hcf:∀ ws,callF p (callWord c.kind) ws = (if c.kind = 1 ∨ c.kind = 2 then match hexOf (ws.getD 0 []) true with
  | none => .error 64
  | some b => .ok (callTo p ⟨c.kind,0,b⟩)
 else if c.kind = 4 ∨ c.kind = 5 ∨ c.kind = 6 then match numOf (ws.getD 0 []) with
  | none => .error 66
  | some n => .ok (callTo p ⟨c.kind,n,[]⟩)
 else .ok (callTo p ⟨c.kind,0,[]⟩)):=fun ws => by
  unfold callF
  rw [h3]
  all_goals rfl
 obtain ⟨kind,lsn,data⟩:=c
 simp only [] at hcf hct h1 h2 h3 hi key
 unfold callW at hw
 simp only [] at hw
 unfold rightF at hr
 simp only [] at hr
 by_cases k1:kind = 1 ∨ kind = 2
 ·rw [if_pos k1] at hw hr
  cases hw
  refine key _ ?_ ?_
  ·rw [hct,if_neg (by omega)]; rfl
  ·rw [hcf,if_pos k1]
   have e:hexOf ([pairsS data].getD 0 []) true = some data:=hex_back data true (Or.inr rfl)
   rw [e]
   have:lsn = 0:=by simpa using hr
   rw [this]
 ·rw [if_neg k1] at hw hr
  by_cases k2:kind = 3 ∨ kind = 7
  ·rw [if_pos k2] at hw hr
   cases hw
   refine key _ ?_ ?_
   ·rw [hct,if_pos k2]; rfl
   ·rw [hcf,if_neg k1,if_neg (by omega)]
    have:lsn = 0 ∧ data = []:=by simpa using hr
    rw [this.1,this.2]
  ·rw [if_neg k2] at hw hr
   cases hw
   have k3:kind = 4 ∨ kind = 5 ∨ kind = 6:=by
    apply Classical.byContradiction
    intro k3
    rw [if_neg k3] at hr
    cases hr
   rw [if_pos k3] at hr
   refine key _ ?_ ?_
   ·rw [hct,if_neg k2]; rfl
   ·rw [hcf,if_neg k1,if_pos k3]
    have e:numOf ([decS lsn].getD 0 []) = some lsn:=num_dec hi
    rw [e]
    have:data = []:=by simpa using hr
    rw [this]
theorem callW_cons (c:Call):∃ w ws,callW c = w :: ws:=by
 unfold callW
 split
 ·exact ⟨_,_,rfl⟩
 ·split <;> exact ⟨_,_,rfl⟩
theorem run_calls:∀ (cs:List Call) (p:Play) (ts:List (List Call)) (l:List Call),p.tasks = ts ++ [l] → l.length + cs.length ≤ 256 → (∀ c ∈ cs,rightF c = true ∧ IsI c.lsn) → runL ⟨p,3⟩ (cs.map callW) = .ok ⟨{ p with tasks:=ts ++ [l ++ cs] },3⟩
 | [],p,ts,l,h,_,_ => by rw [List.map_nil,runL,List.append_nil,← h]
 | c :: cs,p,ts,l,h,hn,hc => by
  obtain ⟨h1,h2⟩:=hc c (by simp)
  rw [List.length_cons] at hn
  obtain ⟨w,ws,hw⟩:=callW_cons c
  rw [List.map_cons,hw,run_cons (step_call h (by omega) h1 h2 hw)]
  rw [run_calls cs { p with tasks:=ts ++ [l ++ [c]] } ts (l ++ [c]) rfl (by simp; omega) fun x hx => hc x (List.mem_cons_of_mem _ hx)]
  simp
theorem run_task {p:Play} {st:Nat} (hst:st = 2 ∨ st = 3) (hp:p.tasks.length < 16) {l:List Call} (hl:l.length ≤ 256) (hc:∀ c ∈ l,rightF c = true ∧ IsI c.lsn):runL ⟨p,st⟩ (taskW l) = .ok ⟨{ p with tasks:=p.tasks ++ [l] },3⟩:=by
 unfold taskW
 have hn:nxt st 4 = 3:=by rcases hst with h | h <;> rw [h] <;> decide
 have h:=step_is (σ:=⟨p,st⟩) (w:=[116,97,115,107]) (ws:=[]) (p:={ p with tasks:=p.tasks ++ [[]] }) 4 (by decide) (by decide) (by show nxt st 4 ≠ 6; rw [hn]; decide) (fun h => absurd h (by decide)) (by unfold full; rw [if_neg (by decide),if_pos rfl,decide_eq_false_iff_not]; show ¬ 16 ≤ p.tasks.length; omega) (by simp [counts]) (by
  unfold takeF
  rw [if_neg (by decide),if_neg (by decide),if_neg (by decide),if_pos rfl])
 rw [run_cons h]
 show runL ⟨_,nxt st 4⟩ _ = _
 rw [hn,run_calls l { p with tasks:=p.tasks ++ [[]] } p.tasks [] rfl (by simpa using hl) hc]
 simp
theorem run_tasks:∀ (ts:List (List Call)) (p:Play) (st:Nat),(st = 2 ∨ st = 3) → p.tasks.length + ts.length ≤ 16 → (∀ l ∈ ts,l.length ≤ 256 ∧ ∀ c ∈ l,rightF c = true ∧ IsI c.lsn) → ∃ st',(st' = 2 ∨ st' = 3) ∧ runL ⟨p,st⟩ (ts.flatMap taskW) = .ok ⟨{ p with tasks:=p.tasks ++ ts },st'⟩
 | [],p,st,hst,_,_ => ⟨st,hst,by rw [List.flatMap_nil,runL,List.append_nil]⟩
 | l :: ts,p,st,hst,hn,h => by
  obtain ⟨h1,h2⟩:=h l (by simp)
  rw [List.length_cons] at hn
  obtain ⟨st',h3,h4⟩:=run_tasks ts { p with tasks:=p.tasks ++ [l] } 3 (Or.inr rfl) (by simp; omega) fun x hx => h x (List.mem_cons_of_mem _ hx)
  refine ⟨st',h3,?_⟩
  rw [List.flatMap_cons,runL_app _ _ _ _ (run_task hst (by omega) h1 h2),h4]
  simp
theorem nums_back:∀ l:List Int,(∀ n ∈ l,IsI n) → nums (l.map decS) = some l
 | [],_ => rfl
 | n :: l,h => by rw [List.map_cons,nums,num_dec (h n (by simp)),nums_back l fun x hx => h x (List.mem_cons_of_mem _ hx)]; rfl
theorem run_picks {p:Play} {st:Nat} (hst:st = 2 ∨ st = 3) {l:List Int} (hp:p.picks = []) (hl:l.length ≤ 65536) (h:∀ n ∈ l,IsI n):∃ st',(st' = 2 ∨ st' = 3 ∨ st' = 4) ∧ runL ⟨p,st⟩ (picksW l) = .ok ⟨{ p with picks:=l },st'⟩:=by
 unfold picksW
 by_cases h0:l = []
 ·rw [if_pos h0]
  refine ⟨st,by omega,?_⟩
  rw [runL,h0,← hp]
 ·rw [if_neg h0]
  have hn:nxt st 6 = 4:=by rcases hst with h | h <;> rw [h] <;> decide
  have hpos:0 < l.length:=List.length_pos_iff.2 h0
  have h:=step_is (σ:=⟨p,st⟩) (w:=[112,105,99,107,115]) (ws:=l.map decS) (p:={ p with picks:=p.picks ++ l }) 6 (by decide) (by decide) (by show nxt st 6 ≠ 6; rw [hn]; decide) (fun h => absurd h (by decide)) (by
    unfold full
    rw [if_neg (by decide),if_neg (by decide),if_neg (by decide),if_pos rfl,decide_eq_false_iff_not,List.length_map]
    show ¬ 65536 < p.picks.length + l.length
    rw [hp]; simp; omega) (by
    unfold counts
    rw [if_neg (by decide),if_neg (by decide),if_neg (by decide),if_neg (by decide),if_neg (by decide),decide_eq_true_eq,List.length_map]
    omega) (by
    unfold takeF
    rw [if_neg (by decide),if_neg (by decide),if_neg (by decide),if_neg (by decide),if_neg (by decide),if_pos rfl,nums_back l h])
  rw [run_cons h]
  refine ⟨4,by omega,?_⟩
  show runL ⟨_,nxt st 6⟩ [] = _
  rw [hn,hp]
  rfl
theorem keeps_back:∀ l:List Kp,(∀ k ∈ l,IsI k.n ∧ k.junk.length ≤ 65536) → keepsF (l.map keepT) = .ok l
 | [],_ => rfl
 | k :: l,h => by
  obtain ⟨h1,h2⟩:=h k (by simp)
  rw [List.map_cons,keepsF,keep_back k h1 h2]
  simp only []
  rw [keeps_back l fun x hx => h x (List.mem_cons_of_mem _ hx)]
theorem run_end {p:Play} {st:Nat} (hst:2 ≤ st ∧ st ≤ 5) (hp:p.ends.length < 16) {r:Reopen} (hr:EndOk r) (h1:r.faults.length ≤ 64) (h2:r.keeps.length ≤ 256) (h3:∀ f ∈ r.faults,1 ≤ f.kind ∧ f.kind ≤ 4) (h4:∀ k ∈ r.keeps,k.junk.length ≤ 65536):runL ⟨p,st⟩ (endW r) = .ok ⟨{ p with ends:=p.ends ++ [r] },5⟩:=by
 obtain ⟨dir,keeps,faults⟩:=r
 simp only [] at h1 h2 h3 h4
 unfold endW
 simp only []
 have hn:nxt st 7 = 5:=by
  have:st = 2 ∨ st = 3 ∨ st = 4 ∨ st = 5:=by omega
  rcases this with h | h | h | h <;> rw [h] <;> decide
 have h:=step_is (σ:=⟨p,st⟩) (w:=[101,110,100]) (ws:=decS dir :: keeps.map keepT) (p:={ p with ends:=p.ends ++ [⟨dir,keeps,[]⟩] }) 7 (by decide) (by decide) (by show nxt st 7 ≠ 6; rw [hn]; decide) (fun h => absurd h (by decide)) (by
   unfold full
   rw [if_neg (by decide),if_neg (by decide),if_neg (by decide),if_neg (by decide),if_pos rfl,List.length_cons,List.length_map]
   have e1:decide (16 ≤ p.ends.length) = false:=by rw [decide_eq_false_iff_not]; omega
   have e2:decide (257 < keeps.length + 1) = false:=by rw [decide_eq_false_iff_not]; omega
   show (decide (16 ≤ p.ends.length) || _) = false
   rw [e1,e2]; rfl) (by
   unfold counts
   rw [if_neg (by decide),if_neg (by decide),if_neg (by decide),if_neg (by decide),if_neg (by decide),decide_eq_true_eq,List.length_cons]
   omega) (by
   unfold takeF
   rw [if_neg (by decide),if_neg (by decide),if_neg (by decide),if_neg (by decide),if_neg (by decide),if_neg (by decide)]
   unfold endF
   have e1:numOf ((decS dir :: keeps.map keepT).getD 0 []) = some dir:=num_dec hr.1
   have e2:(decS dir :: keeps.map keepT).drop 1 = keeps.map keepT:=rfl
   rw [e1,e2,keeps_back keeps fun k hk => ⟨hr.2.1 k hk,h4 k hk⟩])
 rw [run_cons h]
 show runL ⟨_,nxt st 7⟩ _ = _
 rw [hn,run_efaults faults { p with ends:=p.ends ++ [⟨dir,keeps,[]⟩] } p.ends ⟨dir,keeps,[]⟩ rfl (by simpa using h1) fun f hf => ⟨h3 f hf,hr.2.2 f hf⟩]
 rfl
theorem run_ends:∀ (es:List Reopen) (p:Play) (st:Nat),(2 ≤ st ∧ st ≤ 5) → p.ends.length + es.length ≤ 16 → (∀ r ∈ es,EndOk r ∧ r.faults.length ≤ 64 ∧ r.keeps.length ≤ 256 ∧ (∀ f ∈ r.faults,1 ≤ f.kind ∧ f.kind ≤ 4) ∧ ∀ k ∈ r.keeps,k.junk.length ≤ 65536) → ∃ st',(2 ≤ st' ∧ st' ≤ 5) ∧ runL ⟨p,st⟩ (es.flatMap endW) = .ok ⟨{ p with ends:=p.ends ++ es },st'⟩
 | [],p,st,hst,_,_ => ⟨st,hst,by rw [List.flatMap_nil,runL,List.append_nil]⟩
 | r :: es,p,st,hst,hn,h => by
  obtain ⟨h1,h2,h3,h4,h5⟩:=h r (by simp)
  rw [List.length_cons] at hn
  obtain ⟨st',h6,h7⟩:=run_ends es { p with ends:=p.ends ++ [r] } 5 (by omega) (by simp; omega) fun x hx => h x (List.mem_cons_of_mem _ hx)
  refine ⟨st',h6,?_⟩
  rw [List.flatMap_cons,runL_app _ _ _ _ (run_end hst (by omega) h1 h2 h3 h4 h5),h7]
  simp
theorem run_head {p:Play} (hok:PlayOk p) (hR:∀ u,u < 18446744073709551616 → readF (txtS u) = (canW u,0)) :
  runL ⟨play0,0⟩ [playW p,mostW p] = .ok ⟨{ canP p with faults:=[],tasks:=[],picks:=[],ends:=[] },2⟩:=by
 obtain ⟨disk,segMax,base,qcap,qbytes,pmost,pbytes,linger,alpha,faults,tasks,picks,most,ends⟩:=p
 have k0:=hok.disk
 have k1:=hok.segMax
 have k2:=hok.base
 have k3:=hok.qcap
 have k4:=hok.qbytes
 have k5:=hok.pmost
 have k6:=hok.pbytes
 have k7:=hok.linger
 have k8:=hok.alpha
 have k9:=hok.most
 simp only [] at k0 k1 k2 k3 k4 k5 k6 k7 k8 k9
 unfold playW mostW
 simp only []
 have h:=step_is (σ:=⟨play0,0⟩) (w:=[112,108,97,121]) (ws:=[decS disk,decS segMax,decS base,decS qcap,decS qbytes,decS pmost,decS pbytes,txtS linger,txtS alpha])
  (p:={ play0 with disk:=disk,segMax:=segMax,base:=base,qcap:=qcap,qbytes:=qbytes,pmost:=pmost,pbytes:=pbytes,linger:=canW linger,alpha:=canW alpha }) 1 (by decide) (by decide) (by decide) (fun h => absurd h (by decide)) (by simp [full]) (by simp [counts]) (by
   unfold takeF
   rw [if_pos rfl]
   unfold playF
   have e1:nums ([decS disk,decS segMax,decS base,decS qcap,decS qbytes,decS pmost,decS pbytes,txtS linger,txtS alpha].take 7) = some [disk,segMax,base,qcap,qbytes,pmost,pbytes]:=nums_back [disk,segMax,base,qcap,qbytes,pmost,pbytes] (by
    intro n hn
    simp at hn
    rcases hn with rfl | rfl | rfl | rfl | rfl | rfl | rfl <;> assumption)
   have e2:readF ([decS disk,decS segMax,decS base,decS qcap,decS qbytes,decS pmost,decS pbytes,txtS linger,txtS alpha].getD 7 []) = (canW linger,0):=hR _ k7
   have e3:readF ([decS disk,decS segMax,decS base,decS qcap,decS qbytes,decS pmost,decS pbytes,txtS linger,txtS alpha].getD 8 []) = (canW alpha,0):=hR _ k8
   rw [e1,e2,e3]
   rfl)
 rw [run_cons h]
 have h2:=step_is (σ:=⟨{ play0 with disk:=disk,segMax:=segMax,base:=base,qcap:=qcap,qbytes:=qbytes,pmost:=pmost,pbytes:=pbytes,linger:=canW linger,alpha:=canW alpha },1⟩) (w:=[109,111,115,116]) (ws:=[decS most])
  (p:={ play0 with disk:=disk,segMax:=segMax,base:=base,qcap:=qcap,qbytes:=qbytes,pmost:=pmost,pbytes:=pbytes,linger:=canW linger,alpha:=canW alpha,most:=most }) 2 (by decide) (by decide) (by show nxt 1 2 ≠ 6; decide) (fun h => absurd h (by decide)) (by simp [full]) (by simp [counts]) (by
   unfold takeF
   rw [if_neg (by decide),if_pos rfl]
   have e1:numOf ([decS most].getD 0 []) = some most:=num_dec k9
   rw [e1])
 show runL ⟨_,1⟩ _ = _
 rw [run_cons h2]
 rfl
theorem flat_le {α:Type} (f:α → Str):∀ (l:List α) (x:α),x ∈ l → (f x).length ≤ (l.flatMap f).length
 | [],x,h => by simp at h
 | y :: l,x,h => by
  rw [List.flatMap_cons,List.length_append]
  rcases List.mem_cons.1 h with rfl | h
  ·omega
  ·have:=flat_le f l x h; omega
theorem bod_mem:∀ (ws:List Str) (x:Str),x ∈ ws → x.length ≤ (bod ws).length
 | [],x,h => by simp at h
 | w :: ws,x,h => by
  unfold bod
  rw [List.length_append]
  rcases List.mem_cons.1 h with rfl | h
  ·omega
  ·have:=flat_le (fun x => 32 :: x) ws x h
   simp only [List.length_cons] at this
   omega
theorem full_data {p:Play} (hn:(fullS p).length ≤ 65536) (hr:∀ l ∈ p.tasks,∀ c ∈ l,rightF c = true):(∀ l ∈ p.tasks,∀ c ∈ l,c.data.length ≤ 65536) ∧ ∀ r ∈ p.ends,∀ k ∈ r.keeps,k.junk.length ≤ 65536:=by
 unfold fullS at hn
 simp only [List.length_append] at hn
 constructor
 ·intro l hl c hc
  have h1:=flat_le taskS p.tasks l hl
  unfold taskS at h1
  rw [List.length_append] at h1
  have h2:=flat_le callT l c hc
  have h3:(callT c).length ≤ 65536:=by unfold taskS at hn; omega
  apply Classical.byContradiction
  intro h4
  have hk:=hr l hl c hc
  unfold rightF at hk
  unfold callT at h3
  by_cases k1:c.kind = 1 ∨ c.kind = 2
  ·rw [if_pos k1,if_pos (by omega)] at h3; omega
  ·rw [if_neg k1] at hk
   by_cases k2:c.kind = 3 ∨ c.kind = 7
   ·rw [if_pos k2] at hk
    simp at hk
    rw [hk.2] at h4
    simp at h4
   ·rw [if_neg k2] at hk
    split at hk
    ·simp at hk
     rw [hk] at h4
     simp at h4
    ·cases hk
 ·intro r hr k hk
  have h1:=flat_le endT p.ends r hr
  unfold endT putL at h1
  simp only [List.length_append] at h1
  have h2:=bod_mem ([101,110,100] :: decS r.dir :: r.keeps.map keepT) (keepT k) (by simp; exact Or.inr (Or.inr ⟨k,hk,rfl⟩))
  have h3:(keepT k).length ≤ 65536:=by unfold endT putL at hn; omega
  apply Classical.byContradiction
  intro h4
  have hj:k.junk ≠ []:=by intro e; rw [e] at h4; simp at h4
  unfold keepT at h3
  rw [if_neg hj,List.length_append,List.length_cons] at h3
  have h5:k.junk.take 65536 ≠ []:=by
   intro e
   rcases List.take_eq_nil_iff.1 e with e | e
   ·omega
   ·exact hj e
  rw [pairsS_of h5,two_len,List.length_take] at h3
  omega
theorem back_parse {p:Play} (h:Pt p) (hn:(fullS p).length ≤ 65536) (hR:∀ u,u < 18446744073709551616 → readF (txtS u) = (canW u,0)) (hG:∀ u,u < 18446744073709551616 → gw (txtS u) = true):parseF (fullS p) = (canP p,0,0):=by
 obtain ⟨hd,hj⟩:=full_data hn fun l hl c hc => (h.tasks.2 l hl).2 c hc
 have hgood:∀ ws ∈ allW p,∀ x ∈ ws,gw x = true:=by
  intro ws hws x hx
  unfold allW at hws
  simp only [List.mem_append] at hws
  rcases hws with (((hws | hws) | hws) | hws) | hws
  ·rcases List.mem_cons.1 hws with rfl | hws
   ·unfold playW at hx
    simp at hx
    rcases hx with rfl | rfl | rfl | rfl | rfl | rfl | rfl | rfl | rfl | rfl
    ·decide
    ·exact decS_gw _
    ·exact decS_gw _
    ·exact decS_gw _
    ·exact decS_gw _
    ·exact decS_gw _
    ·exact decS_gw _
    ·exact decS_gw _
    ·exact hG _ h.ok.linger
    ·exact hG _ h.ok.alpha
   ·obtain rfl:ws = mostW p:=by simpa using hws
    unfold mostW at hx
    simp at hx
    rcases hx with rfl | rfl
    ·decide
    ·exact decS_gw _
  ·obtain ⟨f,hf,rfl⟩:=List.mem_map.1 hws
   exact gw_fault (h.faults.2 f hf) x hx
  ·obtain ⟨l,hl,hws⟩:=List.mem_flatMap.1 hws
   unfold taskW at hws
   rcases List.mem_cons.1 hws with rfl | hws
   ·obtain rfl:x = [116,97,115,107]:=by simpa using hx
    decide
   ·obtain ⟨c,hc,rfl⟩:=List.mem_map.1 hws
    exact gw_call ((h.tasks.2 l hl).2 c hc) x hx
  ·unfold picksW at hws
   split at hws
   ·simp at hws
   ·obtain rfl:ws = _:=by simpa using hws
    rcases List.mem_cons.1 hx with rfl | hx
    ·decide
    ·obtain ⟨n,-,rfl⟩:=List.mem_map.1 hx
     exact decS_gw _
  ·obtain ⟨r,hr,hws⟩:=List.mem_flatMap.1 hws
   unfold endW at hws
   rcases List.mem_cons.1 hws with rfl | hws
   ·rcases List.mem_cons.1 hx with rfl | hx
    ·decide
    ·rcases List.mem_cons.1 hx with rfl | hx
     ·exact decS_gw _
     ·obtain ⟨k,-,rfl⟩:=List.mem_map.1 hx
      exact keepT_gw _
   ·obtain ⟨f,hf,rfl⟩:=List.mem_map.1 hws
    exact gw_fault ((h.ends.2 r hr).2.2 f hf) x hx
 have hrun:∃ st,2 ≤ st ∧ runL ⟨play0,0⟩ (allW p) = .ok ⟨canP p,st⟩:=by
  unfold allW
  have e1:=run_head h.ok hR
  have e2:=run_faults p.faults { canP p with faults:=[],tasks:=[],picks:=[],ends:=[] } rfl (by simpa using h.faults.1) fun f hf => ⟨h.faults.2 f hf,h.ok.faults f hf⟩
  obtain ⟨s1,hs1,e3⟩:=run_tasks p.tasks { canP p with tasks:=[],picks:=[],ends:=[] } 2 (Or.inl rfl) (by simpa using h.tasks.1) fun l hl => ⟨(h.tasks.2 l hl).1,fun c hc => ⟨(h.tasks.2 l hl).2 c hc,h.ok.calls l hl c hc⟩⟩
  obtain ⟨s2,hs2,e4⟩:=run_picks (p:={ canP p with picks:=[],ends:=[] }) hs1 (l:=p.picks) rfl h.picks h.ok.picks
  obtain ⟨s3,hs3,e5⟩:=run_ends p.ends { canP p with ends:=[] } s2 (by omega) (by simpa using h.ends.1) fun r hr => ⟨h.ok.ends r hr,(h.ends.2 r hr).1,(h.ends.2 r hr).2.1,(h.ends.2 r hr).2.2,hj r hr⟩
  refine ⟨s3,hs3.1,?_⟩
  rw [List.append_assoc,List.append_assoc,List.append_assoc]
  exact (runL_app _ _ _ _ e1).trans ((runL_app _ _ _ _ e2).trans ((runL_app _ _ _ _ e3).trans ((runL_app _ _ _ _ e4).trans e5)))
 obtain ⟨st,hst,hr⟩:=hrun
 have:=parse_run (allW p) hgood ⟨play0,0⟩ ⟨canP p,st⟩ 0 hr
 rw [all_w hd] at this
 unfold parseF
 rw [if_neg (by omega),this]
 simp only []
 rw [if_neg (by omega)]

structure Sml (N:Nat) (p:Play):Prop where
 data:∀ l ∈ p.tasks,∀ c ∈ l,c.data.length ≤ N
 junk:∀ r ∈ p.ends,∀ k ∈ r.keeps,k.junk.length ≤ N
structure Inv (p:Play):Prop where
 pt:Pt p
 sm:Sml 65536 p
theorem flat_max {α:Type} (f:α → Str) (M:Nat):∀ (l:List α),(∀ x ∈ l,(f x).length ≤ M) → (l.flatMap f).length ≤ l.length * M
 | [],_ => by simp
 | x :: l,h => by
  have h1:=h x (by simp)
  have h2:=flat_max f M l fun y hy => h y (List.mem_cons_of_mem _ hy)
  rw [List.flatMap_cons,List.length_append,List.length_cons,Nat.succ_mul]
  omega
theorem put_max (M:Nat):∀ (ws:List Str),(∀ x ∈ ws,x.length ≤ M) → (putL ws).length ≤ ws.length * (M + 1) + 1
 | [],_ => by simp [putL,bod]
 | w :: ws,h => by
  have h1:=h w (by simp)
  have h2:=flat_max (fun x => 32 :: x) (M + 1) ws fun y hy => by have:=h y (List.mem_cons_of_mem _ hy); simpa using this
  unfold putL bod
  rw [show (w :: ws).length = ws.length + 1 from rfl,Nat.succ_mul,List.length_append,List.length_append,List.length_singleton]
  omega
theorem dec_max {n:Int} (h:IsI n):(decS n).length ≤ 21:=Lib.itoa_length_le n h.1 h.2
theorem word_max (k:Int):(callWord k).length ≤ 8 ∧ (faultWord k).length ≤ 5:=by
 constructor
 ·unfold callWord
  repeat' split
  all_goals decide
 ·unfold faultWord
  repeat' split
  all_goals decide
theorem faults_max {l:List Fault} (h:∀ f ∈ l,FaultOk f):(faultsS l).length ≤ l.length * 89:=by
 unfold faultsS
 refine flat_max _ _ _ fun f hf => ?_
 obtain ⟨h1,h2⟩:=h f hf
 have:=put_max 21 [[102,97,117,108,116],decS f.at_,faultWord f.kind,decS f.part] (by
  intro x hx
  simp at hx
  rcases hx with rfl | rfl | rfl | rfl
  ·decide
  ·exact dec_max h1
  ·have:=(word_max f.kind).2; omega
  ·exact dec_max h2)
 simpa [faultL] using this
theorem pairs_max (b:Str):(pairsS b).length ≤ 2 * b.length + 1:=by
 unfold pairsS
 split
 ·simp
 ·rw [two_len]; omega
theorem call_max {c:Call} {N:Nat} (hd:c.data.length ≤ N) (hi:IsI c.lsn):(callT c).length ≤ 4 * N + 100:=by
 have hw:=(word_max c.kind).1
 have hp:=pairs_max c.data
 have hn:=dec_max hi
 unfold callT
 repeat' split
 ·omega
 all_goals
  unfold putL bod
  simp
  omega
theorem keep_max {k:Kp} {N:Nat} (hd:k.junk.length ≤ N) (hi:IsI k.n):(keepT k).length ≤ 2 * N + 30:=by
 have hn:=dec_max hi
 have hp:=pairs_max (k.junk.take 65536)
 rw [List.length_take] at hp
 unfold keepT
 rw [List.length_append]
 split
 ·simp; omega
 ·rw [List.length_cons]; omega
theorem head_max {p:Play} (hok:PlayOk p) (hT:(txtS p.linger).length ≤ 1073741824 ∧ (txtS p.alpha).length ≤ 1073741824):(headS p).length ≤ 21474836480:=by
 have h1:=put_max 1073741824 [[112,108,97,121],decS p.disk,decS p.segMax,decS p.base,decS p.qcap,decS p.qbytes,decS p.pmost,decS p.pbytes,txtS p.linger,txtS p.alpha] (by
  have key:∀ {n:Int},IsI n → (decS n).length ≤ 1073741824:=fun h => Nat.le_trans (dec_max h) (by decide)
  intro x hx
  simp only [List.mem_cons,List.not_mem_nil,or_false] at hx
  rcases hx with rfl | rfl | rfl | rfl | rfl | rfl | rfl | rfl | rfl | rfl
  ·exact Nat.le_of_ble_eq_true rfl
  ·exact key hok.disk
  ·exact key hok.segMax
  ·exact key hok.base
  ·exact key hok.qcap
  ·exact key hok.qbytes
  ·exact key hok.pmost
  ·exact key hok.pbytes
  ·exact hT.1
  ·exact hT.2)
 have h2:=put_max 21 [[109,111,115,116],decS p.most] (by
  intro x hx
  simp only [List.mem_cons,List.not_mem_nil,or_false] at hx
  rcases hx with rfl | rfl
  ·decide
  ·exact dec_max hok.most)
 unfold headS
 rw [List.length_append]
 simp only [List.length_cons,List.length_nil] at h1 h2
 exact Nat.le_trans (Nat.add_le_add h1 h2) (by omega)
theorem task_max {l:List Call} {N:Nat} (hl:l.length ≤ 256) (hs:∀ c ∈ l,c.data.length ≤ N) (hi:∀ c ∈ l,IsI c.lsn):(taskS l).length ≤ 5 + 256 * (4 * N + 100):=by
 have h1:=flat_max callT (4 * N + 100) l fun c hc => call_max (hs c hc) (hi c hc)
 have h3:=Nat.mul_le_mul_right (4 * N + 100) hl
 unfold taskS
 rw [List.length_append]
 exact Nat.add_le_add (by decide) (Nat.le_trans h1 h3)
theorem picks_max {l:List Int} (hl:l.length ≤ 65536) (h:∀ n ∈ l,IsI n):(picksS l).length ≤ 65537 * 22 + 1:=by
 unfold picksS
 split
 ·exact Nat.zero_le _
 ·have h1:=put_max 21 ([112,105,99,107,115] :: l.map decS) (by
   intro x hx
   rcases List.mem_cons.1 hx with rfl | hx
   ·decide
   ·obtain ⟨n,hn,rfl⟩:=List.mem_map.1 hx
    exact dec_max (h n hn))
  rw [List.length_cons,List.length_map] at h1
  exact Nat.le_trans h1 (Nat.add_le_add_right (Nat.mul_le_mul_right _ (show l.length + 1 ≤ 65537 by omega)) 1)
theorem end_max {r:Reopen} {N:Nat} (h1:r.faults.length ≤ 64) (h2:r.keeps.length ≤ 256) (hr:EndOk r) (hs:∀ k ∈ r.keeps,k.junk.length ≤ N):(endT r).length ≤ 258 * (2 * N + 31) + 1 + 64 * 89:=by
 obtain ⟨h4,h5,h6⟩:=hr
 have h7:=put_max (2 * N + 30) ([101,110,100] :: decS r.dir :: r.keeps.map keepT) (by
  intro x hx
  rcases List.mem_cons.1 hx with rfl | hx
  ·show 3 ≤ _; omega
  ·rcases List.mem_cons.1 hx with rfl | hx
   ·exact Nat.le_trans (dec_max h4) (by omega)
   ·obtain ⟨k,hk,rfl⟩:=List.mem_map.1 hx
    exact keep_max (hs k hk) (h5 k hk))
 have h8:=faults_max h6
 rw [List.length_cons,List.length_cons,List.length_map] at h7
 have h9:(r.keeps.length + 1 + 1) * (2 * N + 30 + 1) ≤ 258 * (2 * N + 31):=Nat.mul_le_mul_right _ (by omega)
 have h10:r.faults.length * 89 ≤ 64 * 89:=Nat.mul_le_mul_right _ h1
 unfold endT
 rw [List.length_append]
 exact Nat.add_le_add (Nat.le_trans h7 (Nat.add_le_add_right h9 1)) (Nat.le_trans h8 h10)
theorem full_max {p:Play} {N:Nat} (h:Pt p) (hs:Sml N p) (hN:N ≤ 1048576) (hT:(txtS p.linger).length ≤ 1073741824 ∧ (txtS p.alpha).length ≤ 1073741824):(fullS p).length ≤ 1099511627776:=by
 have hok:=h.ok
 have e1:=head_max hok hT
 have e2:=faults_max hok.faults
 have e3:=flat_max taskS (5 + 256 * (4 * N + 100)) p.tasks fun l hl => task_max (h.tasks.2 l hl).1 (hs.data l hl) (hok.calls l hl)
 have e4:=picks_max h.picks hok.picks
 have e5:=flat_max endT (258 * (2 * N + 31) + 1 + 64 * 89) p.ends fun r hr => end_max (h.ends.2 r hr).1 (h.ends.2 r hr).2.1 (hok.ends r hr) (hs.junk r hr)
 have m0:p.faults.length * 89 ≤ 64 * 89:=Nat.mul_le_mul_right _ h.faults.1
 have m1:p.tasks.length * (5 + 256 * (4 * N + 100)) ≤ 16 * (5 + 256 * (4 * N + 100)):=Nat.mul_le_mul_right _ h.tasks.1
 have m2:p.ends.length * (258 * (2 * N + 31) + 1 + 64 * 89) ≤ 16 * (258 * (2 * N + 31) + 1 + 64 * 89):=Nat.mul_le_mul_right _ h.ends.1
 have e2:=Nat.le_trans e2 m0
 have e3:=Nat.le_trans e3 m1
 have e5:=Nat.le_trans e5 m2
 unfold fullS
 simp only [List.length_append]
 generalize (headS p).length = a1 at *
 generalize (faultsS p.faults).length = a2 at *
 generalize (p.tasks.flatMap taskS).length = a3 at *
 generalize (picksS p.picks).length = a4 at *
 generalize (p.ends.flatMap endT).length = a5 at *
 clear hs hok h hT m0 m1 m2
 omega

def bg1:Str:=[112,108,97,121,32,49,48,48,48,32,54,52,32,49,32,52,32,49,48,48,32,52,32,49,48,48,32,48,32,48,46,53,10,109,111,115,116,32,53,48,10,116,97,115,107,10,97,112,112,101,110,100,32,54,49,10,115,121,110,99,10,112,105,99,107,115,32,48,32,49,10,101,110,100,32,48,32,51,32,48,58,102,102,10]
def bg2:Str:=[109,111,115,116,32,53]
def bgP:Play:=⟨1000,64,1,4,100,4,100,0,4602678819172646912,[],[[⟨1,0,[97]⟩,⟨3,0,[]⟩]],[0,1],50,[⟨0,[⟨3,[]⟩,⟨0,[255]⟩],[]⟩]⟩
def oneP:Play:=⟨1048576,4096,1,4,1000,8,1000,0,4602678819172646912,[],[[⟨1,0,[97]⟩]],[],1000,[]⟩
theorem dec_of (n:Nat):decS (n:Int) = Lib.decDigits n:=by
 unfold decS Lib.itoa
 rw [if_neg (by omega)]
 rfl
theorem d0:decS 0 = [48]:=by have:=dec_of 0; simpa [Lib.decDigits] using this
theorem d1:decS 1 = [49]:=by have:=dec_of 1; simpa [Lib.decDigits] using this
theorem d3:decS 3 = [51]:=by have:=dec_of 3; simpa [Lib.decDigits] using this
theorem d4:decS 4 = [52]:=by have:=dec_of 4; simpa [Lib.decDigits] using this
theorem d8:decS 8 = [56]:=by have:=dec_of 8; simpa [Lib.decDigits] using this
theorem d50:decS 50 = [53,48]:=by have:=dec_of 50; simpa [Lib.decDigits] using this
theorem d64:decS 64 = [54,52]:=by have:=dec_of 64; simpa [Lib.decDigits] using this
theorem d100:decS 100 = [49,48,48]:=by have:=dec_of 100; simpa [Lib.decDigits] using this
theorem d1000:decS 1000 = [49,48,48,48]:=by have:=dec_of 1000; simpa [Lib.decDigits] using this
theorem d4096:decS 4096 = [52,48,57,54]:=by have:=dec_of 4096; simpa [Lib.decDigits] using this
theorem d1048576:decS 1048576 = [49,48,52,56,53,55,54]:=by have:=dec_of 1048576; simpa [Lib.decDigits] using this
theorem bg_full (t0:txtS 0 = [48]) (th:txtS 4602678819172646912 = [48,46,53]):fullS bgP = bg1:=by
 unfold fullS headS faultsS picksS bgP
 simp only [d0,d1,d3,d4,d50,d64,d100,d1000,t0,th,List.flatMap_cons,List.flatMap_nil,List.append_nil,taskS,callT,endT,keepT,faultsS,List.map_cons,List.map_nil]
 rfl
theorem one_full (t0:txtS 0 = [48]) (th:txtS 4602678819172646912 = [48,46,53]):(fullS oneP).length = 65:=by
 unfold fullS headS faultsS picksS oneP
 simp only [d0,d1,d4,d8,d1000,d4096,d1048576,t0,th,List.flatMap_cons,List.flatMap_nil,List.append_nil,taskS,callT]
 rfl
theorem bg_pt:Pt bgP:=by
 refine ⟨⟨?_,?_,?_,?_,?_,?_,?_,by decide,by decide,?_,?_,?_,?_,?_⟩,?_,?_,?_,?_⟩
 all_goals simp [bgP,IsI,EndOk,rightF]
theorem one_inv:Inv oneP:=by
 refine ⟨⟨⟨?_,?_,?_,?_,?_,?_,?_,by decide,by decide,?_,?_,?_,?_,?_⟩,?_,?_,?_,?_⟩,?_,?_⟩
 all_goals simp [oneP,IsI,EndOk,rightF]
theorem bg2_parse:parseF bg2 = (play0,1,63):=by
 have hl:linesOf bg2 = [bod [[109,111,115,116],[53]]]:=by decide
 have hs:lineF ⟨play0,0⟩ (bod [[109,111,115,116],[53]]) = .error 63:=by
  rw [line_bod _ _ _ (by decide)]
  unfold stepF
  rw [if_neg (by decide),if_pos (Or.inl (by decide))]
 unfold parseF
 rw [if_neg (by decide),hl,parseFrom,hs]
end Sc
end Go.Proofs.YtkkecpamnnojoaaGreatDoor
namespace Go.Proofs.YtkkecpamnnojoaaGreatDoor
open Go.ChangeShapes Go.WideShapes Go.ChangeAt Go.RowKit
open Bt Dc
namespace Sc

theorem txt_rr {B:Nat} {w:World} (hE:Ev B w) (u:Nat) (hu:u < 18446744073709551616):RrOk (txt u) (canW u) 0:=by
 obtain ⟨e,w',fr,hr,-⟩:=hE.read (txt u) (txt_size hu) []
 obtain ⟨⟨y,k,-,hrr⟩,-⟩:=hr
 obtain ⟨rfl,rfl⟩:=hrr.yes u hu rfl
 exact hrr
theorem txt_read {B:Nat} {w:World} (hE:Ev B w) (u:Nat) (hu:u < 18446744073709551616):readF (txtS u) = (canW u,0):=readF_of (by rw [txtS_b]; exact txt_rr hE u hu)
theorem txt_gw (u:Nat) (hu:u < 18446744073709551616):gw (txtS u) = true:=by
 unfold txtS
 rcases three hu with ⟨h1,h2⟩ | ⟨h1,h2⟩ | ⟨h1,h2⟩ | ⟨h1,h2,h3⟩
 ·rw [h2]; decide
 ·rw [h2]; decide
 ·rw [h2]; decide
 ·rw [h3]
  obtain ⟨hc,-⟩:=Us.textF_chr h1
  have hp:=textF_pos u
  have e:(strOf (Us.textF u)).data.toList = (Us.textF u).map (fun n => UInt8.ofNat n):=by
   unfold strOf strOfNums
   simp
  rw [e]
  refine gw_of (fun h => ?_) fun c hcm => ?_
  ·have:=congrArg List.length h
   simp at this
   rw [this] at hp
   simp at hp
  ·obtain ⟨n,hn,rfl⟩:=List.mem_map.1 hcm
   have h:=hc n hn
   have h256:=Us.chr_lt h
   have:(UInt8.ofNat n).toNat = n:=by rw [UInt8.toNat_ofNat']; omega
   rw [this]
   unfold Us.Chr at h
   omega
theorem txt_zero:txtS 0 = [48]:=by
 unfold txtS
 rw [show txt 0 = ⟨#[48]⟩ by decide +kernel]
theorem txt_hf:txtS 4602678819172646912 = [48,46,53]:=by
 unfold txtS
 rw [txt_half]
theorem txtS_max {u:Nat} (hu:u < 18446744073709551616):(txtS u).length ≤ 1073741824:=by
 have h:=txt_size hu
 have:(txtS u).length = (txt u).size:=by unfold txtS; rw [Array.length_toList]; rfl
 rw [this]
 exact h
end Sc
end Go.Proofs.YtkkecpamnnojoaaGreatDoor
namespace Go.Proofs.YtkkecpamnnojoaaGreatDoor
open Go.ChangeShapes Go.WideShapes Go.ChangeAt Go.RowKit Go.Shelf
open Bt Dc By
namespace Sc

theorem plain_any (base most:Int) (w:World):Calls Tryz.prog 38 #[.int .i64 base,.int .i64 most] w fun e w' => e = .returned (.agg #[.int .i64 4096,.int .i64 base,.int .i64 4,.int .i64 1000,.int .i64 most,.int .i64 1000,.float .f64 0,.float .f64 4602678819172646912]) ∧ Keep (fun _ => False) w w':=by
 go_enter Tryz.func38,Tryz.ntmps38
 go_wp2
 exact bodyPost_ret (v:=.agg #[.int .i64 4096,.int .i64 base,.int .i64 4,.int .i64 1000,.int .i64 most,.int .i64 1000,.float .f64 0,.float .f64 4602678819172646912]) (by simp [results,Tryz.results38,go_sem]) rfl ⟨rfl,(Keep.refl _ _).alloc _⟩
theorem infoTs:∃ i,Tryz.prog.info? 56 = some i ∧ i.zero = some (.slice none 0 0) ∧ i.size = 1 ∧ i.bytes = 24:=by
 have h:(Tryz.prog.info? 56).map (fun i => (i.zero,i.size,i.bytes)) = some (some (.slice none 0 0),1,24):=by kernel_rfl
 exact info_parts h
theorem cell_one_at (w:World) (u0:Value) (t:TypeId) (g:Nat) (h:w.heap.size = g):∀ j u,[u0][j]? = some u → (w.alloc (.cells #[u0] t)).cell? ((⟨g,0,none⟩:Addr).add j) = some u:=by
 subst h
 exact cell_one_new w u0 t
theorem row_from2 {w:World} {base sz n:Nat} {e:TypeId} {v:Value} {xs:List Value} (h:w.ownsRow base e sz v n xs) {g:Nat} (hg:v.ownBlock = some g):base ≤ g:=by
 rcases h.2 with ⟨h1,-⟩ | ⟨g2,c2,cur,h1,h2,-⟩
 ·rw [h1] at hg; cases hg
 ·rw [h1] at hg; cases hg; exact h2
theorem row_val1 {w:World} {base sz:Nat} {e:TypeId} {v:Value} {xs:List Value} (h:w.ownsRow base e sz v (0 + 1) xs):∃ o c,v = .slice o 1 c:=by
 rcases h.2 with ⟨h1,h2⟩ | ⟨g,cap,cur,h1,-⟩
 ·omega
 ·exact ⟨_,cap,h1⟩
theorem slat_blk {w:World} {g n:Nat} {cs:Array Value} {t:TypeId} {fr:Nat × Nat} (h:w.heap[g]? = some (.cells cs t fr)):SlAt w (.slice (some ⟨g,0,none⟩) n n) n cs.toList:=
 ⟨_,n,rfl,Nat.le_refl _,fun i hi => ⟨g,0,rfl,by rw [Nat.zero_add]; simp [World.cell?,h],lt_of_block h⟩,fun e => nomatch e⟩
theorem size_two {w:World} {q:Nat} (h:w.heap.size = q) (o1 o2:Obj):((w.alloc o1).alloc o2).heap.size = q + 1 + 1:=by simp [h]
theorem size_one {w:World} {q:Nat} (h:w.heap.size = q) (o1:Obj):(w.alloc o1).heap.size = q + 1:=by simp [h]
theorem size_three {w:World} {q:Nat} (h:w.heap.size = q) (o1 o2 o3:Obj):q ≤ (((w.alloc o1).alloc o2).alloc o3).heap.size:=by simp [h]; omega
theorem slat_nil (w:World):SlAt w (.slice none 0 0) 0 []:=⟨none,0,rfl,Nat.le_refl _,fun i hi => by simp at hi,fun _ => rfl⟩
theorem one_any (w:World):Calls Tryz.prog 16 #[.int .i64 1] w fun e w' => (∃ m:M,e = .returned (.agg m.val) ∧ m.play = oneP ∧ Seen w' m) ∧ Keep (fun _ => False) w w':=by
 obtain ⟨iS,hi0,hi1,hi2,hi3⟩:=infoTs
 have HI:=Lib.hid (And.intro hi0 (And.intro hi1 (And.intro hi2 hi3)))
 clear hi0 hi1 hi2 hi3
 have HP:=Lib.hid (plain_any 1 8)
 go_enter Tryz.func16,Tryz.ntmps16
 go_wp2_with (go_at_call 38; refine (HP.out _).mono ?_; rintro e w1 ⟨rfl,k1⟩; have HK:=Lib.hid k1; clear k1)
 obtain ⟨q,hq⟩:∃ q,w1.heap.size = q:=⟨_,rfl⟩
 obtain ⟨W2,hW2⟩:∃ W2,w1.alloc (.cells #[.int .i64 1048576,.int .i64 4096,.int .i64 1,.int .i64 4,.int .i64 1000,.int .i64 8,.int .i64 1000,.float .f64 0,.float .f64 4602678819172646912,.slice none 0 0,.slice none 0 0,.slice none 0 0,.int .i64 1000,.slice none 0 0] 40) = W2:=⟨_,rfl⟩
 have hb2:W2.heap[q]? = some (.cells #[.int .i64 1048576,.int .i64 4096,.int .i64 1,.int .i64 4,.int .i64 1000,.int .i64 8,.int .i64 1000,.float .f64 0,.float .f64 4602678819172646912,.slice none 0 0,.slice none 0 0,.slice none 0 0,.int .i64 1000,.slice none 0 0] 40 (0,0)):=by rw [← hW2,← hq]; exact blk_new _ _
 have hs2:W2.heap.size = q + 1:=by rw [← hW2,← hq]; simp
 have k12:Keep (fun _ => False) w1 W2:=by rw [← hW2]; exact (Keep.refl _ w1).alloc _
 obtain ⟨r,hr⟩:∃ r,w.heap.size = r:=⟨_,rfl⟩
 have hbr:W2.heap[r]? = some (.cells m0.val 40 (0,0)):=by rw [← hr]; exact k12.same (HK.out.same (blk_new w _) id) id
 have hrq:r < q:=by rw [← hq,← hr]; have:=HK.out.size; simp at this; omega
 have kw2:Keep (fun _ => False) w W2:=(((Keep.refl _ w).alloc _).trans HK.out).trans k12
 have hwq:w.heap.size ≤ q:=by omega
 have H2:=Lib.hid (And.intro hb2 (And.intro hs2 (And.intro hbr (And.intro hrq (And.intro kw2 (And.intro hwq hr))))))
 rw [hW2,hq,hr]
 have hcv:=Go.Joins.run_convert_bytes_const_at (P:=Tryz.prog) W2 53 5 #[.int .u8 97] 1 1 (q + 1) hs2.symm Tryz.underlying53 Tryz.underlying5
 clear hW2 hq hr hb2 hbr hrq k12 kw2 HP hwq
 go_loopg [4] 1 (fun gq s4 wr => ∃ k:Nat,gq + k = 1 ∧ s4 = .int .i64 (k:Int) ∧ Hid ((k = 0 → wr = W2) ∧ (k = 1 → ∃ (v:Value) (m:M),wr.heap[q]? = some (.cells #[.int .i64 1048576,.int .i64 4096,.int .i64 1,.int .i64 4,.int .i64 1000,.int .i64 8,.int .i64 1000,.float .f64 0,.float .f64 4602678819172646912,.slice none 0 0,v,.slice none 0 0,.int .i64 1000,.slice none 0 0] 40 (0,0)) ∧ wr.heap[r]? = some (.cells m0.val 40 (0,0)) ∧ m.val = #[.int .i64 1048576,.int .i64 4096,.int .i64 1,.int .i64 4,.int .i64 1000,.int .i64 8,.int .i64 1000,.float .f64 0,.float .f64 4602678819172646912,.slice none 0 0,v,.slice none 0 0,.int .i64 1000,.slice none 0 0] ∧ m.play = oneP ∧ (∀ W,Keep (fun g => g = r) wr W → Seen W m) ∧ Keep (fun _ => False) w wr)))
 case atStart => exact ⟨0,by omega,rfl,fun _ => rfl,fun h => by omega⟩
 case round =>
  obtain ⟨k,hgk,rfl,h0,h1⟩:=hrel
  by_cases hk:k = 0
  ·subst hk
   obtain rfl:wr = W2:=h0 rfl
   have c10:=blk_cell H2.out.1 10
   have f10:=blk_free H2.out.1 10
   simp at c10
   clear h0 h1
   go_wp2_with (at_builtin; refine wpList_append_own_at _ rfl (.tmp 13) (.tmp 18) 36 rfl (q + 1) 56 iS _ 1 24 Tryz.underlying36 HI.out.1 HI.out.2.1 HI.out.2.2.1 HI.out.2.2.2 rfl (by decide) (.slice none 0 0) 0 [] rfl (row_nil _ _ _ _) ⟨q + 1 + 1 + 1,0,none⟩ 1 1 [.slice (some ⟨q + 1 + 1,0,none⟩) 1 1] rfl rfl (cell_one_at _ _ _ _ (size_two H2.out.2.1 _ _)) (by simp [Value.oneCell']) (by unfold maxLen; omega) (by omega) (size_three H2.out.2.1 _ _ _) ?_; intro v4 w4 hown hgr _ _; obtain ⟨oT,cT,rfl⟩:=row_val1 hown; have hb1:=blk_none hgr (blk_alloc (blk_alloc (blk_new_at wr _ H2.out.2.1) _) _); have hb2:=blk_none hgr (blk_alloc (blk_new_at _ _ (size_one H2.out.2.1 _)) _); have kG:Keep (fun _ => False) wr w4:=((((Keep.refl _ wr).alloc _).alloc _).alloc _).trans (keep_none hgr); have c10:=cell_kept kG c10; have f10:=(kG.frozen (p:=⟨q,10,none⟩) (lt_of_block H2.out.1) id).trans f10; have HQ:=Lib.hid (And.intro hown (And.intro hb1 (And.intro hb2 kG))); clear hown hgr hb1 hb2 kG)
   obtain ⟨W5,hW5⟩:∃ W5,w4.setCell ⟨q,10,none⟩ (.slice oT 1 cT) = W5:=⟨_,rfl⟩
   rw [hW5]
   have k45:Keep (fun g => g = q) w4 W5:=by rw [← hW5]; exact (Keep.refl (fun g => g = q) w4).setCell (p:=⟨q,10,none⟩) (Or.inl rfl) _
   have hq5:=blk_set (HQ.out.2.2.2.same H2.out.1 id) 10 (.slice oT 1 cT)
   rw [hW5] at hq5
   have hr5:=k45.same (HQ.out.2.2.2.same H2.out.2.2.1 id) (fun e => by have:=H2.out.2.2.2.1; omega)
   have h1:=k45.same HQ.out.2.1 (fun e => by omega)
   have h2:=k45.same HQ.out.2.2.1 (fun e => by omega)
   have hrow:=row_keep HQ.out.1 k45 fun g hg e => by have:=row_from2 HQ.out.1 hg; omega
   have kw5:=(H2.out.2.2.2.2.1.trans HQ.out.2.2.2).own k45 fun i hi => Or.inr (by have:=H2.out.2.2.2.2.2.1; omega)
   have HR:=Lib.hid (And.intro hq5 (And.intro hr5 (And.intro h1 (And.intro h2 (And.intro hrow kw5)))))
   clear hW5 k45 hq5 hr5 h1 h2 hrow kw5
   go_roundg (gk - 1)
   all_goals first | omega | skip
   refine ⟨1,by omega,by simp,fun h => absurd h (by decide),fun _ => ⟨(.slice oT 1 cT),⟨1048576,4096,1,4,1000,8,1000,0,4602678819172646912,.slice none 0 0,[],(.slice oT 1 cT),[⟨.slice (some ⟨q + 1 + 1,0,none⟩) 1 1,[⟨⟨1,0,[97]⟩,.slice (some ⟨q + 1,0,none⟩) 1 1⟩]⟩],.slice none 0 0,[],1000,.slice none 0 0,[],0⟩,HR.out.1,HR.out.2.1,rfl,rfl,?_,HR.out.2.2.2.2.2⟩⟩
   intro W kW
   have hrq:=H2.out.2.2.2.1
   have g1:=kW.same HR.out.2.2.1 (fun e => by omega)
   have g2:=kW.same HR.out.2.2.2.1 (fun e => by omega)
   have g3:=row_keep HR.out.2.2.2.2.1 kW fun g hg e => by have:=row_from2 HR.out.2.2.2.2.1 hg; omega
   exact ⟨slat_nil _,.of_row g3,fun t ht => by
    obtain rfl:=List.mem_singleton.1 ht
    exact ⟨slat_blk g2,fun c hc => by
     obtain rfl:=List.mem_singleton.1 hc
     exact slat_blk g1⟩,slat_nil _,slat_nil _,fun e he => by simp at he⟩
  ·obtain rfl:k = 1:=by omega
   obtain ⟨v,m,hb,hb',hmv,hmp,hsm,hkm⟩:=h1 rfl
   have HM:=Lib.hid (And.intro hb (And.intro hb' (And.intro hmv (And.intro hmp (And.intro hsm hkm)))))
   clear h0 h1 hb hb' hmv hmp hsm hkm
   go_wp2_with (first
    | (refine load_guard (.tmp 3) 40 (by rfl) ?_; go_must (refine load_play rfl (.tmp 3) rfl q rfl #[.int .i64 1048576,.int .i64 4096,.int .i64 1,.int .i64 4,.int .i64 1000,.int .i64 8,.int .i64 1000,.float .f64 0,.float .f64 4602678819172646912,.slice none 0 0,v,.slice none 0 0,.int .i64 1000,.slice none 0 0] rfl HM.out.1 ?_))
    | (refine store_guard (.tmp 2) (.tmp 21) 40 (by rfl) ?_; go_must (refine store_play rfl (.tmp 2) (.tmp 21) rfl r #[.int .i64 1048576,.int .i64 4096,.int .i64 1,.int .i64 4,.int .i64 1000,.int .i64 8,.int .i64 1000,.float .f64 0,.float .f64 4602678819172646912,.slice none 0 0,v,.slice none 0 0,.int .i64 1000,.slice none 0 0] rfl rfl rfl m0.val rfl HM.out.2.1 (by rw [← HM.out.2.2.1]; exact (HM.out.2.2.2.2.1 _ (Keep.refl _ _)).val_one) ?_)))
   have hrow:=setRow_heap wr r m0.val #[.int .i64 1048576,.int .i64 4096,.int .i64 1,.int .i64 4,.int .i64 1000,.int .i64 8,.int .i64 1000,.float .f64 0,.float .f64 4602678819172646912,.slice none 0 0,v,.slice none 0 0,.int .i64 1000,.slice none 0 0] _ _ HM.out.2.1
   refine bodyPost_ret (v:=.agg #[.int .i64 1048576,.int .i64 4096,.int .i64 1,.int .i64 4,.int .i64 1000,.int .i64 8,.int .i64 1000,.float .f64 0,.float .f64 4602678819172646912,.slice none 0 0,v,.slice none 0 0,.int .i64 1000,.slice none 0 0]) (results_cell_row Tryz.results16 _ _ r 40 #[.int .i64 1048576,.int .i64 4096,.int .i64 1,.int .i64 4,.int .i64 1000,.int .i64 8,.int .i64 1000,.float .f64 0,.float .f64 4602678819172646912,.slice none 0 0,v,.slice none 0 0,.int .i64 1000,.slice none 0 0] (0,0) _ rfl hrow Tryz.underlying40 rfl play_size) rfl ?_
   have ks:Keep (fun g => g = r) wr (wr.setRow r #[.int .i64 1048576,.int .i64 4096,.int .i64 1,.int .i64 4,.int .i64 1000,.int .i64 8,.int .i64 1000,.float .f64 0,.float .f64 4602678819172646912,.slice none 0 0,v,.slice none 0 0,.int .i64 1000,.slice none 0 0]):=Keep.setRow (g:=r) (Keep.refl (fun g => g = r) wr) (Or.inl rfl) _
   have hsz:w.heap.size = r:=H2.out.2.2.2.2.2.2
   have hkw:Keep (fun _ => False) w (wr.setRow r #[.int .i64 1048576,.int .i64 4096,.int .i64 1,.int .i64 4,.int .i64 1000,.int .i64 8,.int .i64 1000,.float .f64 0,.float .f64 4602678819172646912,.slice none 0 0,v,.slice none 0 0,.int .i64 1000,.slice none 0 0]):=HM.out.2.2.2.2.2.own ks fun i hi => Or.inr (by omega)
   exact ⟨⟨m,by rw [HM.out.2.2.1],HM.out.2.2.2.1,HM.out.2.2.2.2.1 _ ks⟩,hkw⟩
theorem Ev.up' {B:Nat} {w:World} (h:Ev B w):Ev w.heap.size w:=⟨env_up h.env,tb_up h.tb,fun w' k => h.errs w' (k.mono h.le),fun w' k => h.mx w' (k.mono h.le)⟩
theorem pr_of {m:M} {N:Nat} (ok:PlayOk m.play) (hsm:Sml N m.play) (hN:N ≤ 1048576) (len:m.fs.length ≤ 1099511627776 ∧ m.ts.length ≤ 1099511627776 ∧ m.ps.length ≤ 1099511627776 ∧ m.es.length ≤ 1099511627776):PrOk m:=by
 refine ⟨ok,len,⟨fun t ht c hc => ?_,fun e he k hk => ?_⟩,fun hm hk => full_max (Pt.of ok hm hk) hsm hN ⟨txtS_max ok.linger,txtS_max ok.alpha⟩⟩
 ·have:=hsm.data _ (List.mem_map.2 ⟨t,ht,rfl⟩) _ (List.mem_map.2 ⟨c,hc,rfl⟩)
  omega
 ·have:=hsm.junk _ (List.mem_map.2 ⟨e,he,rfl⟩) _ (List.mem_map.2 ⟨k,hk,rfl⟩)
  omega
theorem pr_inv {m:M} (h:Inv m.play):PrOk m:=by
 obtain ⟨h1,h2,h3,h4,h5,h6⟩:=many_not h.pt.many
 exact pr_of h.pt.ok h.sm (by omega) ⟨by omega,by omega,by omega,by omega⟩
theorem one_pr {m:M} (h:m.play = oneP):PrOk m:=pr_inv (by rw [h]; exact one_inv)
theorem begun_any (w:World) (hE:Ev w.heap.size w):Calls Tryz.prog 7 #[] w fun e w' => e = .returned (.bool true) ∧ Keep (fun _ => False) w w':=by
 have HE:=Lib.hid hE
 have HP1:=Lib.hid (parse_any bg1 w hE)
 have hp1:parseF bg1 = (canP bgP,0,0):=by
  have h:=back_parse bg_pt (by rw [bg_full txt_zero txt_hf]; decide) (txt_read hE) txt_gw
  rw [bg_full txt_zero txt_hf] at h
  exact h
 have HF:=Lib.hid hp1
 clear hE hp1
 go_enter Tryz.func7,Tryz.ntmps7
 go_upto_region 2 with (first
  | (go_at_call 8; refine HP1.out.mono ?_; rintro e w1 ⟨mA,ownA,nA,cA,rfl,hpA,hlA,-,kA⟩; have HPA:=Lib.hid (And.intro hpA (And.intro hlA kA)); clear hpA hlA kA)
  | (refine store_guard (.tmp 1) (.tmp 11) 40 (by rfl) ?_; go_must (refine store_play rfl (.tmp 1) (.tmp 11) rfl _ mA.val rfl rfl rfl m0.val rfl (blk_new _ _) HPA.out.2.1.seen.val_one ?_)))
 obtain ⟨z1,z2⟩:=Prod.mk.inj HPA.out.1
 obtain ⟨z2,z3⟩:=Prod.mk.inj z2
 rw [HF.out] at z1 z2 z3
 replace z2:nA = 0:=z2
 replace z3:cA = 0:=z3
 subst z2
 subst z3
 generalize hW7:World.setRow _ _ mA.val = W7
 have hbA:W7.heap[w1.heap.size]? = some (.cells mA.val 40 (0,0)):=by rw [← hW7]; exact setRow_heap _ _ _ mA.val _ _ (blk_new _ _)
 have k17:Keep (fun _ => False) w1 W7:=by rw [← hW7]; exact Keep.setRow ((Keep.refl _ w1).alloc _) (Or.inr (Nat.le_refl _)) _
 obtain ⟨qA,hqA⟩:∃ q,w1.heap.size = q:=⟨_,rfl⟩
 rw [hqA] at hbA ⊢
 have HB7:=Lib.hid (And.intro hbA (And.intro (HPA.out.2.1.seen.kept k17) (And.intro (HPA.out.2.2.trans k17) z1)))
 have HP2:=Lib.hid (parse_any bg2 W7 (HE.out.on (HPA.out.2.2.trans k17).none).up')
 clear hW7 hqA hbA k17 z1 HPA HP1
 go_upto_region 3 with (first
  | (go_at_call 8; refine HP2.out.mono ?_; rintro e w8 ⟨mB,ownB,nB,cB,rfl,hpB,hlB,-,kB⟩; have HPB:=Lib.hid (And.intro hpB (And.intro hlB kB)); clear hpB hlB kB)
  | (refine store_guard (.tmp 4) (.tmp 16) 40 (by rfl) ?_; go_must (refine store_play rfl (.tmp 4) (.tmp 16) rfl _ mB.val rfl rfl rfl m0.val rfl (blk_new _ _) HPB.out.2.1.seen.val_one ?_)))
 obtain ⟨z1,z2⟩:=Prod.mk.inj HPB.out.1
 obtain ⟨z2,z3⟩:=Prod.mk.inj z2
 rw [bg2_parse] at z2 z3
 replace z2:nB = 1:=z2
 replace z3:cB = 63:=z3
 subst z2
 subst z3
 generalize hW9:World.setRow _ _ mB.val = W9
 have k79:Keep (fun _ => False) W7 W9:=by rw [← hW9]; exact HPB.out.2.2.trans (Keep.setRow ((Keep.refl _ w8).alloc _) (Or.inr (Nat.le_refl _)) _)
 generalize w8.heap.size = qB at *
 have HK9:=Lib.hid (And.intro k79 (HB7.out.2.2.1.trans k79))
 have HON:=Lib.hid (one_any W9)
 have HEV:=Lib.hid (fun (W:World) (k:Keep (fun _ => False) W9 W) => (HE.out.on ((HB7.out.2.2.1.trans k79).trans k).none).up')
 clear hW9 k79 z1 HPB HP2
 go_upto_region 4 with (first
  | (go_at_call 16; refine HON.out.mono ?_; rintro e w10 ⟨⟨m1,rfl,hm1,hs1⟩,k10⟩; have HPR:=Lib.hid (print_any m1 w10 (HEV.out _ k10) hs1 (one_pr hm1)); have H10:=Lib.hid (And.intro hm1 k10); clear hm1 hs1 k10)
  | (go_at_call 14; refine HPR.out.mono ?_; rintro e w11 ⟨rfl,k11⟩; have H11:=Lib.hid k11; clear k11))
 have hpf:printF m1.play = (fullS oneP,0):=by
  rw [H10.out.1]
  unfold printF
  rw [if_neg (by rw [one_inv.pt.many]; decide),if_neg (by rw [one_inv.pt.known]; decide),if_neg (by rw [one_full txt_zero txt_hf]; decide)]
 rw [hpf]
 have hsz:((strB (fullS oneP)).size:Int) = 65:=by rw [strB_size,one_full txt_zero txt_hf]; rfl
 generalize strB (fullS oneP) = SP at *
 have kV:Keep (fun _ => False) W7 w11:=(HK9.out.1.trans H10.out.2).trans H11.out
 have bV:=kV.same HB7.out.1 id
 have hz:=HB7.out.2.2.2
 have hsn:=HB7.out.2.1.kept kV
 have v0:=blk_cell bV 0
 have v10:=blk_cell bV 10
 have v13:=blk_cell bV 13
 have hd:mA.disk = 1000:=congrArg Play.disk hz
 have htl:mA.ts.length = 1:=by have:=congrArg (fun p => p.tasks.length) hz; simpa [M.play,canP,bgP] using this
 have hel:mA.es.length = 1:=by have:=congrArg (fun p => p.ends.length) hz; simpa [M.play,canP,bgP] using this
 have h0:0 < mA.ts.length:=by omega
 have hml:(mA.ts[0]).l.length = 2:=by
  have:=congrArg (fun p => (p.tasks.getD 0 []).length) hz
  simpa [M.play,canP,bgP,h0] using this
 obtain ⟨o2,c2,hv2,-,hcs,-⟩:=hsn.ts
 obtain ⟨o4,c4,hv4⟩:=hsn.es.val
 obtain ⟨g,f,rfl,hc0,-⟩:=hcs 0 (by simpa using h0)
 obtain ⟨o5,c5,hv5⟩:=(hsn.calls _ (List.getElem_mem h0)).row.val
 rw [List.getElem?_map,List.getElem?_eq_getElem h0] at hc0
 simp only [Option.map_some] at hc0
 rw [hml] at hv5
 rw [hv5] at hc0
 rw [htl] at hv2
 rw [hel] at hv4
 have v0':w11.cell? ⟨qA,0,none⟩ = some (.int .i64 1000):=by rw [v0,← hd]; rfl
 have v10':w11.cell? ⟨qA,10,none⟩ = some (.slice (some ⟨g,f,none⟩) 1 c2):=by rw [v10,← hv2]; rfl
 have v13':w11.cell? ⟨qA,13,none⟩ = some (.slice o4 1 c4):=by rw [v13,← hv4]; rfl
 have hc0':w11.cell? ⟨g,f,none⟩ = some (.slice o5 2 c5):=hc0
 have HF1:=Lib.hid (HB7.out.2.2.1.trans kV)
 clear v0 v10 v13 hd htl hel h0 hml hv2 hv4 hcs hv5 hc0 hsn hz bV kV hpf
 go_wp2_with fail
 go_ret
 exact ⟨rfl,HF1.out⟩
end Sc
end Go.Proofs.YtkkecpamnnojoaaGreatDoor
namespace Go.Proofs.YtkkecpamnnojoaaGreatDoor
open Go.ChangeShapes Go.WideShapes Go.ChangeAt Go.RowKit
open Bt Dc By
namespace Sc

theorem ev_of {W:World} (hL:laidMetH Tryz.prog Rows.scriptPrintsRow.laid W) (hS:W.ShapedOpen Tryz.prog):Ev W.heap.size W:=by
 obtain ⟨hopt,hT⟩:=tables hL
 obtain ⟨hE,hX⟩:=env_of hL
 refine ⟨hE,hT,hX,fun w' k => ?_⟩
 obtain ⟨m,hm⟩:∃ m,W.cell? ⟨1,0,none⟩ = some (.int .i64 m):=
  Go.Proofs.cell_of_shapedOpen_int (zero:=#[.int .i64 0]) (t:=3) hS (of_decide_eq_true (by kernel_rfl)) (by kernel_rfl) rfl (by kernel_rfl) (by kernel_rfl) Tryz.underlying3
 exact ⟨m,(k.cell (p:=⟨1,0,none⟩) (World.block_lt_of_cell? W _ hm)).trans hm⟩
section
variable {H:Type} {enc:TypeId × Value → H} {w:World} {base:Nat} {spare:Nat → Bool} {held:Bool}
end
end Sc
end Go.Proofs.YtkkecpamnnojoaaGreatDoor
namespace Go.Proofs.YtkkecpamnnojoaaGreatDoor
open Go.ChangeShapes Go.WideShapes Go.ChangeAt Go.RowKit Go.Shelf
open Bt Dc By
attribute [local go_sem] Oper.semAt_some
namespace Sc

theorem conv_one {w:World} (c:UInt8):(convert 53 9 (.slice (some ⟨w.heap.size,0,none⟩) 1 1)).run Tryz.prog (w.alloc (.cells #[.int .u8 (c.toNat:Int)] 5 (0,0))) = .ok (.string (strB [c])) (w.alloc (.cells #[.int .u8 (c.toNat:Int)] 5 (0,0))):=
 conv_str (base:=0) (n:=1) (s:=[c]) (row_new w 0 5 [.int .u8 (c.toNat:Int)] (Nat.zero_le _) (by show 1 ≤ maxLen; decide))
theorem rstrB_cat (s t:Str):strB s ++ strB t = strB (s ++ t):=by
 unfold strB
 apply ByteArray.ext
 simp
theorem digit_byte (r:Nat) (h:r < 10):((UInt8.ofNat (48 + r)).toNat:Int) = 48 + (r:Int):=by
 rw [UInt8.toNat_ofNat',Nat.mod_eq_of_lt (by omega)]; omega
theorem cat_fits {s t:Str} {N:Nat} (h:s.length + t.length ≤ N) (hN:N ≤ 9223372036854775807):¬ (strB s).size + (strB t).size > 9223372036854775807:=by
 rw [strB_size,strB_size]; omega
theorem dig_len {n:Nat} (h:n < 18446744073709551616):(Lib.decDigits n).length ≤ 20:=by
 rw [Lib.decDigits_length]; exact Lib.nDigits_le20 n h
theorem rdigits_any (n:Nat) (w:World) (hn:n < 18446744073709551616) :
  Calls Tryz.prog 68 #[.int .u64 (n:Int)] w fun e w' => e = .returned (.string (strB (Lib.decDigits n))) ∧ Keep (fun _ => False) w w':=by
 have HN:=Lib.hid hn
 go_enter Tryz.func68,Tryz.ntmps68
 go_wp2_with fail
 go_loopg [0,3] n (fun gq s0 s3 wr => ∃ t:Str,s0 = .int .u64 (gq:Int) ∧ s3 = .string (strB t) ∧ Hid (Lib.decDigits gq ++ t = Lib.decDigits n ∧ gq ≤ n ∧ Keep (fun _ => False) w wr))
 case atStart => exact ⟨[],rfl,rfl,by simp,Nat.le_refl _,Keep.refl _ _⟩
 case round =>
  obtain ⟨t,rfl,rfl,HK⟩:=hrel
  have hgn:gk < 18446744073709551616:=by have:=HK.out.2.1; have:=HN.out; omega
  obtain ⟨r,hr⟩:∃ r,gk % 10 = r:=⟨_,rfl⟩
  obtain ⟨d,hd⟩:∃ d,gk / 10 = d:=⟨_,rfl⟩
  have hr10:r < 10:=by omega
  have htl:t.length ≤ 20:=by
   have h1:=dig_len HN.out
   rw [← HK.out.1,List.length_append] at h1
   omega
  have hsum:∀ c:UInt8,¬ (strB [c]).size + (strB t).size > 9223372036854775807:=fun c => cat_fits (N:=21) (by simp; omega) (by decide)
  clear htl
  by_cases h10:gk < 10
  ·have hI:¬ (10:Int) ≤ (gk:Int):=by omega
   have hg:gk = r:=by omega
   have hw:IntKind.u64.wrap (48 + (gk:Int)) = ((UInt8.ofNat (48 + r)).toNat:Int):=by rw [digit_byte r hr10,hg,IntKind.wrap_u64]; omega
   have hw2:IntKind.u8.wrap ((UInt8.ofNat (48 + r)).toNat:Int) = ((UInt8.ofNat (48 + r)).toNat:Int):=by rw [digit_byte r hr10,IntKind.wrap_u8]; omega
   have hcv:=conv_one (w:=wr) (UInt8.ofNat (48 + r))
   obtain ⟨c,hc⟩:∃ c,UInt8.ofNat (48 + r) = c:=⟨_,rfl⟩
   have HC:=Lib.hid (And.intro hc hg)
   rw [hc] at hw hw2 hcv
   replace hsum:=hsum c
   clear hc hg hr hd hr10
   go_wp2_with fail
   go_ret
   have h:=HK.out.1
   rw [Lib.decDigits,dif_pos h10,HC.out.2,HC.out.1] at h
   refine ⟨?_,HK.out.2.2.alloc _⟩
   rw [← h,← rstrB_cat]
   rfl
  ·have hI:(10:Int) ≤ (gk:Int):=by omega
   have hm:(gk:Int) % 10 = (r:Int):=by omega
   have hq:(gk:Int) / 10 = (d:Int):=by omega
   have hw:IntKind.u64.wrap (48 + (r:Int)) = ((UInt8.ofNat (48 + r)).toNat:Int):=by rw [digit_byte r hr10,IntKind.wrap_u64]; omega
   have hw2:IntKind.u8.wrap ((UInt8.ofNat (48 + r)).toNat:Int) = ((UInt8.ofNat (48 + r)).toNat:Int):=by rw [digit_byte r hr10,IntKind.wrap_u8]; omega
   have hcv:=conv_one (w:=wr) (UInt8.ofNat (48 + r))
   obtain ⟨c,hc⟩:∃ c,UInt8.ofNat (48 + r) = c:=⟨_,rfl⟩
   have HC:=Lib.hid (And.intro hc (And.intro hr hd))
   rw [hc] at hw hw2 hcv
   replace hsum:=hsum c
   clear hc hr hd hr10
   go_wp2_with fail
   have hlt:d < gk:=by have:=HC.out.2.2; omega
   go_roundg d
   all_goals first | omega | skip
   have h:=HK.out.1
   rw [Lib.decDigits,dif_neg h10,HC.out.2.1,HC.out.2.2,HC.out.1,List.append_assoc] at h
   exact ⟨[c] ++ t,rfl,by rw [rstrB_cat],h,by have:=HC.out.2.2; have:=HK.out.2.1; omega,HK.out.2.2.alloc _⟩
theorem rtext_any (n:Int) (w:World) (hn:IsI n) :
  Calls Tryz.prog 33 #[.int .i64 n] w fun e w' => e = .returned (.string (strB (decS n))) ∧ Keep (fun _ => False) w w':=by
 obtain ⟨u,hu⟩:∃ u,n.natAbs = u:=⟨_,rfl⟩
 have hu64:u < 18446744073709551616:=by have:=hn.1; have:=hn.2; omega
 have HD:=Lib.hid (rdigits_any u w hu64)
 by_cases h0:n < 0
 ·have hs:decS n = 45 :: Lib.decDigits u:=by unfold decS Lib.itoa; rw [if_pos h0,hu]
  have hs2:strB [45] ++ strB (Lib.decDigits u) = strB (decS n):=by rw [rstrB_cat,hs]; rfl
  obtain ⟨v,hv⟩:∃ v:Nat,-(n + 1) = (v:Int):=⟨(-(n + 1)).toNat,by omega⟩
  have hv1:IntKind.i64.wrap (n + 1) = n + 1:=by have:=hn.1; have:=hn.2; rw [IntKind.wrap_i64]; omega
  have hv2:IntKind.i64.wrap (-(n + 1)) = (v:Int):=by have:=hn.1; have:=hn.2; rw [IntKind.wrap_i64]; omega
  have hv3:IntKind.u64.wrap (v:Int) = (v:Int):=by have:=hn.1; have:=hn.2; rw [IntKind.wrap_u64]; omega
  have hv4:IntKind.u64.wrap ((v:Int) + 1) = (u:Int):=by have:=hn.1; have:=hn.2; rw [IntKind.wrap_u64]; omega
  have HS:=Lib.hid hs2
  have hsum:=cat_fits (s:=[45]) (t:=Lib.decDigits u) (N:=21) (by have:=dig_len hu64; simp; omega) (by decide)
  rw [show strB [45] = ⟨#[45]⟩ from rfl] at hsum
  clear hs hs2 hv hn hu hu64
  go_enter Tryz.func33,Tryz.ntmps33
  go_wp2_with (go_at_call 68; refine HD.out.mono ?_; rintro e w' ⟨rfl,hk⟩)
  go_ret
  exact ⟨by rw [← HS.out]; rfl,hk⟩
 ·have hs:decS n = Lib.decDigits u:=by unfold decS Lib.itoa; rw [if_neg h0]; congr 1; omega
  have hv:IntKind.u64.wrap n = (u:Int):=by have:=hn.1; have:=hn.2; rw [IntKind.wrap_u64]; omega
  have HS:=Lib.hid hs
  clear hs hn hu hu64
  go_enter Tryz.func33,Tryz.ntmps33
  go_wp2_with (go_at_call 68; refine HD.out.mono ?_; rintro e w' ⟨rfl,hk⟩)
  go_ret
  exact ⟨by rw [HS.out]; rfl,hk⟩
theorem rhex_any (o : Option Addr) (cap : Nat) (b : Str) (w : World) (h : CsAt w o (u8v b)) (hn : b.length ≤ 1073741824) :
    Calls Tryz.prog 37 #[.slice o b.length cap] w fun e w' => e = .returned (.string (strB (pairsS b))) ∧ Keep (fun _ => False) w w' := by
  obtain ⟨N, hN⟩ : ∃ N, b.length = N := ⟨_, rfl⟩
  by_cases h0 : b = []
  · subst h0
    rw [show (([] : Str).length) = 0 from rfl]
    go_enter Tryz.func37, Tryz.ntmps37
    go_wp2_with fail
    go_ret
    exact ⟨rfl, Keep.refl _ _⟩
  · have HX := Lib.hid (show pairsS b = b.flatMap two16 from by unfold pairsS; rw [if_neg h0])
    have hpos : 0 < N := by rw [← hN]; exact List.length_pos_iff.2 h0
    have hz : ((N : Int) == 0) = false := by rw [beq_eq_false_iff_ne]; omega
    have HC := Lib.hid (And.intro h hN)
    rw [hN] at hn ⊢
    clear h0 h hN
    go_enter Tryz.func37, Tryz.ntmps37
    go_wp2_with fail
    go_loopg [3, 4] N (fun gq s3 s4 wr => ∃ k : Nat, gq + k = N ∧ s4 = .int .i64 (k : Int) ∧ Hid (wr.ownsRow w.heap.size 5 1 s3 (2 * k) (u8v ((b.take k).flatMap two16)) ∧ Keep (fun _ => False) w wr))
    case atStart => exact ⟨0, by omega, rfl, row_nil _ _ _ _, Keep.refl _ _⟩
    case round =>
      obtain ⟨k, hgk, rfl, HK⟩ := hrel
      by_cases hk : k < N
      · have hkI : (k : Int) < (N : Int) := by omega
        have hk0 : (0 : Int) ≤ (k : Int) := by omega
        obtain ⟨g, f, rfl, hc, hl⟩ := HC.out.1 k (by rw [u8v_len, HC.out.2]; exact hk)
        have cg : wr.cell? ⟨g, f + k, none⟩ = some (.int .u8 ((b.getD k 0).toNat : Int)) := by
          have := (HK.out.2.cell (p := ⟨g, f + k, none⟩) hl id).trans hc
          rw [this]
          unfold u8v
          rw [List.getElem?_map, List.getElem?_eq_getElem (by rw [HC.out.2]; exact hk), List.getD_eq_getElem?_getD, List.getElem?_eq_getElem (by rw [HC.out.2]; exact hk)]
          rfl
        obtain ⟨c, hcc⟩ : ∃ c, b.getD k 0 = c := ⟨_, rfl⟩
        have hcl := c.toNat_lt
        rw [hcc] at cg
        obtain ⟨m, hm⟩ : ∃ m, c.toNat = m := ⟨_, rfl⟩
        rw [hm] at cg hcl
        have HM := Lib.hid (And.intro hcc hm)
        have HKK := Lib.hid HK.out
        clear hc hcc hm
        go_wp2_with fail
        obtain ⟨P, hP⟩ : ∃ P, m / 16 = P := ⟨_, rfl⟩
        obtain ⟨Q, hQ⟩ : ∃ Q, m % 16 = Q := ⟨_, rfl⟩
        have hp : (m : Int) / 16 = (P : Int) := by omega
        have hq : (m : Int).tmod 16 = (Q : Int) := by rw [Int.tmod_eq_emod_of_nonneg (by omega)]; omega
        have hwp : IntKind.u8.wrap (P : Int) = (P : Int) := by rw [IntKind.wrap_u8]; omega
        have hwq : IntKind.u8.wrap (Q : Int) = (Q : Int) := by rw [IntKind.wrap_u8]; omega
        have hp0 : (0 : Int) ≤ (P : Int) := by omega
        have hp1 : (P : Int) < 16 := by omega
        have hq0 : (0 : Int) ≤ (Q : Int) := by omega
        have hq1 : (Q : Int) < 16 := by omega
        obtain ⟨A, hA⟩ : ∃ A, ch ⟨#[48, 49, 50, 51, 52, 53, 54, 55, 56, 57, 97, 98, 99, 100, 101, 102]⟩ (P : Int) = A := ⟨_, rfl⟩
        obtain ⟨C, hC⟩ : ∃ C, ch ⟨#[48, 49, 50, 51, 52, 53, 54, 55, 56, 57, 97, 98, 99, 100, 101, 102]⟩ (Q : Int) = C := ⟨_, rfl⟩
        have HPQ := Lib.hid (And.intro (show A = (hexD (m / 16)).toNat from by rw [← hA, dig_at P (by omega), hP]) (show C = (hexD (m % 16)).toNat from by rw [← hC, dig_at Q (by omega), hQ]))
        obtain ⟨i0, hi0, hz0, hz1, hz2⟩ := info8k
        clear hP hQ
        go_region_law (first
          | (refine step_append_k rfl (.tmp 14) (.tmp 27) 53 rfl w.heap.size 5 i0 (.int .u8 0) 1 1 Tryz.underlying53 hi0 hz0 hz1 hz2 rfl (by decide) u3 (2 * k) _ rfl (row_keep HKK.out.1 (((Keep.refl (fun _ => False) wr).drew).alloc _) fun _ _ => id) ⟨wr.heap.size, 0, none⟩ 2 2 [.int .u8 (A : Int), .int .u8 (C : Int)] rfl rfl (new_cells _ _ _) (by intro u hu; simp at hu; rcases hu with rfl | rfl <;> rfl) (by unfold maxLen; omega) (by omega) (by have := HKK.out.2.size; simp [World.drew]; omega) ?_
             intro v4 w4 hown hgr hblk
             have k4 : Keep (fun q => u3.ownBlock = some q) wr w4 := ((Keep.refl (fun q => u3.ownBlock = some q) wr).drew.alloc _).trans (keep_grown hgr)
             have H4 := Lib.hid (And.intro hown k4)
             clear hown hgr hblk k4))
        all_goals go_wp2_with fail
        all_goals go_roundg (gk - 1)
        all_goals first | omega | skip
        all_goals
          refine ⟨k + 1, by omega, by simp, ?_, ?_⟩
          · have h := H4.out.1
            rw [two_snoc b k (by rw [HC.out.2]; exact hk), u8v_app]
            unfold two16
            rw [HM.out.1, HM.out.2]
            simp only [u8v, List.map_cons, List.map_nil]
            rw [← HPQ.out.1, ← HPQ.out.2]
            exact h
          · refine HKK.out.2.own H4.out.2 fun i hi => Or.inr ?_
            rcases HKK.out.1.2 with ⟨h1, -⟩ | ⟨g2, c2, cur, h1, h2, -⟩
            · rw [h1] at hi; cases hi
            · rw [h1] at hi; cases hi; exact h2
      · obtain rfl : k = N := by omega
        have hkI : ¬ (k : Int) < (k : Int) := by omega
        have htk : b.take k = b := List.take_of_length_le (by rw [HC.out.2]; exact Nat.le_refl _)
        have h1 := HK.out.1
        rw [htk, ← HX.out] at h1
        have hcv := conv_str h1
        have HB := Lib.hid HK.out.2
        clear HK h1
        go_wp2_with fail
        go_ret
        exact ⟨rfl, HB.out⟩
end Sc
end Go.Proofs.YtkkecpamnnojoaaGreatDoor
