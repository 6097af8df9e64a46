/- A part of the proof of ScriptPrints: nothing is assumed. By an AI agent. -/
import Derived.Test.YtkkecpamnnojoaaGreatDoorBp03
import Derived.Test.YtkkecpamnnojoaaGreatDoorBp12
import Derived.BigQuiet
import Derived.Laws.Rows
set_option linter.unusedVariables false
set_option linter.unusedSimpArgs false
set_option maxRecDepth 100000
set_option maxHeartbeats 32000000
namespace Go.Proofs.YtkkecpamnnojoaaGreatDoor
open Go.ChangeShapes Go.WideShapes Go.ChangeAt Go.RowKit
namespace Sc

def armed (p:Play):List Fault:=match p.ends.getLast? with
 | some r => r.faults
 | none => p.faults
def full (p:Play) (k:Int) (n:Nat):Bool:=
 if k = 3 then decide (64 ≤ (armed p).length)
 else if k = 4 then decide (16 ≤ p.tasks.length)
 else if k = 5 then decide (256 ≤ (p.tasks.getLastD []).length)
 else if k = 6 then decide (65536 < p.picks.length + n)
 else if k = 7 then decide (16 ≤ p.ends.length) || decide (257 < n)
 else false
def counts (k:Int) (w:Str) (n:Nat):Bool:=
 if k = 1 then decide (n = 9) else if k = 2 then decide (n = 1) else if k = 3 then decide (n = 3) else if k = 4 then decide (n = 0)
 else if k = 5 then (if callKind w = 3 ∨ callKind w = 7 then decide (n = 0) else decide (n = 1))
 else decide (1 ≤ n)
open Classical in
noncomputable def readF (s:Str):Nat × Int:=if h:∃ r:Nat × Int,RrOk (strB s) r.1 r.2 then h.choose else (0,66)
def nums:List Str → Option (List Int)
 | [] => some []
 | s :: l => match numOf s with
  | none => none
  | some n => (nums l).map (n :: ·)
noncomputable def playF (p:Play) (ws:List Str):Except Int Play:=
 match nums (ws.take 7) with
 | some [a,b,c,d,e,f,g] =>
  if (readF (ws.getD 7 [])).2 ≠ 0 then .error (readF (ws.getD 7 [])).2
  else if (readF (ws.getD 8 [])).2 ≠ 0 then .error (readF (ws.getD 8 [])).2
  else .ok { p with disk:=a,segMax:=b,base:=c,qcap:=d,qbytes:=e,pmost:=f,pbytes:=g,linger:=(readF (ws.getD 7 [])).1,alpha:=(readF (ws.getD 8 [])).1 }
 | _ => .error 66
def arm (p:Play) (f:Fault):Play:=match p.ends.getLast? with
 | some r => { p with ends:=p.ends.dropLast ++ [{ r with faults:=r.faults ++ [f] }] }
 | none => { p with faults:=p.faults ++ [f] }
def faultF (p:Play) (ws:List Str):Except Int Play:=
 match numOf (ws.getD 0 []) with
 | none => .error 66
 | some a => if faultKind (ws.getD 1 []) = 0 then .error 65 else match numOf (ws.getD 2 []) with
  | none => .error 66
  | some n => .ok (arm p ⟨a,faultKind (ws.getD 1 []),n⟩)
def callTo (p:Play) (c:Call):Play:={ p with tasks:=p.tasks.dropLast ++ [p.tasks.getLastD [] ++ [c]] }
def callF (p:Play) (w:Str) (ws:List Str):Except Int Play:=
 if callKind w = 1 ∨ callKind w = 2 then match hexOf (ws.getD 0 []) true with
  | none => .error 64
  | some b => .ok (callTo p ⟨callKind w,0,b⟩)
 else if callKind w = 4 ∨ callKind w = 5 ∨ callKind w = 6 then match numOf (ws.getD 0 []) with
  | none => .error 66
  | some n => .ok (callTo p ⟨callKind w,n,[]⟩)
 else .ok (callTo p ⟨callKind w,0,[]⟩)
def keepF (s:Str):Except Int Kp:=
 match numOf (s.takeWhile fun c => decide (c.toNat ≠ 58)) with
 | none => .error 66
 | some n => if s.any (fun c => decide (c.toNat = 58)) then match hexOf ((s.dropWhile fun c => decide (c.toNat ≠ 58)).drop 1) false with
   | none => .error 64
   | some b => .ok ⟨n,b⟩
  else .ok ⟨n,[]⟩
def keepsF:List Str → Except Int (List Kp)
 | [] => .ok []
 | s :: l => match keepF s with
  | .error e => .error e
  | .ok k => match keepsF l with
   | .error e => .error e
   | .ok r => .ok (k :: r)
def endF (p:Play) (ws:List Str):Except Int Play:=
 match numOf (ws.getD 0 []) with
 | none => .error 66
 | some d => match keepsF (ws.drop 1) with
  | .error e => .error e
  | .ok ks => .ok { p with ends:=p.ends ++ [⟨d,ks,[]⟩] }
noncomputable def takeF (p:Play) (k:Int) (w:Str) (ws:List Str):Except Int Play:=
 if k = 1 then playF p ws
 else if k = 2 then (match numOf (ws.getD 0 []) with | none => .error 66 | some n => .ok { p with most:=n })
 else if k = 3 then faultF p ws
 else if k = 4 then .ok { p with tasks:=p.tasks ++ [[]] }
 else if k = 5 then callF p w ws
 else if k = 6 then (match nums ws with | none => .error 66 | some l => .ok { p with picks:=p.picks ++ l })
 else endF p ws
noncomputable def lineF (σ:PS) (s:Str):Except Int PS:=
 if (bare s).all okB = false then .error 64
 else match wordsOf (bare s) with
 | [] => .ok σ
 | w :: ws =>
  if kindOf w = 0 then .error 65
  else if nxt σ.st (kindOf w) = 6 ∨ (kindOf w = 5 ∧ σ.p.tasks = []) then .error 63
  else if full σ.p (kindOf w) ws.length = true then .error 9
  else if counts (kindOf w) w ws.length = false then .error 64
  else match takeF σ.p (kindOf w) w ws with
   | .error e => .error e
   | .ok p => .ok ⟨p,nxt σ.st (kindOf w)⟩
noncomputable def parseFrom (σ:PS) (n:Nat):List Str → Except (Nat × Int) PS
 | [] => .ok σ
 | s :: l => match lineF σ s with
  | .error e => .error (n + 1,e)
  | .ok σ' => parseFrom σ' (n + 1) l
noncomputable def parseF (s:Str):Play × Nat × Int:=
 if 65536 < s.length then (play0,0,3)
 else match parseFrom ⟨play0,0⟩ 0 (linesOf s) with
  | .error (n,e) => (play0,n,e)
  | .ok σ => if σ.st ≤ 1 then (play0,0,63) else (σ.p,0,0)
theorem readF_of {s:Str} {y:Nat} {k:Int} (h:RrOk (strB s) y k):readF s = (y,k):=by
 have hx:∃ r:Nat × Int,RrOk (strB s) r.1 r.2:=⟨(y,k),h⟩
 have h2:=hx.choose_spec
 unfold readF
 rw [dif_pos hx]
 obtain ⟨e1,e2⟩:=rr_same h h2
 exact Prod.ext e1 e2
end Sc
end Go.Proofs.YtkkecpamnnojoaaGreatDoor
namespace Go.Proofs.YtkkecpamnnojoaaGreatDoor
open Go.ChangeShapes Go.WideShapes Go.ChangeAt Go.RowKit
open Bt Dc By
namespace Sc

theorem row_get {w:World} {base n sz:Nat} {e:TypeId} {v:Value} {xs:List Value} (h:w.ownsRow base e sz v n xs) {j:Nat} {u:Value} (hj:xs[j]? = some u) :
  ∃ g cap,v = .slice (some ⟨g,0,none⟩) n cap ∧ w.cell? ⟨g,j,none⟩ = some u ∧ w.frozen? ⟨g,j,none⟩ = false ∧ g < w.heap.size ∧ n ≤ cap:=by
 rcases h.2 with ⟨rfl,rfl⟩ | ⟨g,cap,cur,rfl,h1,h2,h3,h4,h5,h6⟩
 ·have:=h.1
  have hx:xs = []:=List.length_eq_zero_iff.1 (by omega)
  subst hx
  simp at hj
 ·refine ⟨g,cap,rfl,?_,blk_free h2 j,lt_of_block h2,h3⟩
  rw [blk_cell h2 j,← Array.getElem?_toList]
  rw [← h6] at hj
  have hjl:j < n * sz:=by
   rcases Nat.lt_or_ge j (n * sz) with h | h
   ·exact h
   ·rw [List.getElem?_take_eq_none h] at hj; cases hj
  rw [List.getElem?_take_of_lt hjl] at hj
  exact hj
theorem row_set {w:World} {base n sz:Nat} {e:TypeId} {g cap:Nat} {xs:List Value} (h:w.ownsRow base e sz (.slice (some ⟨g,0,none⟩) n cap) n xs) {j:Nat} (hj:j < n * sz) (u:Value):(w.setCell ⟨g,j,none⟩ u).ownsRow base e sz (.slice (some ⟨g,0,none⟩) n cap) n (xs.set j u):=by
 rcases h.2 with ⟨h1,-⟩ | ⟨g',cap',cur,he,h1,h2,h3,h4,h5,h6⟩
 ·cases h1
 ·cases he
  refine ⟨by rw [List.length_set]; exact h.1,Or.inr ⟨g,cap,cur.setIfInBounds j u,rfl,h1,blk_set h2 j u,h3,h4,by rw [Array.size_setIfInBounds]; exact h5,?_⟩⟩
  rw [Array.toList_setIfInBounds,← h6,List.take_set]
def WsAt (w:World) (o:Option Addr) (ws:List Str):Prop:=∀ i,i < ws.length → ∃ g f,o = some ⟨g,f,none⟩ ∧ w.cell? ⟨g,f + i,none⟩ = some (encS (ws.getD i [])) ∧ g < w.heap.size
theorem WsAt.of_row {w:World} {base:Nat} {v:Value} {ws:List Str} (h:w.ownsRow base 9 1 v ws.length (ws.map encS)):∃ o cap,v = .slice o ws.length cap ∧ (o = none → cap = 0) ∧ ws.length ≤ cap ∧ WsAt w o ws:=by
 obtain ⟨o,cap,rfl,hl,hr,hc,hn,ha⟩:=row_reads h
 rw [List.length_map] at hl hc
 refine ⟨o,cap,by rw [List.length_map],hn,hc,fun i hi => ?_⟩
 obtain ⟨ad,ho,hcell⟩:=hr i (encS (ws.getD i [])) (by rw [List.getElem?_map,List.getElem?_eq_getElem hi,List.getD_eq_getElem?_getD,List.getElem?_eq_getElem hi]; rfl)
 obtain ⟨he,-,hlt,-⟩:=ha ad ho
 refine ⟨ad.block,0,by rw [ho,he],?_,hlt⟩
 rw [he,show (⟨ad.block,0,none⟩:Addr).add i = ⟨ad.block,0 + i,none⟩ from by simp [Addr.add]; intro h; omega] at hcell
 exact hcell
theorem WsAt.tail {w:World} {g f:Nat} {x:Str} {ws:List Str} (h:WsAt w (some ⟨g,f,none⟩) (x :: ws)):WsAt w (some ⟨g,f + 1,none⟩) ws:=fun i hi => by
 obtain ⟨g',f',e,hc,hl⟩:=h (i + 1) (by simpa using hi)
 cases e
 refine ⟨g,f + 1,rfl,?_,hl⟩
 rw [show f + 1 + i = f + (i + 1) by omega]
 simpa using hc
theorem WsAt.keep {bs:Nat → Prop} {w w':World} {o:Option Addr} {ws:List Str} (h:WsAt w o ws) (k:Keep bs w w') (hn:∀ g f,o = some ⟨g,f,none⟩ → ¬ bs g):WsAt w' o ws:=fun i hi => by
 obtain ⟨g,f,e,hc,hl⟩:=h i hi
 exact ⟨g,f,e,(k.cell (p:=⟨g,f + i,none⟩) hl (hn g f e)).trans hc,Nat.lt_of_lt_of_le hl k.size⟩
theorem WsAt.kept {w w':World} {o:Option Addr} {ws:List Str} (h:WsAt w o ws) (k:Keep (fun _ => False) w w'):WsAt w' o ws:=h.keep k fun _ _ _ => id
theorem int_eq (n m:Nat):((n:Int) == (m:Int)) = decide (n = m):=by
 rw [Bool.eq_iff_iff,beq_iff_eq,decide_eq_true_iff]
 omega
theorem int_ge (n m:Nat):decide ((m:Int) ≤ (n:Int)) = decide (m ≤ n):=by
 rw [Bool.eq_iff_iff,decide_eq_true_iff,decide_eq_true_iff]
 omega
theorem counts_any (k:Int) (x:Str) (n:Nat) (g f cap:Nat) (w:World) (hc:w.cell? ⟨g,f,none⟩ = some (.string (strB x))) (hl:n ≤ 1073741824) :
  Calls Tryz.prog 47 #[.int .i64 k,.slice (some ⟨g,f,none⟩) (n + 1) cap] w fun e w' => e = .returned (.bool (counts k x n)) ∧ w' = w:=by
 have HK:=Lib.hid (callKind_s x w)
 by_cases h1:k = 1
 ·subst h1
  go_enter Tryz.func47,Tryz.ntmps47
  go_wp2_with fail
  go_ret
  exact ⟨congrArg (fun b => Ending.returned (.bool b)) (int_eq n 9),rfl⟩
 by_cases h2:k = 2
 ·subst h2
  go_enter Tryz.func47,Tryz.ntmps47
  go_wp2_with fail
  go_ret
  exact ⟨congrArg (fun b => Ending.returned (.bool b)) (int_eq n 1),rfl⟩
 by_cases h3:k = 3
 ·subst h3
  go_enter Tryz.func47,Tryz.ntmps47
  go_wp2_with fail
  go_ret
  exact ⟨congrArg (fun b => Ending.returned (.bool b)) (int_eq n 3),rfl⟩
 by_cases h4:k = 4
 ·subst h4
  go_enter Tryz.func47,Tryz.ntmps47
  go_wp2_with fail
  go_ret
  exact ⟨congrArg (fun b => Ending.returned (.bool b)) (int_eq n 0),rfl⟩
 by_cases h5:k = 5
 ·subst h5
  have HR:=Lib.hid (show counts 5 x n = (if callKind x = 3 ∨ callKind x = 7 then decide (n = 0) else decide (n = 1)) from rfl)
  by_cases c3:callKind x = 3
  ·rw [c3] at HK HR
   clear c3
   go_enter Tryz.func47,Tryz.ntmps47
   go_wp2_with (go_at_call 77; refine HK.out.mono ?_; rintro e w' ⟨rfl,hw⟩; obtain rfl:w = w':=hw.symm)
   go_ret
   exact ⟨congrArg (fun b => Ending.returned (.bool b)) ((int_eq n 0).trans (HR.out.trans (if_pos (Or.inl trivial))).symm),rfl⟩
  by_cases c7:callKind x = 7
  ·rw [c7] at HK HR
   clear c7
   go_enter Tryz.func47,Tryz.ntmps47
   go_wp2_with (go_at_call 77; refine HK.out.mono ?_; rintro e w' ⟨rfl,hw⟩; obtain rfl:w = w':=hw.symm)
   go_ret
   exact ⟨congrArg (fun b => Ending.returned (.bool b)) ((int_eq n 0).trans (HR.out.trans (if_pos (Or.inr trivial))).symm),rfl⟩
  have b3:(callKind x == 3) = false:=by rw [beq_eq_false_iff_ne]; exact c3
  have b7:(callKind x == 7) = false:=by rw [beq_eq_false_iff_ne]; exact c7
  rw [if_neg (by omega)] at HR
  clear c3 c7
  generalize callKind x = c at *
  go_enter Tryz.func47,Tryz.ntmps47
  go_wp2_with (go_at_call 77; refine HK.out.mono ?_; rintro e w' ⟨rfl,hw⟩; obtain rfl:w = w':=hw.symm)
  go_ret
  exact ⟨congrArg (fun b => Ending.returned (.bool b)) ((int_eq n 1).trans HR.out.symm),rfl⟩
 have HR:=Lib.hid (show counts k x n = decide (1 ≤ n) from by
  unfold counts
  rw [if_neg h1,if_neg h2,if_neg h3,if_neg h4,if_neg h5])
 go_enter Tryz.func47,Tryz.ntmps47
 go_wp2_with fail
 go_ret
 exact ⟨congrArg (fun b => Ending.returned (.bool b)) ((int_ge n 1).trans HR.out.symm),rfl⟩
def armP (m:M) (pb:Nat):Addr:=if m.es = [] then ⟨pb,9,none⟩ else ⟨m.ev.ownBlock.getD 0,(m.es.length - 1) * 3 + 2,none⟩
def armV (m:M):Value:=match m.es.getLast? with
 | some e => e.fv
 | none => m.fv
def armL (m:M):List Fault:=match m.es.getLast? with
 | some e => e.fs
 | none => m.fs
theorem armL_is (m:M):armL m = armed m.play:=by
 unfold armL armed M.play
 simp only [List.getLast?_map]
 cases m.es.getLast? <;> rfl
theorem flat_get {α:Type} (f:α → List Value) (k:Nat) (hk:∀ x,(f x).length = k):∀ (l:List α) (i j:Nat) (x:α),l[i]? = some x → j < k → (l.flatMap f)[i * k + j]? = (f x)[j]?
 | [],i,j,x,h,_ => by simp at h
 | y :: l,0,j,x,h,hj => by
  simp at h
  subst h
  rw [List.flatMap_cons,Nat.zero_mul,Nat.zero_add,List.getElem?_append_left (by rw [hk]; exact hj)]
 | y :: l,i + 1,j,x,h,hj => by
  rw [List.flatMap_cons,List.getElem?_append_right (by rw [hk,Nat.succ_mul]; omega),hk,show (i + 1) * k + j - k = i * k + j by rw [Nat.succ_mul]; omega]
  exact flat_get f k hk l i j x (by simpa using h) hj
theorem last_get {α:Type} {l:List α} {x:α} (h:l.getLast? = some x):l ≠ [] ∧ l[l.length - 1]? = some x:=by
 cases l with
 | nil => simp at h
 | cons y r =>
  refine ⟨by simp,?_⟩
  rw [List.getLast?_eq_getElem?] at h
  exact h
theorem PAt.shape_es {w:World} {own:Nat → Option T} {pb:Nat} {m:M} (h:PAt w own pb m) (hne:m.es ≠ []):∃ g cap,m.ev = .slice (some ⟨g,0,none⟩) m.es.length cap ∧ m.es.length ≤ cap ∧ own g = some (6,0,0) ∧ ∀ i e,m.es[i]? = some e → w.cell? ⟨g,i * 3,none⟩ = some (.int .i64 e.dir) ∧ w.cell? ⟨g,i * 3 + 1,none⟩ = some e.kv ∧ w.cell? ⟨g,i * 3 + 2,none⟩ = some e.fv ∧ w.frozen? ⟨g,i * 3 + 2,none⟩ = false:=by
 have hl:(0:Nat) < m.es.length:=List.length_pos_iff.2 hne
 have get:∀ i e j u,m.es[i]? = some e → j < 3 → (ME.cells e)[j]? = some u → (m.es.flatMap ME.cells)[i * 3 + j]? = some u:=fun i e j u hi hj hu => (flat_get ME.cells 3 (fun _ => rfl) m.es i j e hi hj).trans hu
 obtain ⟨g,cap,e1,-,-,-,hcap⟩:=row_get h.es.row (get 0 m.es[0] 0 _ (by simp [hl]) (by omega) rfl)
 refine ⟨g,cap,e1,hcap,h.es.tag g (by rw [e1]; rfl),fun i e hi => ?_⟩
 have c:=fun j u hj hu => row_get h.es.row (get i e j u hi hj hu)
 obtain ⟨g0,cp0,e2,c0,-⟩:=c 0 _ (by omega) rfl
 obtain ⟨g1,cp1,e3,c1,-⟩:=c 1 _ (by omega) rfl
 obtain ⟨g2,cp2,e4,c2,f2,-⟩:=c 2 _ (by omega) rfl
 rw [e1] at e2 e3 e4
 cases e2
 cases e3
 cases e4
 exact ⟨c0,c1,c2,f2⟩
theorem PAt.shape_ts {w:World} {own:Nat → Option T} {pb:Nat} {m:M} (h:PAt w own pb m) (hne:m.ts ≠ []):∃ g cap,m.tv = .slice (some ⟨g,0,none⟩) m.ts.length cap ∧ m.ts.length ≤ cap ∧ own g = some (2,0,0) ∧ ∀ i t,m.ts[i]? = some t → w.cell? ⟨g,i,none⟩ = some t.v ∧ w.frozen? ⟨g,i,none⟩ = false:=by
 have hl:(0:Nat) < m.ts.length:=List.length_pos_iff.2 hne
 have get:∀ i (t:MT),m.ts[i]? = some t → (m.ts.map (·.v))[i]? = some t.v:=fun i (t:MT) hi => by rw [List.getElem?_map,hi]; rfl
 obtain ⟨g,cap,e1,-,-,-,hcap⟩:=row_get h.ts.row (get 0 m.ts[0] (by simp [hl]))
 refine ⟨g,cap,e1,hcap,h.ts.tag g (by rw [e1]; rfl),fun i t hi => ?_⟩
 obtain ⟨g0,cp0,e2,c0,f0,-⟩:=row_get h.ts.row (get i t hi)
 rw [e1] at e2
 cases e2
 exact ⟨c0,f0⟩
theorem armed_any {w:World} {own:Nat → Option T} {pb:Nat} {m:M} (h:PAt w own pb m) (hz:m.es.length ≤ 1048576) :
  Calls Tryz.prog 78 #[.pointer (some ⟨pb,0,none⟩)] w fun e w' => e = .returned (.pointer (some (armP m pb))) ∧ w' = w:=by
 have c13:=blk_cell h.blk 13
 simp [M.cells] at c13
 by_cases he:m.es = []
 ·have HP:=Lib.hid (show armP m pb = ⟨pb,9,none⟩ from by unfold armP; rw [if_pos he])
  obtain ⟨o,cap,hv⟩:=h.es.len
  rw [hv,he] at c13
  rw [HP.out]
  clear he hv h hz HP
  go_enter Tryz.func78,Tryz.ntmps78
  go_wp2_with fail
  go_ret
  exact ⟨rfl,rfl⟩
 ·obtain ⟨g,cap,hv,hcap,-,-⟩:=h.shape_es he
  have HP:=Lib.hid (show armP m pb = ⟨g,(m.es.length - 1) * 3 + 2,none⟩ from by unfold armP; rw [if_neg he,hv]; rfl)
  rw [hv] at c13
  rw [HP.out]
  obtain ⟨k,hk⟩:∃ k,m.es.length = k + 1:=⟨m.es.length - 1,by have:=List.length_pos_iff.2 he; omega⟩
  rw [hk] at c13 hcap hz ⊢
  clear he hv h HP hk
  go_enter Tryz.func78,Tryz.ntmps78
  go_wp2_with fail
  go_ret
  exact ⟨rfl,rfl⟩
def callP (m:M):Addr:=⟨m.tv.ownBlock.getD 0,m.ts.length - 1,none⟩
theorem calls_any {w:World} {own:Nat → Option T} {pb:Nat} {m:M} (h:PAt w own pb m) (hne:m.ts ≠ []) (hz:m.ts.length ≤ 1048576) :
  Calls Tryz.prog 79 #[.pointer (some ⟨pb,0,none⟩)] w fun e w' => e = .returned (.pointer (some (callP m))) ∧ ∃ n,w' = w.drewN n:=by
 have c10:=blk_cell h.blk 10
 simp [M.cells] at c10
 obtain ⟨g,cap,hv,hcap,-,-⟩:=h.shape_ts hne
 have HP:=Lib.hid (show callP m = ⟨g,m.ts.length - 1,none⟩ from by unfold callP; rw [hv]; rfl)
 rw [hv] at c10
 rw [HP.out]
 obtain ⟨k,hk⟩:∃ k,m.ts.length = k + 1:=⟨m.ts.length - 1,by have:=List.length_pos_iff.2 hne; omega⟩
 rw [hk] at c10 hcap hz ⊢
 clear hne hv h HP hk
 go_enter Tryz.func79,Tryz.ntmps79
 go_wp2_with fail
 go_quiet (fail)
 go_wp2_with fail
 go_ret
 exact ⟨rfl,_,rfl⟩
theorem PAt.arm_cell {w:World} {own:Nat → Option T} {pb:Nat} {m:M} (h:PAt w own pb m):w.cell? (armP m pb) = some (armV m) ∧ w.frozen? (armP m pb) = false ∧ ∃ o cap,armV m = .slice o (armL m).length cap:=by
 unfold armP armV armL
 cases hl:m.es.getLast? with
 | none =>
  have he:m.es = []:=List.getLast?_eq_none_iff.1 hl
  rw [if_pos he]
  exact ⟨blk_cell h.blk 9,blk_free h.blk 9,h.fs.len⟩
 | some e =>
  obtain ⟨hne,hg⟩:=last_get hl
  rw [if_neg hne]
  obtain ⟨g,cap,hv,-,-,hc⟩:=h.shape_es hne
  obtain ⟨-,-,c2,f2⟩:=hc _ e hg
  rw [hv]
  exact ⟨c2,f2,(h.ends _ e hg).faults.len⟩
def callV (m:M):Value:=match m.ts.getLast? with
 | some t => t.v
 | none => .slice none 0 0
def callL (m:M):List MC:=match m.ts.getLast? with
 | some t => t.l
 | none => []
theorem PAt.call_cell {w:World} {own:Nat → Option T} {pb:Nat} {m:M} (h:PAt w own pb m) (hne:m.ts ≠ []):w.cell? (callP m) = some (callV m) ∧ w.frozen? (callP m) = false ∧ ∃ o cap,callV m = .slice o (callL m).length cap:=by
 unfold callP callV callL
 cases hl:m.ts.getLast? with
 | none => exact absurd (List.getLast?_eq_none_iff.1 hl) hne
 | some t =>
  obtain ⟨-,hg⟩:=last_get hl
  obtain ⟨g,cap,hv,-,-,hc⟩:=h.shape_ts hne
  obtain ⟨c0,f0⟩:=hc _ t hg
  rw [hv]
  exact ⟨c0,f0,(h.calls _ t hg).row.len⟩
theorem callL_len (m:M):(callL m).length = (m.play.tasks.getLastD []).length:=by
 unfold callL M.play
 rw [List.getLastD_eq_getLast?,List.getLast?_map]
 cases m.ts.getLast? <;> simp
theorem PAt.drewN {w:World} {own:Nat → Option T} {pb:Nat} {m:M} (h:PAt w own pb m) (n:Nat):PAt (w.drewN n) own pb m:=h.kept ((Keep.refl _ w).drewN n)
theorem full_any {w:World} {own:Nat → Option T} {pb:Nat} {m:M} (k:Int) (n:Nat) (h:PAt w own pb m) (hes:m.es.length ≤ 1048576) (hts:m.ts.length ≤ 1048576) (hps:m.ps.length ≤ 1048576) (hn:n ≤ 1048576) (hk:k = 5 → m.ts ≠ []) :
  Calls Tryz.prog 46 #[.pointer (some ⟨pb,0,none⟩),.int .i64 k,.int .i64 (n:Int)] w fun e w' => e = .returned (.bool (full m.play k n)) ∧ ∃ n,w' = w.drewN n:=by
 by_cases h1:k = 3
 ·subst h1
  obtain ⟨ca,fa,oa,pa,ha⟩:=h.arm_cell
  have HA:=Lib.hid (armed_any h hes)
  have HR:=Lib.hid (show full m.play 3 n = decide (64 ≤ (armL m).length) from by rw [armL_is]; rfl)
  rw [ha] at ca
  generalize (armL m).length = q at *
  generalize armP m pb = P at *
  clear h hes hts hps hk ha
  obtain ⟨gP,oP,sP⟩:=P
  go_enter Tryz.func46,Tryz.ntmps46
  go_wp2_with (go_at_call 78; refine HA.out.mono ?_; rintro e w' ⟨rfl,hw⟩; obtain rfl:w = w':=hw.symm)
  go_ret
  exact ⟨congrArg (fun b => Ending.returned (.bool b)) ((int_ge q 64).trans HR.out.symm),0,rfl⟩
 by_cases h2:k = 4
 ·subst h2
  have c10:=blk_cell h.blk 10
  simp [M.cells] at c10
  obtain ⟨o,cap,hv⟩:=h.ts.len
  rw [hv] at c10
  have HR:=Lib.hid (show full m.play 4 n = decide (16 ≤ m.ts.length) from by unfold full M.play; simp)
  generalize m.ts.length = q at *
  clear h hes hk hv
  go_enter Tryz.func46,Tryz.ntmps46
  go_wp2_with fail
  go_ret
  exact ⟨congrArg (fun b => Ending.returned (.bool b)) ((int_ge q 16).trans HR.out.symm),0,rfl⟩
 by_cases h3:k = 5
 ·subst h3
  obtain ⟨ca,fa,oa,pa,ha⟩:=h.call_cell (hk rfl)
  have HA:=Lib.hid (calls_any h (hk rfl) hts)
  have HR:=Lib.hid (show full m.play 5 n = decide (256 ≤ (callL m).length) from by rw [callL_len]; rfl)
  rw [ha] at ca
  generalize (callL m).length = q at *
  generalize callP m = P at *
  clear h hes hts hps hk ha
  obtain ⟨gP,oP,sP⟩:=P
  go_enter Tryz.func46,Tryz.ntmps46
  go_wp2_with (go_at_call 79; refine HA.out.mono ?_; rintro e w' ⟨rfl,j,hw⟩; obtain rfl:=hw)
  go_ret
  exact ⟨congrArg (fun b => Ending.returned (.bool b)) ((int_ge q 256).trans HR.out.symm),_,rfl⟩
 by_cases h4:k = 6
 ·subst h4
  have c11:=blk_cell h.blk 11
  simp [M.cells] at c11
  obtain ⟨o,cap,hv⟩:=h.ps.len
  rw [hv] at c11
  have HR:=Lib.hid (show full m.play 6 n = decide (65536 < m.ps.length + n) from by unfold full M.play; simp)
  generalize m.ps.length = q at *
  clear h hes hk hv
  go_enter Tryz.func46,Tryz.ntmps46
  go_wp2_with fail
  go_ret
  refine ⟨congrArg (fun b => Ending.returned (.bool b)) (Eq.trans ?_ HR.out.symm),0,rfl⟩
  show decide ((65536:Int) < (q:Int) + (n:Int)) = _
  rw [Bool.eq_iff_iff,decide_eq_true_iff,decide_eq_true_iff]
  omega
 by_cases h5:k = 7
 ·subst h5
  have c13:=blk_cell h.blk 13
  simp [M.cells] at c13
  obtain ⟨o,cap,hv⟩:=h.es.len
  rw [hv] at c13
  have HR:=Lib.hid (show full m.play 7 n = (decide (16 ≤ m.es.length) || decide (257 < n)) from by unfold full M.play; simp)
  generalize m.es.length = q at *
  clear h hk hv
  by_cases hq:16 ≤ q
  ·have hq1:(16:Int) ≤ (q:Int):=by omega
   rw [decide_eq_true hq,Bool.true_or] at HR
   go_enter Tryz.func46,Tryz.ntmps46
   go_wp2_with fail
   go_ret
   exact ⟨by rw [HR.out]; rfl,0,rfl⟩
  ·have hq1:¬ (16:Int) ≤ (q:Int):=by omega
   rw [decide_eq_false hq,Bool.false_or] at HR
   by_cases hn2:257 < n
   ·have hn3:(256:Int) < (n:Int) - 1:=by omega
    rw [decide_eq_true hn2] at HR
    go_enter Tryz.func46,Tryz.ntmps46
    go_wp2_with fail
    go_ret
    exact ⟨by rw [HR.out]; rfl,0,rfl⟩
   ·have hn3:¬ (256:Int) < (n:Int) - 1:=by omega
    rw [decide_eq_false hn2] at HR
    go_enter Tryz.func46,Tryz.ntmps46
    go_wp2_with fail
    go_ret
    exact ⟨by rw [HR.out]; rfl,0,rfl⟩
 have HR:=Lib.hid (show full m.play k n = false from by unfold full; rw [if_neg h1,if_neg h2,if_neg h3,if_neg h4,if_neg h5])
 clear h hes hts hps hk
 go_enter Tryz.func46,Tryz.ntmps46
 go_wp2_with fail
 go_ret
 exact ⟨by rw [HR.out]; rfl,0,rfl⟩

def setAll (cs:Array Value):List Nat → List Int → Array Value
 | f :: offs,n :: ns => setAll (cs.setIfInBounds f (.int .i64 n)) offs ns
 | _,_ => cs
theorem setAll_size:∀ (offs:List Nat) (ns:List Int) (cs:Array Value),(setAll cs offs ns).size = cs.size
 | [],_,cs => by cases ‹List Int› <;> rfl
 | f :: offs,[],cs => rfl
 | f :: offs,n :: ns,cs => by rw [setAll,setAll_size offs ns]; simp
theorem setAll_snoc:∀ (offs:List Nat) (ns:List Int) (cs:Array Value) (f:Nat) (n:Int),offs.length = ns.length → setAll cs (offs ++ [f]) (ns ++ [n]) = (setAll cs offs ns).setIfInBounds f (.int .i64 n)
 | [],[],cs,f,n,_ => rfl
 | [],_ :: _,_,_,_,h => by simp at h
 | _ :: _,[],_,_,_,h => by simp at h
 | g :: offs,m :: ns,cs,f,n,h => by
  show setAll (cs.setIfInBounds g (.int .i64 m)) (offs ++ [f]) (ns ++ [n]) = _
  rw [setAll_snoc offs ns _ f n (by simpa using h)]
  rfl
theorem nums_len:∀ {l:List Str} {ns:List Int},nums l = some ns → ns.length = l.length
 | [],ns,h => by simp [nums] at h; subst h; rfl
 | s :: l,ns,h => by
  rw [nums] at h
  cases hs:numOf s with
  | none => rw [hs] at h; cases h
  | some n =>
   rw [hs] at h
   cases hl:nums l with
   | none => rw [hl] at h; cases h
   | some r =>
    rw [hl] at h
    simp at h
    subst h
    simp [nums_len hl]
theorem nums_snoc:∀ (l:List Str) (s:Str),nums (l ++ [s]) = (nums l).bind fun ns => (numOf s).map fun n => ns ++ [n]
 | [],s => by
  simp only [List.nil_append,nums]
  cases numOf s <;> rfl
 | t :: l,s => by
  rw [List.cons_append,nums,nums_snoc l s,nums]
  cases numOf t with
  | none => rfl
  | some n =>
   simp only []
   cases nums l with
   | none => rfl
   | some ns => simp only [Option.bind_some,Option.map_some]; cases numOf s <;> rfl
theorem nums_none:∀ (l:List Str) (k:Nat),nums (l.take k) = none → nums l = none
 | [],k,h => by simpa using h
 | s :: l,0,h => by simp [nums] at h
 | s :: l,k + 1,h => by
  rw [List.take_succ_cons,nums] at h
  rw [nums]
  cases hs:numOf s with
  | none => rfl
  | some n =>
   rw [hs] at h
   simp only [Option.map_eq_none_iff] at h ⊢
   exact nums_none l k h
theorem take_snoc {α:Type} {l:List α} {k:Nat} (h:k < l.length):l.take (k + 1) = l.take k ++ [l[k]]:=by
 rw [List.take_add_one,List.getElem?_eq_getElem h]
 rfl
def IntsQ (ws:List Str) (offs:List Nat) (gb:Nat) (cs:Array Value) (t:TypeId) (w:World) (e:Ending) (w':World):Prop:=
 ((∃ ns,nums (ws.take offs.length) = some ns ∧ e = .returned (.int .i64 0) ∧ w'.heap[gb]? = some (.cells (setAll cs offs ns) t (0,0))) ∨ (nums (ws.take offs.length) = none ∧ e = .returned (.int .i64 66))) ∧ Keep (fun g => g = gb) w w'
theorem ints_any (ws:List Str) (o:Option Addr) (cl k':Nat) (tb gb:Nat) (offs:List Nat) (cs:Array Value) (t:TypeId) (B:Nat) (w:World) (hE:Ev B w) (hw:WsAt w o ws) (hn:offs.length ≤ ws.length) (hcl:ws.length ≤ 1073741824)
  (hsz:∀ i,(ws.getD i []).length ≤ 1073741824) (hto:w.heap[tb]? = some (.cells (offs.map fun f => Value.pointer (some ⟨gb,f,none⟩)).toArray 108 (0,0))) (hgb:w.heap[gb]? = some (.cells cs t (0,0))) (hof:∀ i,i < offs.length → offs.getD i 0 < cs.size) (hne:tb ≠ gb) (ho:∀ g f,o = some ⟨g,f,none⟩ → g ≠ gb) (hB:B ≤ gb) :
  Calls Tryz.prog 81 #[.slice o ws.length cl,.slice (some ⟨tb,0,none⟩) offs.length k'] w (IntsQ ws offs gb cs t w):=by
 obtain ⟨N,hN⟩:∃ N,offs.length = N:=⟨_,rfl⟩
 obtain ⟨L,hL⟩:∃ L,ws.length = L:=⟨_,rfl⟩
 have HH:=Lib.hid (And.intro hE (And.intro hw (And.intro hto (And.intro hgb hof))))
 have HN:=Lib.hid (And.intro hN hL)
 have HO:=Lib.hid (And.intro ho (And.intro hne hsz))
 rw [hN,hL] at hn ⊢
 rw [hL] at hcl
 clear hE hw hto hgb hof hN hL ho hne hsz
 go_enter Tryz.func81,Tryz.ntmps81
 go_wp2_with fail
 go_loopg [5,6,7,8,11] N (fun gq s5 s6 s7 s8 s11 wr => ∃ k:Nat,gq + k = N ∧ s11 = .int .i64 (k:Int) ∧ Hid (∃ ns,nums (ws.take k) = some ns ∧ wr.heap[gb]? = some (.cells (setAll cs (offs.take k) ns) t (0,0)) ∧ Keep (fun g => g = gb) w wr))
 case atStart => exact ⟨0,by omega,rfl,[],by simp [nums],HH.out.2.2.2.1,Keep.refl _ _⟩
 case round =>
  obtain ⟨k,hgk,rfl,HK⟩:=hrel
  obtain ⟨ns,hns,hblk,hkp⟩:=HK.out
  by_cases hk:k < N
  ·have hkw:k < ws.length:=by rw [HN.out.2]; omega
   have hko:k < offs.length:=by rw [HN.out.1]; exact hk
   obtain ⟨g,f,rfl,hcw,hgl⟩:=HH.out.2.1 k hkw
   have hgne:=HO.out.1 g f rfl
   have hcw2:wr.cell? ⟨g,f + k,none⟩ = some (.string (strB (ws.getD k []))):=(hkp.cell (p:=⟨g,f + k,none⟩) hgl hgne).trans hcw
   have hct:wr.cell? ⟨tb,k,none⟩ = some (.pointer (some ⟨gb,offs.getD k 0,none⟩)):=by
    rw [blk_cell (hkp.same HH.out.2.2.1 HO.out.2.1) k]
    simp [List.getD_eq_getElem?_getD,hko]
   have hE2:Ev B wr:=HH.out.1.on (hkp.below HH.out.1.le fun q hq => by rw [hq]; exact hB)
   have HNUM:=Lib.hid (number_s (ws.getD k []) B wr hE2 (HO.out.2.2 k))
   have hok:=HH.out.2.2.2.2 k hko
   have HS:=Lib.hid (show nums (ws.take (k + 1)) = (numOf (ws.getD k [])).map fun n => ns ++ [n] from by
    rw [take_snoc hkw,nums_snoc,hns,List.getD_eq_getElem?_getD,List.getElem?_eq_getElem hkw]
    rfl)
   have HT:=Lib.hid (show offs.take (k + 1) = offs.take k ++ [offs.getD k 0] from by
    rw [take_snoc hko,List.getD_eq_getElem?_getD,List.getElem?_eq_getElem hko]
    rfl)
   have HL:=Lib.hid (show (offs.take k).length = ns.length from by rw [nums_len hns,List.length_take,List.length_take]; omega)
   generalize ws.getD k [] = x at *
   generalize offs.getD k 0 = fo at *
   have HB:=Lib.hid (And.intro hns (And.intro hblk (And.intro hkp hok)))
   have hk1:(k:Int) < (N:Int):=by omega
   have hk2:(k:Int) < (L:Int):=by omega
   have hk0:(0:Int) ≤ (k:Int):=by omega
   clear hns hblk hkp hok hcw hE2 HK hkw hko
   go_wp2_with fail
   refine HNUM.out.mono ?_
   rintro e w2 ⟨⟨n,ok,rfl,hq⟩,hb2⟩
   have hblk2:w2.heap[gb]? = some (.cells (setAll cs (offs.take k) ns) t (0,0)):=(hb2.block gb (lt_of_block HB.out.2.1)).trans HB.out.2.1
   have H2:=Lib.hid (And.intro hq (And.intro hb2 hblk2))
   cases ok with
   | false =>
    clear hq hb2 hblk2 hct hcw2
    go_wp2_with fail
    go_ret
    refine ⟨Or.inr ⟨?_,rfl⟩,HB.out.2.2.1.trans ((Keep.of_below H2.out.2.1).mono fun _ _ h => h.elim)⟩
    have h1:nums (ws.take (k + 1)) = none:=by rw [HS.out,show numOf x = none from H2.out.1]; rfl
    have h2:=nums_none (ws.take offs.length) (k + 1) (by rw [List.take_take,HN.out.1,Nat.min_eq_left (by omega)]; exact h1)
    exact h2
   | true =>
    have hcc:∃ u,w2.cell? ⟨gb,fo,none⟩ = some u:=by
     rw [blk_cell hblk2 fo]
     exact ⟨_,Array.getElem?_eq_getElem (by rw [setAll_size]; exact HB.out.2.2.2)⟩
    obtain ⟨u,hcu⟩:=hcc
    have hfu:=blk_free hblk2 fo
    clear hq hb2 hblk2 hct hcw2
    go_wp2_with fail
    go_roundg (gk - 1)
    all_goals first | omega | skip
    case rel =>
     refine ⟨k + 1,by omega,rfl,ns ++ [n],?_,?_,?_⟩
     ·rw [HS.out,show numOf x = some n from H2.out.1]; rfl
     ·rw [HT.out,setAll_snoc _ _ _ _ _ HL.out]
      exact blk_set H2.out.2.2 fo _
     ·exact (HB.out.2.2.1.trans ((Keep.of_below H2.out.2.1).mono fun _ _ h => h.elim)).setCell (p:=⟨gb,fo,none⟩) (Or.inl rfl) _
  ·obtain rfl:k = N:=by omega
   clear hgk
   go_wp2_with fail
   go_ret
   refine ⟨Or.inl ⟨ns,by rw [HN.out.1]; exact hns,rfl,?_⟩,hkp⟩
   rw [List.take_of_length_le (by rw [HN.out.1]; exact Nat.le_refl _)] at hblk
   exact hblk

theorem dig_range (c:UInt8):-1 ≤ digOf c ∧ digOf c ≤ 15:=by
 have:∀ n:Fin 256,-1 ≤ digOf (UInt8.ofNat n.val) ∧ digOf (UInt8.ofNat n.val) ≤ 15:=by decide +kernel
 have h:=this ⟨c.toNat,c.toNat_lt⟩
 simpa using h
theorem pairs_two (a b:UInt8) (s:Str):pairsOf (a :: b :: s) = if digOf a < 0 ∨ digOf b < 0 then none else (pairsOf s).map fun r => UInt8.ofNat ((digOf a).toNat * 16 + (digOf b).toNat) :: r:=by rw [pairsOf]
theorem pairs_snoc:∀ (k:Nat) (s:Str) (h:2 * k + 1 < s.length),pairsOf (s.take (2 * (k + 1))) = (pairsOf (s.take (2 * k))).bind fun out => if digOf s[2 * k] < 0 ∨ digOf s[2 * k + 1] < 0 then none else some (out ++ [UInt8.ofNat ((digOf s[2 * k]).toNat * 16 + (digOf s[2 * k + 1]).toNat)])
 | _,[],h => by simp at h
 | _,[a],h => by simp at h
 | 0,a :: b :: s,h => by
  show pairsOf [a,b] = _
  rw [pairs_two]
  simp only [pairsOf,List.take_zero,Option.bind_some,Nat.mul_zero,List.getElem_cons_zero,List.getElem_cons_succ,Nat.zero_add,List.nil_append,Option.map_some]
 | k + 1,a :: b :: s,h => by
  have hs:2 * k + 1 < s.length:=by simp at h; omega
  have ih:=pairs_snoc k s hs
  have e1:(a :: b :: s).take (2 * (k + 1 + 1)) = a :: b :: s.take (2 * (k + 1)):=by rw [show 2 * (k + 1 + 1) = 2 * (k + 1) + 1 + 1 by omega]; rfl
  have e2:(a :: b :: s).take (2 * (k + 1)) = a :: b :: s.take (2 * k):=by rw [show 2 * (k + 1) = 2 * k + 1 + 1 by omega]; rfl
  have e3:(a :: b :: s)[2 * (k + 1)] = s[2 * k]:=by
   simp only [show 2 * (k + 1) = 2 * k + 1 + 1 by omega,List.getElem_cons_succ]
  have e4:(a :: b :: s)[2 * (k + 1) + 1] = s[2 * k + 1]:=by
   simp only [show 2 * (k + 1) + 1 = (2 * k + 1) + 1 + 1 by omega,List.getElem_cons_succ]
  rw [e1,e2,e3,e4,pairs_two,pairs_two,ih]
  by_cases hd:digOf a < 0 ∨ digOf b < 0
  ·rw [if_pos hd,if_pos hd]; rfl
  ·rw [if_neg hd,if_neg hd]
   cases pairsOf (s.take (2 * k)) with
   | none => rfl
   | some out =>
    simp only [Option.bind_some,Option.map_some]
    split <;> rfl
theorem pairs_none:∀ (k:Nat) (s:Str),2 * k ≤ s.length → pairsOf (s.take (2 * k)) = none → pairsOf s = none
 | 0,s,_,h => by simp [pairsOf] at h
 | k + 1,[],hl,h => by simp at hl
 | k + 1,[a],hl,h => by simp at hl; omega
 | k + 1,a :: b :: s,hl,h => by
  rw [show (a :: b :: s).take (2 * (k + 1)) = a :: b :: s.take (2 * k) from by rw [show 2 * (k + 1) = 2 * k + 1 + 1 by omega]; rfl,pairs_two] at h
  rw [pairs_two]
  split at h
  ·rename_i hd; rw [if_pos hd]
  ·rename_i hd
   rw [if_neg hd]
   simp only [Option.map_eq_none_iff] at h ⊢
   exact pairs_none k s (by simp at hl; omega) h
def digN (n:Nat):Int:=digOf (UInt8.ofNat n)
theorem index_dig (n:Nat) (w:World):Calls Tryz.prog 115 #[.string ⟨#[48,49,50,51,52,53,54,55,56,57,97,98,99,100,101,102]⟩,.int .u8 (n:Int)] w fun e w' => e = .returned (.int .i64 (digN n)) ∧ w' = w:=by
 have h:=Tryz.strings_IndexByte ⟨#[48,49,50,51,52,53,54,55,56,57,97,98,99,100,101,102]⟩ (n:Int) w
 exact h
theorem or_val {p q:Nat} (hp:p ≤ 15) (hq:q ≤ 15):bits BinOp.or IntKind.i64 ((p:Int) * 16) (q:Int) % 256 = (((UInt8.ofNat (p * 16 + q)).toNat:Nat):Int):=by
 have:∀ p q:Fin 16,bits BinOp.or IntKind.i64 ((p.val:Int) * 16) (q.val:Int) % 256 = (((UInt8.ofNat (p.val * 16 + q.val)).toNat:Nat):Int):=by decide +kernel
 exact this ⟨p,by omega⟩ ⟨q,by omega⟩
def HexQ (s:Str) (dash:Bool) (w:World) (e:Ending) (w':World):Prop:=
 ((∃ out v,hexOf s dash = some out ∧ e = .returned (.tuple #[v,.bool true]) ∧ w'.ownsRow w.heap.size 5 1 v out.length (u8v out)) ∨ (hexOf s dash = none ∧ e = .returned (.tuple #[.slice none 0 0,.bool false]))) ∧ Keep (fun _ => False) w w'
theorem hex_any (s:Str) (dash:Bool) (w:World) (hs:s.length ≤ 1073741824) :
  Calls Tryz.prog 100 #[.string (strB s),.bool dash] w (HexQ s dash w):=by
 have h45:((strB [45]).toList == [45]) = true:=by rw [ByteArray.toList_eq,strB_list]; rfl
 have hz45:(strB [45]).size = 1:=rfl
 by_cases h1:s = [45]
 ·subst h1
  cases dash with
  | true =>
   go_enter Tryz.func100,Tryz.ntmps100
   go_wp2_with fail
   go_ret2
   exact ⟨Or.inl ⟨[],_,rfl,rfl,row_nil _ _ _ _⟩,Keep.refl _ _⟩
  | false =>
   go_enter Tryz.func100,Tryz.ntmps100
   go_wp2_with fail
   go_ret2
   exact ⟨Or.inr ⟨rfl,rfl⟩,Keep.refl _ _⟩
 ·obtain ⟨N,hN⟩:∃ N,s.length = N:=⟨_,rfl⟩
  have hZ:((strB s).size:Int) = (N:Int):=by rw [strB_size s,hN]
  have hb:((strB s).toList == [45]) = false:=ne_lit (by rw [strB_list]; exact h1)
  have HX:=Lib.hid (show hexOf s dash = if s = [] ∨ s.length % 2 ≠ 0 then none else pairsOf s from by unfold hexOf; rw [if_neg (fun h => h1 h.1)])
  have HCH:=Lib.hid (ch_str s)
  clear h1 h45 hz45
  generalize hS:strB s = S at *
  clear hS
  by_cases h0:N = 0
  ·have hz0:(S.size:Int) = 0:=by omega
   have hr:hexOf s dash = none:=by rw [HX.out,if_pos (Or.inl (List.length_eq_zero_iff.1 (by omega)))]
   have HR:=Lib.hid hr
   clear hr hZ
   go_enter Tryz.func100,Tryz.ntmps100
   go_wp2_with fail
   go_ret2
   exact ⟨Or.inr ⟨HR.out,rfl⟩,Keep.refl _ _⟩
  ·have hz0:¬ (S.size:Int) = 0:=by omega
   have hz1:((N:Int) == 0) = false:=by rw [beq_eq_false_iff_ne]; omega
   by_cases h2:N % 2 = 0
   ·have hm:((N:Int) % 2 != 0) = false:=by rw [bne_eq_false_iff_eq]; omega
    obtain ⟨K,hK⟩:∃ K,N = 2 * K:=⟨N / 2,by omega⟩
    have HR:=Lib.hid (show hexOf s dash = pairsOf s from by rw [HX.out,if_neg (by rintro (h | h); (subst h; simp at hN; omega); (rw [hN] at h; exact h h2))])
    have HN:=Lib.hid (And.intro hN hK)
    clear hN h2 h0 HX hK
    go_enter Tryz.func100,Tryz.ntmps100
    go_wp2_with fail
    go_loopg [6,7,8,9] K (fun gq s6 s7 s8 s9 wr => ∃ (k:Nat) (out:Str),gq + k = K ∧ s7 = .int .i64 ((2 * k:Nat):Int) ∧ Hid (pairsOf (s.take (2 * k)) = some out ∧ out.length = k ∧ wr.ownsRow w.heap.size 5 1 s6 k (u8v out) ∧ Keep (fun _ => False) w wr))
    case atStart => exact ⟨0,[],by omega,rfl,by simp [pairsOf],rfl,row_nil _ _ _ _,Keep.refl _ _⟩
    case round =>
     obtain ⟨k,out,hgk,rfl,HK⟩:=hrel
     by_cases hk:k < K
     ·have hkl:2 * k + 1 < s.length:=by rw [HN.out.1,HN.out.2]; omega
      have HS:=Lib.hid (pairs_snoc k s hkl)
      have hc1:=HCH.out (2 * k) (by omega)
      have hc2:=HCH.out (2 * k + 1) hkl
      have ha:UInt8.ofNat (ch S ((2 * k:Nat):Int)) = s[2 * k]:=by rw [hc1]; simp
      have hb2:UInt8.ofNat (ch S (((2 * k + 1:Nat)):Int)) = s[2 * k + 1]:=by rw [hc2]; simp
      rw [← ha,← hb2] at HS
      obtain ⟨J,hJ⟩:∃ J,2 * k = J:=⟨_,rfl⟩
      have hJ1:((2 * k + 1:Nat):Int) = (J:Int) + 1:=by omega
      have hJ0:(0:Int) ≤ (J:Int):=by omega
      have hJm:(J:Int) ≤ 1073741824:=by have:=HN.out.1; have:=HN.out.2; omega
      have hJa:(J:Int) < (N:Int):=by have:=HN.out.2; omega
      have hJb:(J:Int) + 1 < (N:Int):=by have:=HN.out.2; omega
      have hJc:(0:Int) ≤ (J:Int) + 1:=by omega
      have hJn:(J:Nat) < S.size:=by omega
      have HJ:=Lib.hid hJ
      rw [hJ1] at HS
      rw [hJ] at HS HK ⊢
      clear hJ hJ1 ha hb2 hc1 hc2 hkl
      have r1:=ch_lt S (J:Int)
      have r2:=ch_lt S ((J:Int) + 1)
      generalize hna:ch S (J:Int) = na at *
      generalize hnb:ch S ((J:Int) + 1) = nb at *
      have HI:=Lib.hid index_dig
      have hda:=dig_range (UInt8.ofNat na)
      have hdb:=dig_range (UInt8.ofNat nb)
      have HD:=Lib.hid (And.intro (show digN na = digOf (UInt8.ofNat na) from rfl) (show digN nb = digOf (UInt8.ofNat nb) from rfl))
      rw [← HD.out.1] at HS hda
      rw [← HD.out.2] at HS hdb
      clear HD
      go_wp2_with fail
      go_quiet ((go_at_call 115; exact Calls.quiet_of_same (HI.out _ _)))
      have HB:=Lib.hid HK.out
      have hnone:∀ h:digN na < 0 ∨ digN nb < 0,hexOf s dash = none:=fun h => by
       rw [HR.out]
       refine pairs_none (k + 1) s (by have:=HN.out.1; have:=HN.out.2; omega) ?_
       rw [HS.out,HK.out.1,Option.bind_some,if_pos h]
      by_cases g1:digN na < 0
      ·have HX:=Lib.hid (hnone (Or.inl g1))
       clear hnone
       go_wp2_with fail
       go_ret2
       exact ⟨Or.inr ⟨HX.out,rfl⟩,HB.out.2.2.2.drewN _⟩
      by_cases g2:digN nb < 0
      ·have HX:=Lib.hid (hnone (Or.inr g2))
       clear hnone
       go_wp2_with fail
       go_ret2
       exact ⟨Or.inr ⟨HX.out,rfl⟩,HB.out.2.2.2.drewN _⟩
      have HS2:=HS.out
      rw [HK.out.1,Option.bind_some,if_neg (fun h => h.elim g1 g2)] at HS2
      clear hnone
      obtain ⟨p,hp⟩:∃ p:Nat,digN na = p:=⟨(digN na).toNat,by omega⟩
      obtain ⟨q,hq⟩:∃ q:Nat,digN nb = q:=⟨(digN nb).toNat,by omega⟩
      rw [hp] at HS2 hda g1 ⊢
      rw [hq] at HS2 hdb g2 ⊢
      rw [Int.toNat_natCast,Int.toNat_natCast] at HS2
      have HP:=Lib.hid HS2
      clear HS HS2
      have hp1:p ≤ 15:=by omega
      have hq1:q ≤ 15:=by omega
      clear hp hq HI g1 g2 hda hdb
      have HV:=Lib.hid (or_val hp1 hq1)
      have hrow:((wr.drewN nq).alloc (.cells #[.int .u8 (bits BinOp.or IntKind.i64 ((p:Int) * 16) (q:Int) % 256)] 5)).ownsRow w.heap.size 5 1 u6 k (u8v out):=row_keep HB.out.2.2.1 (((Keep.refl (fun _ => False) wr).drewN nq).alloc _) fun _ _ => id
      have HW:=Lib.hid (And.intro hrow (And.intro HB.out.2.1 HB.out.2.2.2))
      have HPP:=Lib.hid (And.intro HP.out HB.out.2.1)
      obtain ⟨i0,hi,hz0,hz1,hz2⟩:=info8
      have hkb:k ≤ 1073741824:=by have:=HJ.out; omega
      clear HP hrow HB HK
      go_wp2_with (at_builtin; refine wpList_append_one _ rfl (.tmp 45) (.tmp 51) 53 rfl w.heap.size 5 i0 (.int .u8 0) 1 Tryz.underlying53 hi hz0 hz1 hz2 rfl u6 k _ rfl HW.out.1 ⟨wr.heap.size,0,none⟩ 1 (.int .u8 (bits BinOp.or IntKind.i64 ((p:Int) * 16) (q:Int) % 256)) rfl ?_ rfl ?_ ?_ ?_ ?_)
      ·exact blk_cell (blk_new _ _) 0
      ·unfold maxLen; omega
      ·omega
      ·have:=HW.out.2.2.size
       simp [World.drewN]
       omega
      ·intro g cap w4 hown hgr hblk hbase
       have k4:Keep (fun q => u6.ownBlock = some q) wr w4:=(((Keep.refl (fun q => u6.ownBlock = some q) wr).drewN nq).alloc _).trans (keep_grown hgr)
       have H4:=Lib.hid (And.intro hown k4)
       clear hown hgr hblk hbase k4
       go_wp2_with fail
       go_roundg (gk - 1)
       all_goals first | omega | skip
       case rel =>
        refine ⟨k + 1,out ++ [UInt8.ofNat (p * 16 + q)],by omega,?_,HPP.out.1,by rw [List.length_append,HPP.out.2]; rfl,?_,?_⟩
        ·exact congrArg (Value.int .i64) (by have:=HJ.out; omega)
        ·have h:=H4.out.1
         rw [HV.out] at h
         rw [show u8v (out ++ [UInt8.ofNat (p * 16 + q)]) = u8v out ++ [.int .u8 (((UInt8.ofNat (p * 16 + q)).toNat:Nat):Int)] from by simp [u8v]]
         exact h
        ·refine HW.out.2.2.own H4.out.2 fun i hi => Or.inr ?_
         rcases HW.out.1.2 with ⟨h1,-⟩ | ⟨g2,c2,cur,h1,h2,-⟩
         ·rw [h1] at hi; cases hi
         ·rw [h1] at hi; cases hi; exact h2
     ·obtain rfl:k = K:=by omega
      have hlen:=HN.out
      obtain ⟨h1,h2,h3,h4⟩:=HK.out
      rw [List.take_of_length_le (by omega),← HR.out] at h1
      have HB:=Lib.hid (And.intro h1 (And.intro h2 (And.intro h3 h4)))
      have hJN:((2 * k:Nat):Int) = (N:Int):=by omega
      rw [hJN]
      clear h1 h2 h3 h4 HK hlen hJN
      go_wp2_with fail
      go_ret2
      refine ⟨Or.inl ⟨out,_,HB.out.1,rfl,?_⟩,HB.out.2.2.2⟩
      rw [HB.out.2.1]
      exact HB.out.2.2.1
   ·have hr:hexOf s dash = none:=by rw [HX.out,if_pos (Or.inr (by rw [hN]; exact h2))]
    have HR:=Lib.hid hr
    have hm:((N:Int) % 2 != 0) = true:=by rw [bne_iff_ne]; omega
    clear hr
    go_enter Tryz.func100,Tryz.ntmps100
    go_wp2_with fail
    go_ret2
    exact ⟨Or.inr ⟨HR.out,rfl⟩,Keep.refl _ _⟩

def KeepQ (s:Str) (w:World) (e:Ending) (w':World):Prop:=
 ((∃ k d,keepF s = .ok k ∧ e = .returned (.tuple #[.agg #[.int .i64 k.n,d],.int .i64 0]) ∧ w'.ownsRow w.heap.size 5 1 d k.junk.length (u8v k.junk)) ∨ (∃ c,keepF s = .error c ∧ c ≠ 0 ∧ e = .returned (.tuple #[.agg #[.int .i64 0,.slice none 0 0],.int .i64 c]))) ∧ Keep (fun _ => False) w w'
theorem keepF_is (s:Str):keepF s = match numOf (ahead 58 s) with
 | none => .error 66
 | some n => if has 58 s then match hexOf (behind 58 s) false with
   | none => .error 64
   | some b => .ok ⟨n,b⟩
  else .ok ⟨n,[]⟩:=rfl
theorem results_cell_tmp {P:Program} {fn:Func} {p q:Tmp} {ty:TypeId} (h:fn.results = #[.cell p ty,.tmp q]) (tmps:Array Value) (w:World) (g:Nat) (t:TypeId) (cs:Array Value) (fr:Nat × Nat) (d:TypeDesc)
  (hp:tmps.getD p undef = .pointer (some ⟨g,0,none⟩)) (hg:w.heap[g]? = some (.cells cs t fr))
  (hu:P.underlying ty = some d) (hd:(match d with | .struct _ | .array _ _ => true | _ => false) = true) (hi:(P.info? ty).map (·.size) = some cs.size) :
  (results fn tmps).run P w = .ok (.tuple #[.agg cs,tmps.getD q undef]) w:=by
 have hp':tmps[p]?.getD undef = .pointer (some ⟨g,0,none⟩):=by simpa using hp
 simp [results,h,hp',asAddr,run_loadVar_row w g t ty cs fr d hg hu hd hi]
theorem keep_info:(Tryz.prog.info? 84).map (·.size) = some 2:=by kernel_rfl
theorem results_keep (tmps:Array Value) (w:World) (g:Nat) (cs:Array Value)
  (hp:tmps.getD 2 undef = .pointer (some ⟨g,0,none⟩)) (hg:w.heap[g]? = some (.cells cs 84 (0,0))) (hs:cs.size = 2):(results Tryz.f102 tmps).run Tryz.prog w = .ok (.tuple #[.agg cs,tmps.getD 3 undef]) w:=
 results_cell_tmp rfl tmps w g 84 cs (0,0) _ hp hg Tryz.underlying84 rfl (by rw [hs]; exact keep_info)
theorem four (w:World) (o0 o1 o2 o3:Obj) (nd:Nat):∃ W,((((w.alloc o0).drewN nd).alloc o1).alloc o2).alloc o3 = W ∧ W.heap[w.heap.size]? = some o0 ∧ W.heap[w.heap.size + 1]? = some o1 ∧ W.heap[w.heap.size + 1 + 1]? = some o2 ∧ W.heap[w.heap.size + 1 + 1 + 1]? = some o3 ∧ Keep (fun _ => False) w W:=by
 refine ⟨_,rfl,blk_alloc (blk_alloc (blk_alloc (blk_new w o0) _) _) _,blk_alloc (blk_alloc (blk_new_at _ _ ?_) _) _,blk_alloc (blk_new_at _ _ ?_) _,blk_new_at _ _ ?_,(((((Keep.refl _ w).alloc _).drewN nd).alloc _).alloc _).alloc _⟩ <;> simp [World.drewN]
theorem keep_any (s:Str) (B:Nat) (w:World) (hE:Ev B w) (hs:s.length ≤ 1073741824):Calls Tryz.prog 102 #[.string (strB s)] w (KeepQ s w):=by
 have HE:=Lib.hid hE
 have hsz:=hE.le
 have HS:=Lib.hid (And.intro hs (And.intro (ahead_len 58 s) True.intro))
 clear hE
 go_enter Tryz.func102,Tryz.ntmps102
 go_wp2_with fail
 refine (cut_s s 58 B _ (HE.out.kept (((Keep.refl (fun _ => False) w).alloc _).none)) HS.out.1).mono ?_
 rintro e w' ⟨rfl,nd,rfl⟩
 go_wp2_with fail
 obtain ⟨W,hW,b0,b1,b2,b3,kW⟩:=four w (.cells #[.int .i64 0,.slice none 0 0] 84) (.cells #[.int .i64 0,.slice none 0 0] 84) (.cells #[.string (strB (ahead 58 s))] 9) (.cells #[.pointer (some ⟨w.heap.size + 1,0,none⟩)] 108) nd
 rw [hW]
 clear hW
 obtain ⟨r,hr⟩:∃ r,w.heap.size = r:=⟨_,rfl⟩
 rw [hr] at b0 b1 b2 b3 hsz ⊢
 have HW:=Lib.hid (And.intro b0 (And.intro b1 (And.intro b2 (And.intro b3 (And.intro kW hr)))))
 have HI:=Lib.hid (ints_any [ahead 58 s] (some ⟨r + 1 + 1,0,none⟩) 1 1 (r + 1 + 1 + 1) (r + 1) [0] #[.int .i64 0,.slice none 0 0] 84 B W (HE.out.kept kW.none)
  (fun i hi => by
   obtain rfl:i = 0:=by simpa using hi
   exact ⟨_,_,rfl,blk_cell b2 0,lt_of_block b2⟩) (by simp) (by simp) (fun i => by
   cases i with
   | zero => exact Nat.le_trans HS.out.2.1 HS.out.1
   | succ i => simp) b3 b1 (fun i hi => by
   obtain rfl:i = 0:=by simpa using hi
   decide) (by omega) (fun g f h => by cases h; omega) (by omega))
 clear b0 b1 b2 b3 kW
 go_wp2_with fail
 refine HI.out.mono ?_
 clear HI
 rintro e w2 ⟨(⟨ns,hn,rfl,hb⟩ | ⟨hn,rfl⟩),k2⟩
 ·have h1:numOf (ahead 58 s) = some (ns.getD 0 0):=by
   simp only [List.length_singleton,List.take_succ_cons,List.take_zero,nums] at hn
   cases hq:numOf (ahead 58 s) with
   | none => rw [hq] at hn; cases hn
   | some n => rw [hq] at hn; simp at hn; subst hn; rfl
  have h2:setAll #[.int .i64 0,.slice none 0 0] [0] ns = #[.int .i64 (ns.getD 0 0),.slice none 0 0]:=by
   have:=nums_len hn
   cases ns with
   | nil => simp at this
   | cons n r => rfl
  rw [h2] at hb
  generalize ns.getD 0 0 = n at *
  have b0:=k2.same HW.out.1 (by omega)
  have kk:Keep (fun _ => False) w w2:=HW.out.2.2.2.2.1.own k2 fun i hi => Or.inr (by have:=HW.out.2.2.2.2.2; omega)
  have H2:=Lib.hid (And.intro h1 (And.intro hb (And.intro b0 kk)))
  have c0:=blk_cell hb 0
  have c1:=blk_cell hb 1
  have f0:=blk_free hb 0
  have f1:=blk_free hb 1
  have d0:=blk_cell b0 0
  have d1:=blk_cell b0 1
  have g0:=blk_free b0 0
  have g1:=blk_free b0 1
  simp at c0 c1 d0 d1
  clear hn h2 k2 kk h1 hb b0
  by_cases hh:has 58 s = true
  ·have HHX:=Lib.hid (hex_any (behind 58 s) false w2 (Nat.le_trans (by
    rcases s with _ | ⟨c,t⟩
    ·exact Nat.le_refl _
    ·exact Nat.le_of_lt (behind_len 58 (c :: t) (by simp))) HS.out.1))
   have HR:=Lib.hid (show keepF s = (match hexOf (behind 58 s) false with | none => .error 64 | some b => .ok ⟨n,b⟩) from by rw [keepF_is,H2.out.1,hh]; rfl)
   rw [hh]
   clear hh
   generalize behind 58 s = z at *
   go_wp2_with fail
   refine HHX.out.mono ?_
   clear HHX
   have hsz2:=H2.out.2.2.2.size
   have hr2:=HW.out.2.2.2.2.2
   have hlt:=lt_of_block H2.out.2.1
   rintro e w3 ⟨(⟨out,v,hx,rfl,hrow⟩ | ⟨hx,rfl⟩),k3⟩
   ·have b1:=k3.same H2.out.2.1 id
    have b0:=k3.same H2.out.2.2.1 id
    obtain ⟨oo,cc,hv⟩:∃ oo cc,v = .slice oo out.length cc:=by
     rcases hrow.2 with ⟨h1,h2⟩ | ⟨g,cap,cur,h1,-⟩
     ·exact ⟨none,0,by rw [h1,h2]⟩
     ·exact ⟨_,cap,h1⟩
    have hvb:∀ g,v.ownBlock = some g → w2.heap.size ≤ g:=fun g hg => by
     rcases hrow.2 with ⟨h1,h2⟩ | ⟨g,cap,cur,h1,h3,-⟩
     ·rw [h1] at hg; cases hg
     ·rw [h1] at hg; cases hg; exact h3
    have H3:=Lib.hid (And.intro hx (And.intro hrow (And.intro k3 (And.intro b0 (And.intro b1 hvb)))))
    have c0:=blk_cell b1 0
    have c1:=blk_cell b1 1
    have f0:=blk_free b1 0
    have f1:=blk_free b1 1
    have d0:=blk_cell b0 0
    have d1:=blk_cell b0 1
    have g0:=blk_free b0 0
    have g1:=blk_free b0 1
    simp at c0 c1 d0 d1
    subst hv
    clear hx hrow k3 b0 b1 hvb
    go_wp2_with fail
    refine bodyPost_ret (results_keep _ _ r _ rfl (blk_set (blk_set (blk_other H3.out.2.2.2.1 (by omega) 1 _) 0 _) 1 _) rfl) rfl ?_
    have kf:Keep (fun g => g = r + 1 ∨ g = r) w3 (((w3.setCell ⟨r + 1,1,none⟩ (.slice oo out.length cc)).setCell ⟨r,0,none⟩ (.int .i64 n)).setCell ⟨r,1,none⟩ (.slice oo out.length cc)):=(((Keep.refl (fun g => g = r + 1 ∨ g = r) w3).setCell (p:=⟨r + 1,1,none⟩) (Or.inl (Or.inl rfl)) _).setCell (p:=⟨r,0,none⟩) (Or.inl (Or.inr rfl)) _).setCell (p:=⟨r,1,none⟩) (Or.inl (Or.inr rfl)) _
    refine ⟨Or.inl ⟨⟨n,out⟩,.slice oo out.length cc,by rw [HR.out,H3.out.1],rfl,?_⟩,?_⟩
    ·refine row_base (row_keep H3.out.2.1 kf fun g hg => ?_) fun g hg => ?_
     ·have:=H3.out.2.2.2.2.2 g hg; omega
     ·have:=H3.out.2.2.2.2.2 g hg; omega
    ·exact (H2.out.2.2.2.trans H3.out.2.2.1).own kf fun i hi => Or.inr (by omega)
   ·have b0:=k3.same H2.out.2.2.1 id
    have H3:=Lib.hid (And.intro hx (And.intro k3 b0))
    have d0:=blk_cell b0 0
    have d1:=blk_cell b0 1
    have g0:=blk_free b0 0
    have g1:=blk_free b0 1
    simp at d0 d1
    clear hx k3 b0
    go_wp2_with fail
    refine bodyPost_ret (results_keep _ _ r _ rfl (blk_set (blk_set H3.out.2.2 0 _) 1 _) rfl) rfl ?_
    refine ⟨Or.inr ⟨64,by rw [HR.out,H3.out.1],by decide,rfl⟩,?_⟩
    exact (H2.out.2.2.2.trans H3.out.2.1).own (((Keep.refl (fun g => g = r) w3).setCell (p:=⟨r,0,none⟩) (Or.inl rfl) _).setCell (p:=⟨r,1,none⟩) (Or.inl rfl) _) fun i hi => Or.inr (by omega)
  ·have hh':has 58 s = false:=by simpa using hh
   have HR:=Lib.hid (show keepF s = .ok ⟨n,[]⟩ from by rw [keepF_is,H2.out.1,hh']; rfl)
   rw [hh']
   clear hh hh'
   go_wp2_with fail
   refine bodyPost_ret (results_keep _ _ r _ rfl (blk_set (blk_set H2.out.2.2.1 0 _) 1 _) rfl) rfl ?_
   refine ⟨Or.inl ⟨⟨n,[]⟩,.slice none 0 0,HR.out,rfl,row_nil _ _ _ _⟩,?_⟩
   exact H2.out.2.2.2.own (((Keep.refl (fun g => g = r) w2).setCell (p:=⟨r,0,none⟩) (Or.inl rfl) _).setCell (p:=⟨r,1,none⟩) (Or.inl rfl) _) fun i hi => Or.inr (by have:=HW.out.2.2.2.2.2; omega)
 ·have h1:numOf (ahead 58 s) = none:=by
   simp only [List.length_singleton,List.take_succ_cons,List.take_zero,nums] at hn
   cases hq:numOf (ahead 58 s) with
   | none => rfl
   | some n => rw [hq] at hn; simp at hn
  have HR:=Lib.hid (show keepF s = .error 66 from by rw [keepF_is,h1])
  have b0:=k2.same HW.out.1 (by omega)
  have kk:Keep (fun _ => False) w w2:=HW.out.2.2.2.2.1.own k2 fun i hi => Or.inr (by have:=HW.out.2.2.2.2.2; omega)
  have H2:=Lib.hid (And.intro b0 kk)
  have d0:=blk_cell b0 0
  have d1:=blk_cell b0 1
  have g0:=blk_free b0 0
  have g1:=blk_free b0 1
  simp at d0 d1
  clear hn h1 k2 kk b0
  go_wp2_with fail
  refine bodyPost_ret (results_keep _ _ r _ rfl (blk_set (blk_set H2.out.1 0 _) 1 _) rfl) rfl ?_
  refine ⟨Or.inr ⟨66,HR.out,by decide,rfl⟩,?_⟩
  exact H2.out.2.own (((Keep.refl (fun g => g = r) w2).setCell (p:=⟨r,0,none⟩) (Or.inl rfl) _).setCell (p:=⟨r,1,none⟩) (Or.inl rfl) _) fun i hi => Or.inr (by have:=HW.out.2.2.2.2.2; omega)

structure Grown (S:T → Prop) (w w':World) (own own':Nat → Option T):Prop where
 keep:Keep (fun g => ∃ t,own g = some t ∧ S t) w w'
 old:∀ g t,own g = some t → own' g = some t
 low:∀ g,own' g ≠ none → g < w'.heap.size
 new:∀ g,own g = none → own' g ≠ none → w.heap.size ≤ g
theorem Grown.to {S:T → Prop} {w w':World} {own own':Nat → Option T} (h:Grown S w w' own own'):To own own' w w':=
 ⟨h.keep.mono fun g _ ⟨t,ht,_⟩ => by rw [ht]; simp,fun g hg hn => by
  cases hq:own' g with
  | none => rfl
  | some t => have:=h.new g hn (by rw [hq]; simp); omega⟩
theorem RowT.far {S:T → Prop} {w w':World} {own own':Nat → Option T} {tag:T} {e sz n:Nat} {v:Value} {xs:List Value} (h:RowT w own tag e sz v n xs) (G:Grown S w w' own own') (hs:¬ S tag):RowT w' own' tag e sz v n xs:=
 h.move G.keep (fun g hg ⟨t,ht,hS⟩ => by rw [hg] at ht; cases ht; exact hs hS) (fun g hg => G.old g _ hg)
theorem CallsAt.far {S:T → Prop} {w w':World} {own own':Nat → Option T} {i:Nat} {t:MT} (h:CallsAt w own i t) (G:Grown S w w' own own') (hs:∀ n j,(n = 3 ∨ n = 4) → ¬ S (n,i,j)):CallsAt w' own' i t:=
 ⟨h.row.far G (hs 3 0 (Or.inl rfl)),fun j c hc => (h.data j c hc).far G (hs 4 j (Or.inr rfl))⟩
theorem EndAt.far {S:T → Prop} {w w':World} {own own':Nat → Option T} {i:Nat} {e:ME} (h:EndAt w own i e) (G:Grown S w w' own own') (hs:∀ n j,(n = 7 ∨ n = 8 ∨ n = 9) → ¬ S (n,i,j)):EndAt w' own' i e:=
 ⟨h.keeps.far G (hs 7 0 (Or.inl rfl)),fun j k hk => (h.junk j k hk).far G (hs 8 j (Or.inr (Or.inl rfl))),h.faults.far G (hs 9 0 (Or.inr (Or.inr rfl)))⟩
def put (own:Nat → Option T) (v:Value) (t:T):Nat → Option T:=fun g => if v.ownBlock = some g then some t else own g
theorem grown_put {w w4:World} {own:Nat → Option T} {v v':Value} {tag tag2:T} {e sz n n':Nat} {xs ys:List Value} {b i:Nat} (u:Value) (hlow:∀ g,own g ≠ none → g < w.heap.size) (h:RowT w own tag e sz v n xs) (h':w4.ownsRow 0 e sz v' n' ys)
  (k:Keep (fun g => v.ownBlock = some g) w w4) (hb:v'.ownBlock = v.ownBlock ∨ ∃ g,v'.ownBlock = some g ∧ w.heap.size ≤ g) (ht:own b = some tag2) :
  Grown (fun t => t = tag ∨ t = tag2) w (w4.setCell ⟨b,i,none⟩ u) own (put own v' tag) where
 keep:=by
  have k1:Keep (fun g => ∃ t,own g = some t ∧ (t = tag ∨ t = tag2)) w w4:=k.mono fun g _ hg => ⟨tag,h.tag g hg,Or.inl rfl⟩
  exact k1.setCell (p:=⟨b,i,none⟩) (Or.inl ⟨tag2,ht,Or.inr rfl⟩) u
 old:=fun g t hg => by
  unfold put
  split
  ·rename_i hv
   rcases hb with hb | ⟨g2,hb,hl⟩
   ·rw [hb] at hv; rw [h.tag g hv] at hg; exact hg
   ·rw [hb] at hv; cases hv
    have:=hlow g (by rw [hg]; simp)
    omega
  ·exact hg
 low:=fun g hg => by
  have hz:(w4.setCell ⟨b,i,none⟩ u).heap.size = w4.heap.size:=by simp [World.setCell]
  rw [hz]
  unfold put at hg
  split at hg
  ·rename_i hv
   exact row_lt h' hv
  ·exact Nat.lt_of_lt_of_le (hlow g hg) k.size
 new:=fun g hn hg => by
  unfold put at hg
  split at hg
  ·rename_i hv
   rcases hb with hb | ⟨g2,hb,hl⟩
   ·rw [hb] at hv; rw [h.tag g hv] at hn; cases hn
   ·rw [hb] at hv; cases hv; exact hl
  ·exact absurd hn hg
theorem put_tag (own:Nat → Option T) (v:Value) (t:T):∀ g,v.ownBlock = some g → put own v t g = some t:=fun g hg => by unfold put; rw [if_pos hg]
theorem row_put {w4:World} {own:Nat → Option T} {v':Value} {tag:T} {e sz n':Nat} {ys:List Value} {b i:Nat} (u:Value) (h':w4.ownsRow 0 e sz v' n' ys) (hne:v'.ownBlock ≠ some b):RowT (w4.setCell ⟨b,i,none⟩ u) (put own v' tag) tag e sz v' n' ys:=
 ⟨row_keep h' ((Keep.refl (fun g => g = b) w4).setCell (p:=⟨b,i,none⟩) (Or.inl rfl) u) fun g hg e => by subst e; exact hne hg,put_tag own v' tag⟩
def M.arm (m:M) (f:Fault) (v:Value):M:=match m.es.getLast? with
 | some e => { m with es:=m.es.dropLast ++ [{ e with fv:=v,fs:=e.fs ++ [f] }] }
 | none => { m with fv:=v,fs:=m.fs ++ [f] }
theorem M.arm_play (m:M) (f:Fault) (v:Value):(m.arm f v).play = Sc.arm m.play f ∧ (m.arm f v).st = m.st:=by
 unfold M.arm Sc.arm
 rw [show m.play.ends.getLast? = m.es.getLast?.map ME.reopen from by unfold M.play; simp only [List.getLast?_map]]
 cases m.es.getLast? with
 | none => exact ⟨rfl,rfl⟩
 | some e =>
  refine ⟨?_,rfl⟩
  unfold M.play
  simp [ME.reopen,List.map_dropLast]
def armT (m:M):T:=if m.es = [] then (1,0,0) else (9,m.es.length - 1,0)
theorem PAt.arm_row {w:World} {own:Nat → Option T} {pb:Nat} {m:M} (h:PAt w own pb m):RowT w own (armT m) 114 3 (armV m) (armL m).length (fsv (armL m)) ∧ ∃ t,own (armP m pb).block = some t ∧ (t = (0,0,0) ∨ t = (6,0,0)) ∧ t ≠ armT m:=by
 unfold armT armV armL armP
 cases hl:m.es.getLast? with
 | none =>
  have he:m.es = []:=List.getLast?_eq_none_iff.1 hl
  rw [if_pos he,if_pos he]
  exact ⟨h.fs,_,h.tag,Or.inl rfl,by decide⟩
 | some e =>
  obtain ⟨hne,hg⟩:=last_get hl
  rw [if_neg hne,if_neg hne]
  obtain ⟨g,cap,hv,-,ht,-⟩:=h.shape_es hne
  refine ⟨(h.ends _ e hg).faults,(6,0,0),?_,Or.inr rfl,by simp⟩
  rw [hv]
  exact ht
theorem set_last {α:Type} (f:α → List Value) (k:Nat) (hk:∀ x,(f x).length = k) (l:List α) (x y:α) (j:Nat) (u:Value) (hj:j < k) (hy:f y = (f x).set j u):(l ++ [y]).flatMap f = ((l ++ [x]).flatMap f).set (l.length * k + j) u:=by
 have hl:(l.flatMap f).length = l.length * k:=by
  induction l with
  | nil => simp
  | cons z r ih => rw [List.flatMap_cons,List.length_append,ih,hk,List.length_cons,Nat.succ_mul]; omega
 rw [List.flatMap_append,List.flatMap_append,List.set_append_right _ _ (by rw [hl]; omega),hl]
 simp [hy]
theorem PAt.arm_push {w w4:World} {own:Nat → Option T} {pb:Nat} {m:M} (h:PAt w own pb m) (f:Fault) {v':Value} (h':w4.ownsRow 0 114 3 v' ((armL m).length + 1) (fsv (armL m) ++ fcells f))
  (k:Keep (fun g => (armV m).ownBlock = some g) w w4) (hb:v'.ownBlock = (armV m).ownBlock ∨ ∃ g,v'.ownBlock = some g ∧ w.heap.size ≤ g) :
  PAt (w4.setCell (armP m pb) v') (put own v' (armT m)) pb (m.arm f v') ∧ To own (put own v' (armT m)) w (w4.setCell (armP m pb) v'):=by
 obtain ⟨hrow,t2,ht2,ht3,ht4⟩:=h.arm_row
 have hsp:(armP m pb) = ⟨(armP m pb).block,(armP m pb).off,none⟩:=by unfold armP; split <;> rfl
 have G:Grown (fun t => t = armT m ∨ t = t2) w (w4.setCell (armP m pb) v') own (put own v' (armT m)):=by
  rw [hsp]
  exact grown_put v' h.low hrow h' k hb ht2
 have hne:v'.ownBlock ≠ some (armP m pb).block:=by
  intro e
  rcases hb with hb | ⟨g,hb,hl⟩
  ·rw [hb] at e
   rw [hrow.tag _ e] at ht2
   cases ht2
   exact ht4 rfl
  ·rw [hb] at e
   cases e
   have:=h.low _ (by rw [ht2]; simp)
   omega
 have hrow':RowT (w4.setCell (armP m pb) v') (put own v' (armT m)) (armT m) 114 3 v' ((armL m).length + 1) (fsv (armL m) ++ fcells f):=by
  rw [hsp]
  exact row_put v' h' hne
 refine ⟨?_,G.to⟩
 cases hl:m.es.getLast? with
 | none =>
  have he:m.es = []:=List.getLast?_eq_none_iff.1 hl
  have e1:armT m = (1,0,0):=by unfold armT; rw [if_pos he]
  have e2:armP m pb = ⟨pb,9,none⟩:=by unfold armP; rw [if_pos he]
  have e3:armL m = m.fs:=by unfold armL; rw [hl]
  have e4:armV m = m.fv:=by unfold armV; rw [hl]
  have e5:m.arm f v' = { m with fv:=v',fs:=m.fs ++ [f] }:=by unfold M.arm; rw [hl]
  have e6:t2 = (0,0,0):=by
   rw [e2] at ht2
   have:=h.tag
   rw [show (⟨pb,9,none⟩:Addr).block = pb from rfl,this] at ht2
   cases ht2
   rfl
  rw [e5]
  rw [e1,e2,e3] at hrow'
  rw [e1,e2,e6] at G
  rw [e1,e2]
  rw [e4] at k
  exact {
   low:=G.low
   blk:=by
    have hpb:=k.same h.blk (fun e => by have:=h.fs.tag pb e; rw [h.tag] at this; cases this)
    exact blk_set hpb 9 v'
   tag:=G.old _ _ h.tag
   fs:=by
    rw [show (m.fs ++ [f]).length = m.fs.length + 1 by simp,show fsv (m.fs ++ [f]) = fsv m.fs ++ fcells f by simp [fsv]]
    exact hrow'
   ts:=h.ts.far G (by simp)
   calls:=fun i t ht => (h.calls i t ht).far G (fun n j hn => by rcases hn with rfl | rfl <;> simp)
   ps:=h.ps.far G (by simp)
   es:=h.es.far G (by simp)
   ends:=fun i e he => (h.ends i e he).far G (fun n j hn => by rcases hn with rfl | rfl | rfl <;> simp) }
 | some e =>
  obtain ⟨hne2,hg⟩:=last_get hl
  obtain ⟨pre,hpre⟩:∃ pre,m.es = pre ++ [e]:=List.getLast?_eq_some_iff.1 hl
  have hlen:m.es.length - 1 = pre.length:=by rw [hpre]; simp
  obtain ⟨g6,cap,hv,hcap,h6,-⟩:=h.shape_es hne2
  have e1:armT m = (9,pre.length,0):=by unfold armT; rw [if_neg hne2,hlen]
  have e2:armP m pb = ⟨g6,pre.length * 3 + 2,none⟩:=by unfold armP; rw [if_neg hne2,hv,hlen]; rfl
  have e3:armL m = e.fs:=by unfold armL; rw [hl]
  have e4:armV m = e.fv:=by unfold armV; rw [hl]
  have e5:m.arm f v' = { m with es:=pre ++ [{ e with fv:=v',fs:=e.fs ++ [f] }] }:=by unfold M.arm; rw [hl,hpre,List.dropLast_concat]
  have e6:t2 = (6,0,0):=by
   rw [e2,show (⟨g6,pre.length * 3 + 2,none⟩:Addr).block = g6 from rfl,h6] at ht2
   cases ht2
   rfl
  rw [e5]
  rw [e1,e2,e3] at hrow'
  rw [e1,e2,e6] at G
  rw [e1] at hrow
  rw [e1,e2]
  rw [e4] at k hrow
  have hgp:g6 ≠ pb:=by intro e; rw [e,h.tag] at h6; cases h6
  have hend:=h.ends pre.length e (by rw [← hlen]; exact hg)
  exact {
   low:=G.low
   blk:=by
    have hpb:=k.same h.blk (fun e => by have:=hrow.tag pb e; rw [h.tag] at this; cases this)
    exact blk_other hpb (fun e => hgp e.symm) _ v'
   tag:=G.old _ _ h.tag
   fs:=h.fs.far G (by simp)
   ts:=h.ts.far G (by simp)
   calls:=fun i t ht => (h.calls i t ht).far G (fun n j hn => by rcases hn with rfl | rfl <;> simp)
   ps:=h.ps.far G (by simp)
   es:=by
    have hr:=row_keep h.es.row k fun g hg e => by have a:=hrow.tag g e; have b:=h.es.tag g hg; rw [b] at a; cases a
    rw [hv] at hr
    have hs:=row_set hr (j:=pre.length * 3 + 2) (by rw [hpre]; simp; omega) v'
    refine ⟨?_,fun g hg => G.old _ _ (h.es.tag g hg)⟩
    show (w4.setCell ⟨g6,pre.length * 3 + 2,none⟩ v').ownsRow 0 82 3 m.ev (pre ++ [{ e with fv:=v',fs:=e.fs ++ [f] }]).length ((pre ++ [{ e with fv:=v',fs:=e.fs ++ [f] }]).flatMap ME.cells)
    rw [set_last ME.cells 3 (fun _ => rfl) pre e _ 2 v' (by omega) rfl,hv]
    rw [show m.es.length = pre.length + 1 from by rw [hpre]; simp]
    rw [hpre] at hs
    simpa using hs
   ends:=fun i e0 he0 => by
    by_cases hi:i = pre.length
    ·subst hi
     obtain rfl:e0 = { e with fv:=v',fs:=e.fs ++ [f] }:=by simpa using he0.symm
     refine ⟨hend.keeps.far G (by simp),fun j kk hk => (hend.junk j kk hk).far G (by simp),?_⟩
     show RowT _ _ _ _ _ v' (e.fs ++ [f]).length (fsv (e.fs ++ [f]))
     rw [show (e.fs ++ [f]).length = e.fs.length + 1 by simp,show fsv (e.fs ++ [f]) = fsv e.fs ++ fcells f by simp [fsv]]
     exact hrow'
    ·have hlt:i < pre.length:=by
      rcases Nat.lt_or_ge i pre.length with h | h
      ·exact h
      ·rw [List.getElem?_append_right h] at he0
       have:i - pre.length ≠ 0:=by omega
       cases hq:i - pre.length with
       | zero => omega
       | succ z => rw [hq] at he0; simp at he0
     have he1:m.es[i]? = some e0:=by
      rw [hpre,List.getElem?_append_left hlt]
      rw [List.getElem?_append_left hlt] at he0
      exact he0
     exact (h.ends i e0 he1).far G (fun n j hn => by
      rcases hn with rfl | rfl | rfl <;> simp
      intro e; exact absurd e hi) }
end Sc
end Go.Proofs.YtkkecpamnnojoaaGreatDoor
