/- A part of the proof of ScriptPrints: nothing is assumed. By an AI agent. -/
import Derived.Test.YtkkecpamnnojoaaGreatDoorBp21
import Derived.Test.YtkkecpamnnojoaaGreatDoorBp19
set_option linter.unusedVariables false
set_option linter.unusedSimpArgs false
set_option maxRecDepth 100000
set_option maxHeartbeats 32000000
namespace Go.Proofs.YtkkecpamnnojoaaGreatDoor
open Go.ChangeShapes Go.WideShapes Go.ChangeAt Go.RowKit Go.Shelf
open Bt Dc By
namespace Sc

def keepR (k:Kp):Str:=decS k.n ++ (if k.junk = [] then [] else 58 :: pairsS k.junk)
def endR (r:Reopen):Str:=putL ([101,110,100] :: decS r.dir :: r.keeps.map keepR) ++ faultsS r.faults
def taskR (l:List Call):Str:=putL [[116,97,115,107]] ++ l.flatMap rcallT
def rfullS (p:Play):Str:=headS p ++ faultsS p.faults ++ p.tasks.flatMap taskR ++ picksS p.picks ++ p.ends.flatMap endR
def rknownF (p:Play):Bool:=p.faults.all okK && p.tasks.all (fun l => l.all rightF) && p.ends.all (fun e => e.faults.all okK)
def rprintF (p:Play):Str × Int:=if manyF p = true then ([],9) else if rknownF p = false then ([],1) else if 65536 < (rfullS p).length then ([],3) else (rfullS p,0)

theorem okK_word (f:Fault):okK f = decide (faultWord f.kind ≠ []):=by
 unfold okK
 by_cases h:1 ≤ f.kind ∧ f.kind ≤ 4
 ·rw [decide_eq_true h]
  symm
  rw [decide_eq_true_eq]
  have:f.kind = 1 ∨ f.kind = 2 ∨ f.kind = 3 ∨ f.kind = 4:=by omega
  rcases this with e | e | e | e <;> rw [e] <;> decide
 ·rw [decide_eq_false h]
  symm
  rw [decide_eq_false_iff_not,Decidable.not_not]
  unfold faultWord
  rw [if_neg (by omega),if_neg (by omega),if_neg (by omega),if_neg (by omega)]
theorem known_same (p:Play):rknownF p = knownF p:=by
 unfold rknownF knownF
 have e:okK = fun f => decide (faultWord f.kind ≠ []):=funext okK_word
 rw [e,List.all_append,List.all_flatMap]
 cases p.faults.all (fun f => decide (faultWord f.kind ≠ [])) <;> cases p.tasks.all (fun l => l.all rightF) <;> cases p.ends.all (fun x => x.faults.all fun f => decide (faultWord f.kind ≠ [])) <;> rfl
theorem rflat_le {α:Type} {f:α → Str} {l:List α} {x:α} (h:x ∈ l):(f x).length ≤ (l.flatMap f).length:=by
 induction l with
 | nil => simp at h
 | cons y r ih =>
  rw [List.flatMap_cons,List.length_append]
  rcases List.mem_cons.1 h with rfl | h
  ·omega
  ·have:=ih h; omega
theorem flat_same {α:Type} {f g:α → Str} {l:List α} (h:∀ x ∈ l,f x = g x):l.flatMap f = l.flatMap g:=by
 induction l with
 | nil => rfl
 | cons y r ih =>
  rw [List.flatMap_cons,List.flatMap_cons,h y (List.mem_cons_self ..),ih fun x hx => h x (List.mem_cons_of_mem _ hx)]
theorem rpairs_len (b:Str) (h:b ≠ []):(pairsS b).length = 2 * b.length:=by
 unfold pairsS
 rw [if_neg h]
 clear h
 induction b with
 | nil => rfl
 | cons c r ih => rw [List.flatMap_cons,List.length_append,ih]; simp [two16]; omega
theorem rbod_mem {w:Str} {ws:List Str} (h:w ∈ ws):w.length ≤ (bod ws).length:=by
 cases ws with
 | nil => simp at h
 | cons v r =>
  show w.length ≤ (v ++ r.flatMap (fun x => 32 :: x)).length
  rw [List.length_append]
  rcases List.mem_cons.1 h with rfl | h
  ·omega
  ·have:=rflat_le (f:=fun x => 32 :: x) h; simp only [List.length_cons] at this; omega
theorem put_mem {w:Str} {ws:List Str} (h:w ∈ ws):w.length ≤ (putL ws).length:=by
 have:=rbod_mem h
 unfold putL
 rw [List.length_append]
 omega
def BigC (c:Call):Prop:=(c.kind = 1 ∨ c.kind = 2) ∧ 65536 < c.data.length
def Big (p:Play):Prop:=(∃ l ∈ p.tasks,∃ c ∈ l,BigC c) ∨ ∃ r ∈ p.ends,∃ k ∈ r.keeps,65536 < k.junk.length
theorem call_big {c:Call} (h:BigC c):65536 < (callT c).length ∧ 65536 < (rcallT c).length:=by
 refine ⟨?_,?_⟩
 ·unfold callT; rw [if_pos h.1,if_pos h.2]; exact h.2
 ·unfold rcallT
  rw [if_pos h.1]
  have:=put_mem (w:=pairsS c.data) (ws:=[callWord c.kind,pairsS c.data]) (by simp)
  rw [rpairs_len _ (fun e => by have:=h.2; rw [e] at this; simp at this)] at this
  have:=h.2
  omega
theorem call_same {c:Call} (h:¬ BigC c):callT c = rcallT c:=by
 unfold callT rcallT
 by_cases h1:c.kind = 1 ∨ c.kind = 2
 ·rw [if_pos h1,if_pos h1,if_neg fun h2 => h ⟨h1,h2⟩]
 ·rw [if_neg h1,if_neg h1]
theorem keep_same {k:Kp} (h:¬ 65536 < k.junk.length):keepT k = keepR k:=by
 unfold keepT keepR
 rw [List.take_of_length_le (by omega)]
theorem keep_big {k:Kp} (h:65536 < k.junk.length):65536 < (keepT k).length ∧ 65536 < (keepR k).length:=by
 have hne:k.junk ≠ []:=fun e => by rw [e] at h; simp at h
 have h2:k.junk.take 65536 ≠ []:=fun e => by have:=congrArg List.length e; rw [List.length_take] at this; have h0:([]:Str).length = 0:=rfl; rw [h0] at this; omega
 unfold keepT keepR
 rw [if_neg hne,if_neg hne,List.length_append,List.length_append,List.length_cons,List.length_cons,rpairs_len _ h2,rpairs_len _ hne,List.length_take]
 omega
theorem big_full {p:Play} (h:Big p):65536 < (fullS p).length ∧ 65536 < (rfullS p).length:=by
 unfold fullS rfullS
 simp only [List.length_append]
 rcases h with ⟨l,hl,c,hc,hb⟩ | ⟨r,hr,k,hk,hb⟩
 ·have h1:=rflat_le (f:=taskS) hl
  have h2:=rflat_le (f:=taskR) hl
  have h3:=rflat_le (f:=callT) hc
  have h4:=rflat_le (f:=rcallT) hc
  have h5:=call_big hb
  have t1:(l.flatMap callT).length ≤ (taskS l).length:=by unfold taskS; rw [List.length_append]; omega
  have t2:(l.flatMap rcallT).length ≤ (taskR l).length:=by unfold taskR; rw [List.length_append]; omega
  omega
 ·have h1:=rflat_le (f:=endT) hr
  have h2:=rflat_le (f:=endR) hr
  have h3:=put_mem (w:=keepT k) (ws:=[101,110,100] :: decS r.dir :: r.keeps.map keepT) (by simp only [List.mem_cons,List.mem_map]; exact Or.inr (Or.inr ⟨k,hk,rfl⟩))
  have h4:=put_mem (w:=keepR k) (ws:=[101,110,100] :: decS r.dir :: r.keeps.map keepR) (by simp only [List.mem_cons,List.mem_map]; exact Or.inr (Or.inr ⟨k,hk,rfl⟩))
  have h5:=keep_big hb
  have t1:(putL ([101,110,100] :: decS r.dir :: r.keeps.map keepT)).length ≤ (endT r).length:=by unfold endT; rw [List.length_append]; omega
  have t2:(putL ([101,110,100] :: decS r.dir :: r.keeps.map keepR)).length ≤ (endR r).length:=by unfold endR; rw [List.length_append]; omega
  omega
theorem small_full {p:Play} (h:¬ Big p):rfullS p = fullS p:=by
 unfold fullS rfullS
 have e1:p.tasks.flatMap taskR = p.tasks.flatMap taskS:=flat_same fun l hl => by
  unfold taskR taskS
  rw [flat_same (f:=rcallT) (g:=callT) fun c hc => (call_same fun hb => h (Or.inl ⟨l,hl,c,hc,hb⟩)).symm]
 have e2:p.ends.flatMap endR = p.ends.flatMap endT:=flat_same fun r hr => by
  unfold endR endT
  rw [show r.keeps.map keepR = r.keeps.map keepT from List.map_congr_left fun k hk => (keep_same fun hb => h (Or.inr ⟨r,hr,k,hk,hb⟩)).symm]
 rw [e1,e2]
theorem rprint_same (p:Play):rprintF p = printF p:=by
 unfold rprintF printF
 rw [known_same]
 by_cases h:Big p
 ·obtain ⟨h1,h2⟩:=big_full h
  rw [if_pos h1,if_pos h2]
 ·rw [small_full h]
end Sc
end Go.Proofs.YtkkecpamnnojoaaGreatDoor
namespace Go.Proofs.YtkkecpamnnojoaaGreatDoor
open Go.ChangeShapes Go.WideShapes Go.ChangeAt Go.RowKit Go.Shelf
open Bt Dc By
attribute [local go_sem] Oper.semAt_some
namespace Sc

structure Pg (w0:World) (bl:List (Nat × Obj)) (F:Str) (ok:Bool) (v:Value) (W:World):Prop where
 ex:∃ B,Rb w0 W v B ∧ B.length ≤ F.length ∧ (ok = true → B = F)
 bes:∀ p ∈ bl,W.heap[p.1]? = some p.2 ∧ v.ownBlock ≠ some p.1
theorem Pg.k {w0 W:World} {bl:List (Nat × Obj)} {F:Str} {ok:Bool} {v:Value} (h:Pg w0 bl F ok v W):Keep (fun _ => False) w0 W:=by
 obtain ⟨B,hB,-⟩:=h.ex
 exact hB.k
theorem Pg.kept {w0 W W':World} {bl:List (Nat × Obj)} {F:Str} {ok:Bool} {v:Value} (h:Pg w0 bl F ok v W) (k:Keep (fun _ => False) W W'):Pg w0 bl F ok v W':=by
 obtain ⟨B,hB,h2⟩:=h.ex
 exact ⟨⟨B,hB.kept k,h2⟩,fun p hp => ⟨k.same (h.bes p hp).1 id,(h.bes p hp).2⟩⟩
theorem Pg.drop {w0 W:World} {bl:List (Nat × Obj)} {F:Str} {ok:Bool} {v:Value} (h:Pg w0 bl F ok v W):Pg w0 [] F ok v W:=⟨h.ex,fun p hp => by simp at hp⟩
theorem Pg.add {w0 W:World} {bl:List (Nat × Obj)} {F:Str} {ok:Bool} {v:Value} (h:Pg w0 bl F ok v W) (o:Obj) (q:Nat) (hq:W.heap.size = q):Pg w0 ((q,o) :: bl) F ok v (W.alloc o):=by
 have h2:=h.kept ((Keep.refl _ W).alloc o)
 refine ⟨h2.ex,fun p hp => ?_⟩
 rcases List.mem_cons.1 hp with rfl | hp
 ·refine ⟨by rw [← hq]; exact blk_new _ _,fun e => ?_⟩
  obtain ⟨B,hB,-⟩:=h.ex
  have:=row_lt hB.t e
  omega
 ·exact h2.bes p hp
theorem Pg.box {w0 W:World} {bl:List (Nat × Obj)} {F:Str} {ok:Bool} {v:Value} {q:Nat} {o:Obj} (h:Pg w0 ((q,o) :: bl) F ok v W):W.heap[q]? = some o:=(h.bes _ (List.mem_cons_self ..)).1
theorem Pg.turn {w0 W:World} {bl:List (Nat × Obj)} {F G:Str} {ok:Bool} {v:Value} (h:Pg w0 bl F ok v W) (e:F = G):Pg w0 bl G ok v W:=e ▸ h
theorem Pg.grow {w0 W W':World} {bl:List (Nat × Obj)} {F C B:Str} {ok:Bool} {v v':Value} (h:Pg w0 bl F ok v W) (hB:Rb w0 W v B) (hl:B.length ≤ F.length) (he:ok = true → B = F) (hrow:W'.ownsRow 0 5 1 v' (B.length + C.length) (u8v B ++ u8v C)) (k:Keep (fun g => v.ownBlock = some g) W W') (hb:v'.ownBlock = v.ownBlock ∨ ∃ g,v'.ownBlock = some g ∧ W.heap.size ≤ g):Pg w0 bl (F ++ C) ok v' W':=by
 refine ⟨⟨B ++ C,hB.grow hrow k hb,by rw [List.length_append,List.length_append]; omega,fun e => by rw [he e]⟩,fun p hp => ?_⟩
 obtain ⟨h1,h2⟩:=h.bes p hp
 refine ⟨k.same h1 h2,fun e => ?_⟩
 rcases hb with hb | ⟨g,hb,hg⟩
 ·exact h2 (by rw [← hb]; exact e)
 ·rw [e] at hb
  cases hb
  have:=lt_of_block h1
  omega
theorem i8k:∃ i,Tryz.prog.info? 5 = some i ∧ i.zero = some (.int .u8 0) ∧ i.size = 1 ∧ i.bytes = 1:=info8k
theorem wpList_put {w0 W:World} {bl:List (Nat × Obj)} {F:Str} {ok:Bool} {v:Value} (h:Pg w0 bl F ok v W) (s:Str) {ops:Array Oper} {rest:List Oper} {o:Oper} {a:Act} {Q:Exit → Act → World → Prop} (hgd:o.guard = none) (sl x:Operand)
  (ho:o.op = .call { callee:=.builtin .append,args:=#[sl,x],argTypes:=#[53,9] }) (hs:a.eval sl = v) (hx:a.eval x = .string (strB s)) (hn:F.length + s.length ≤ 1099511627776)
  (hk:∀ v' W',Pg w0 bl (F ++ s) ok v' W' → wpList Tryz.prog ops Q rest (a.put o.dst v') W'):wpList Tryz.prog ops Q (o :: rest) a W:=by
 obtain ⟨B,hB,hl,he⟩:=h.ex
 obtain ⟨i0,hi0,hz0,hz1,hz2⟩:=i8k
 refine wpList_append_str_k W hgd sl x 53 9 ho 5 i0 Tryz.underlying53 Tryz.underlying9 hi0 hz0 hz1 hz2 v B.length (u8v B) hs (row_base hB.t fun g _ => Nat.zero_le _) s hx (by omega) ?_
 intro v1 w4 hrow hgr hblk
 exact hk _ _ (h.grow hB hl he hrow (keep_grown hgr) hblk)
theorem step_put {w0 W:World} {bl:List (Nat × Obj)} {F:Str} {ok:Bool} {v:Value} (h:Pg w0 bl F ok v W) (s:Str) {ops:Array Oper} {o:Oper} {a:Act} {K:Act → World → Prop} {Q:Exit → Act → World → Prop} {E:Prop} (hgd:o.guard = none) (sl x:Operand)
  (ho:o.op = .call { callee:=.builtin .append,args:=#[sl,x],argTypes:=#[53,9] }) (hs:a.eval sl = v) (hx:a.eval x = .string (strB s)) (hn:F.length + s.length ≤ 1099511627776)
  (hk:∀ v' W',Pg w0 bl (F ++ s) ok v' W' → K (a.put o.dst v') W'):if Region.wanted o (yielded ops a.tmps) = true then Oper.wp Tryz.prog o a W K Q else E:=by
 obtain ⟨B,hB,hl,he⟩:=h.ex
 obtain ⟨i0,hi0,hz0,hz1,hz2⟩:=i8k
 refine step_append_str_k hgd sl x 53 9 ho 5 i0 Tryz.underlying53 Tryz.underlying9 hi0 hz0 hz1 hz2 v B.length (u8v B) hs (row_base hB.t fun g _ => Nat.zero_le _) s hx (by omega) ?_
 intro v1 w4 hrow hgr hblk
 exact hk _ _ (h.grow hB hl he hrow (keep_grown hgr) hblk)
theorem wpList_put1 {w0 W:World} {bl:List (Nat × Obj)} {F:Str} {ok:Bool} {v:Value} (h:Pg w0 bl F ok v W) (c:UInt8) {ops:Array Oper} {rest:List Oper} {o:Oper} {a:Act} {Q:Exit → Act → World → Prop} (hgd:o.guard = none) (sl x:Operand)
  (ho:o.op = .call { callee:=.builtin .append,args:=#[sl,x],argTypes:=#[53,53] }) (hs:a.eval sl = v) (hx:a.eval x = .slice (some ⟨W.heap.size,0,none⟩) 1 1) (hn:F.length + 1 ≤ 1099511627776)
  (hk:∀ v' W',Pg w0 bl (F ++ [c]) ok v' W' → wpList Tryz.prog ops Q rest (a.put o.dst v') W'):wpList Tryz.prog ops Q (o :: rest) a (W.alloc (.cells #[.int .u8 (c.toNat:Int)] 5 (0,0))):=by
 have h2:=h.kept ((Keep.refl _ W).alloc (.cells #[.int .u8 (c.toNat:Int)] 5 (0,0)))
 obtain ⟨B,hB,hl,he⟩:=h2.ex
 obtain ⟨i0,hi0,hz0,hz1,hz2⟩:=i8k
 refine wpList_append_own_at _ hgd sl x 53 ho 0 5 i0 (.int .u8 0) 1 1 Tryz.underlying53 hi0 hz0 hz1 hz2 rfl (by decide) v B.length (u8v B) hs (row_base hB.t fun g _ => Nat.zero_le _) ⟨W.heap.size,0,none⟩ 1 1 [.int .u8 (c.toNat:Int)] hx rfl (cell_one_new _ _ _) (by simp [Value.oneCell']) (by unfold maxLen; omega) (by omega) (Nat.zero_le _) ?_
 intro v2 w5 hrow hgr _ hblk
 exact hk _ _ (h2.grow (C:=[c]) hB hl he hrow (keep_grown hgr) (hblk.imp_right fun e => ⟨_,e,Nat.le_refl _⟩))
theorem pg_faults {w0 W:World} {F:Str} {ok:Bool} {v:Value} (fv:Value) (fs:List Fault) (h:Pg w0 [] F ok v W) (hfs:SlAt w0 fv fs.length (fsv fs)) (hok:∀ f ∈ fs,FaultOk f) (hn:fs.length ≤ 1073741824) (hb:(F ++ faultsS fs).length ≤ 1099511627776) :
  Calls Tryz.prog 35 #[v,fv] W fun e w' => ∃ v',e = .returned (.tuple #[v',.bool (fs.all okK)]) ∧ Pg w0 [] (F ++ faultsS fs) (ok && fs.all okK) v' w':=by
 obtain ⟨B,hB,hl,he⟩:=h.ex
 rw [List.length_append] at hb
 refine (rfaults_any fv fs hB hfs hok hn (by rw [List.length_append]; omega)).mono ?_
 rintro e w' ⟨v',C,rfl,hR,hC,hE⟩
 refine ⟨v',rfl,⟨B ++ C,hR,by rw [List.length_append,List.length_append]; omega,fun hx => ?_⟩,fun p hp => by simp at hp⟩
 rw [Bool.and_eq_true] at hx
 rw [he hx.1,hE hx.2]
theorem pg_called {w0 W:World} {F:Str} {ok:Bool} {v:Value} (c:MC) (h:Pg w0 [] F ok v W) (hd:SlAt w0 c.d c.c.data.length (u8v c.c.data)) (hl:IsI c.c.lsn) (hn:c.c.data.length ≤ 1073741824) (hb:(F ++ rcallT c.c).length ≤ 1099511627776) :
  Calls Tryz.prog 36 #[v,.agg #[.int .i64 c.c.kind,.int .i64 c.c.lsn,c.d]] W fun e w' => ∃ v',e = .returned (.tuple #[v',.bool (rightF c.c)]) ∧ Pg w0 [] (F ++ rcallT c.c) (ok && rightF c.c) v' w':=by
 obtain ⟨B,hB,hBl,he⟩:=h.ex
 obtain ⟨oD,cD,hv,-,hcs,-⟩:=hd
 obtain ⟨D,hD⟩:∃ D,c.c.data = D:=⟨_,rfl⟩
 obtain ⟨k,hk⟩:∃ k,c.c.kind = k:=⟨_,rfl⟩
 obtain ⟨l,hl2⟩:∃ l,c.c.lsn = l:=⟨_,rfl⟩
 have hT:=rcallT_is c.c
 have hR:rightF c.c = if k = 1 ∨ k = 2 then decide (l = 0) else if k = 3 ∨ k = 7 then decide (l = 0 ∧ D = []) else if k = 4 ∨ k = 5 ∨ k = 6 then decide (D = []) else false:=by unfold rightF; rw [hk,hl2,hD]
 rw [hk,hl2,hD] at hT
 rw [hD] at hv hcs hn
 rw [hl2] at hl
 have hlen:B.length + (rcallT c.c).length ≤ 1099511627776:=by rw [List.length_append] at hb; omega
 rw [hk,hl2,hv]
 have no:∀ (e:Ending) (w':World),rightF c.c = false → (e = .returned (.tuple #[v,.bool false]) ∧ Rb w0 w' v B) → ∃ v',e = .returned (.tuple #[v',.bool (rightF c.c)]) ∧ Pg w0 [] (F ++ rcallT c.c) (ok && rightF c.c) v' w':=by
  rintro e w' hr ⟨rfl,hb2⟩
  rw [hr]
  exact ⟨v,rfl,⟨B,hb2,by rw [List.length_append]; omega,fun h => by rw [Bool.and_false] at h; cases h⟩,fun p hp => by simp at hp⟩
 have yes:∀ (T:Str) (e:Ending) (w':World),rightF c.c = true → rcallT c.c = T → (∃ v',e = .returned (.tuple #[v',.bool true]) ∧ Rb w0 w' v' (B ++ T)) → ∃ v',e = .returned (.tuple #[v',.bool (rightF c.c)]) ∧ Pg w0 [] (F ++ rcallT c.c) (ok && rightF c.c) v' w':=by
  rintro T e w' hr rfl ⟨v',rfl,hb2⟩
  rw [hr]
  exact ⟨v',rfl,⟨B ++ rcallT c.c,hb2,by rw [List.length_append,List.length_append]; omega,fun h => by rw [Bool.and_true] at h; rw [he h]⟩,fun p hp => by simp at hp⟩
 by_cases hout:k < 1 ∨ 7 < k
 ·have hr:rightF c.c = false:=by rw [hR,if_neg (by omega),if_neg (by omega),if_neg (by omega)]
  exact (rcalled_no k l oD D.length cD hB hout).mono fun e w' hx => no e w' hr hx
 have hks:k = 1 ∨ k = 2 ∨ k = 3 ∨ k = 4 ∨ k = 5 ∨ k = 6 ∨ k = 7:=by omega
 have hDn:D.length = 0 → D = []:=fun h => List.length_eq_zero_iff.1 h
 clear hout hk hl2 hD hv
 rcases hks with rfl | rfl | rfl | rfl | rfl | rfl | rfl
 ·rw [if_pos (Or.inl rfl)] at hT hR
  by_cases h0:l = 0
  ·exact (rcalled_good1 l oD D.length cD hB hcs rfl hn h0 (by rw [← hT,List.length_append]; exact hlen)).mono fun e w' hx => yes _ e w' (by rw [hR,decide_eq_true h0]) hT hx
  ·exact (rcalled_bad1 l oD D.length cD hB h0).mono fun e w' hx => no e w' (by rw [hR,decide_eq_false h0]) hx
 ·rw [if_pos (Or.inr rfl)] at hT hR
  by_cases h0:l = 0
  ·exact (rcalled_good2 l oD D.length cD hB hcs rfl hn h0 (by rw [← hT,List.length_append]; exact hlen)).mono fun e w' hx => yes _ e w' (by rw [hR,decide_eq_true h0]) hT hx
  ·exact (rcalled_bad2 l oD D.length cD hB h0).mono fun e w' hx => no e w' (by rw [hR,decide_eq_false h0]) hx
 ·rw [if_neg (by decide),if_pos (Or.inl rfl)] at hT hR
  by_cases hD0:D.length = 0
  ·by_cases h0:l = 0
   ·exact (rcalled_good3 l oD D.length cD hB hD0 h0 (by rw [← hT,List.length_append]; exact hlen)).mono fun e w' hx => yes _ e w' (by rw [hR,decide_eq_true ⟨h0,hDn hD0⟩]) hT hx
   ·exact (rcalled_bad3l l oD D.length cD hB h0 hD0).mono fun e w' hx => no e w' (by rw [hR,decide_eq_false (fun h => h0 h.1)]) hx
  ·exact (rcalled_bad3 l oD D.length cD hB (by omega)).mono fun e w' hx => no e w' (by rw [hR,decide_eq_false (fun h => hD0 (by rw [h.2]; rfl))]) hx
 ·rw [if_neg (by decide),if_neg (by decide)] at hT hR
  rw [if_pos (Or.inl rfl)] at hR
  by_cases hD0:D.length = 0
  ·exact (rcalled_good4 l oD D.length cD hB hD0 hl (by rw [← hT,List.length_append]; exact hlen)).mono fun e w' hx => yes _ e w' (by rw [hR,decide_eq_true (hDn hD0)]) hT hx
  ·exact (rcalled_bad4 l oD D.length cD hB (by omega)).mono fun e w' hx => no e w' (by rw [hR,decide_eq_false (fun h => hD0 (by rw [h]; rfl))]) hx
 ·rw [if_neg (by decide),if_neg (by decide)] at hT hR
  rw [if_pos (Or.inr (Or.inl rfl))] at hR
  by_cases hD0:D.length = 0
  ·exact (rcalled_good5 l oD D.length cD hB hD0 hl (by rw [← hT,List.length_append]; exact hlen)).mono fun e w' hx => yes _ e w' (by rw [hR,decide_eq_true (hDn hD0)]) hT hx
  ·exact (rcalled_bad5 l oD D.length cD hB (by omega)).mono fun e w' hx => no e w' (by rw [hR,decide_eq_false (fun h => hD0 (by rw [h]; rfl))]) hx
 ·rw [if_neg (by decide),if_neg (by decide)] at hT hR
  rw [if_pos (Or.inr (Or.inr rfl))] at hR
  by_cases hD0:D.length = 0
  ·exact (rcalled_good6 l oD D.length cD hB hD0 hl (by rw [← hT,List.length_append]; exact hlen)).mono fun e w' hx => yes _ e w' (by rw [hR,decide_eq_true (hDn hD0)]) hT hx
  ·exact (rcalled_bad6 l oD D.length cD hB (by omega)).mono fun e w' hx => no e w' (by rw [hR,decide_eq_false (fun h => hD0 (by rw [h]; rfl))]) hx
 ·rw [if_neg (by decide),if_pos (Or.inr rfl)] at hT hR
  by_cases hD0:D.length = 0
  ·by_cases h0:l = 0
   ·exact (rcalled_good7 l oD D.length cD hB hD0 h0 (by rw [← hT,List.length_append]; exact hlen)).mono fun e w' hx => yes _ e w' (by rw [hR,decide_eq_true ⟨h0,hDn hD0⟩]) hT hx
   ·exact (rcalled_bad7l l oD D.length cD hB h0 hD0).mono fun e w' hx => no e w' (by rw [hR,decide_eq_false (fun h => h0 h.1)]) hx
  ·exact (rcalled_bad7 l oD D.length cD hB (by omega)).mono fun e w' hx => no e w' (by rw [hR,decide_eq_false (fun h => hD0 (by rw [h.2]; rfl))]) hx

structure RprOk (m:M):Prop where
 ok:PlayOk m.play
 len:m.fs.length ≤ 1099511627776 ∧ m.ts.length ≤ 1099511627776 ∧ m.ps.length ≤ 1099511627776 ∧ m.es.length ≤ 1099511627776
 dat:(∀ t ∈ m.ts,∀ c ∈ t.l,c.c.data.length ≤ 1073741824) ∧ ∀ e ∈ m.es,∀ k ∈ e.ks,k.k.junk.length ≤ 1073741824
 full:manyF m.play = false → (rfullS m.play).length ≤ 1099511627776
theorem rtext_s (u:Nat) (N0:Nat) (w:World) (hE:Ev N0 w) (hu:u < 18446744073709551616) :
  Calls Tryz.prog 34 #[.float .f64 u] w fun e w' => e = .returned (.string (strB (txtS u))) ∧ Keep (fun _ => False) w w':=by
 refine (text3_any u w hu (tb_up hE.tb)).mono ?_
 rintro e w' ⟨rfl,hk⟩
 exact ⟨by rw [txtS_b],Keep.of_below hk⟩
theorem rprint_many (m:M) (w:World) (h:Seen w m) (hP:RprOk m) (hm:manyF m.play = true) :
  Calls Tryz.prog 15 #[.agg m.val] w fun e w' => e = .returned (.tuple #[.string (strB []),.int .i64 9]) ∧ Keep (fun _ => False) w w':=by
 obtain ⟨q,hq⟩:∃ q,w.heap.size = q:=⟨_,rfl⟩
 have k0:Keep (fun _ => False) w (w.alloc (.cells m.val 40)):=(Keep.refl _ w).alloc _
 have hb0:(w.alloc (.cells m.val 40)).heap[q]? = some (.cells m.val 40 (0,0)):=by rw [← hq]; exact blk_new _ _
 have HMA:=Lib.hid (rmany_any m _ (h.kept k0) hP.len)
 obtain ⟨W0,hW0⟩:∃ W0,w.alloc (.cells m.val 40) = W0:=⟨_,rfl⟩
 rw [hW0] at k0 hb0 HMA
 rw [hm] at HMA
 have HB:=Lib.hid (And.intro k0 hb0)
 have HNow:=Lib.hid (Keep.refl (fun _ => False) W0)
 have hs:=M.val_size m
 clear h hP k0 hb0 hm
 generalize hcs:m.val = cs at *
 clear hcs
 go_enter Tryz.func15,Tryz.ntmps15
 go_wp2_with (first
  | (refine load_guard (.tmp 1) 40 (by rfl) ?_; go_must (refine load_play rfl (.tmp 1) rfl q rfl cs hs (HNow.out.same HB.out.2 id) ?_))
  | (go_at_call 32; refine HMA.out.mono ?_; rintro e w' ⟨rfl,kx⟩; have HNow:=Lib.hid kx; clear kx))
 go_ret2
 exact ⟨rfl,HB.out.1.trans HNow.out⟩
theorem run_append_full {P:Program} (w:World) (t u ty e:TypeId) (i:TypeInfo) (ht:P.underlying t = some (.slice e)) (hu:P.underlying u = some .string) (hi:P.info? e = some i) (hz:i.zero = some (.int .u8 0)) (hsize:i.size = 1) (hby:i.bytes = 1)
  (g n cap:Nat) (xs:List Value) (hx:xs.length = n) (holds:∀ j u,xs[j]? = some u → w.cell? ((⟨g,0,none⟩:Addr).add j) = some u) (s:Str) (hg:cap < n + s.length) (hn:n + s.length ≤ 1099511627776) (hcap:cap ≤ 1099511627776) :
  ∃ v' w',(Builtin.append_ #[t,u] ty #[.slice (some ⟨g,0,none⟩) n cap,.string (strB s)]).run P w = .ok v' w' ∧ w'.ownsRow w.heap.size e 1 v' (n + s.length) (xs ++ u8v s) ∧ Keep (fun _ => False) w w':=by
 have hs:(strB s).size = s.length:=strB_size s
 have h63:n + (strB s).size ≤ maxLen:=by rw [hs]; unfold maxLen; omega
 have hr:=Lib.run_append_grow_string (P:=P) w t u ty e i (.int .u8 0) ht hu hi hz ⟨g,0,none⟩ n cap xs (by rw [hsize]; simpa using hx) holds (strB s) (by omega) (by rw [hs]; omega) (by rw [hby]; exact growslice_fits (by omega) (by omega))
 refine ⟨_,_,hr,?_,((Keep.refl (fun _ => False) w).drew).alloc _⟩
 have hlen:(xs ++ u8v s).length = (n + s.length) * 1:=by rw [List.length_append,hx,u8v_len,Nat.mul_one]
 rw [strCells_u8v,← hs]
 have hge:=grownCap_ge w (n + (strB s).size) cap e
 have hcm:grownCap w (n + (strB s).size) cap e ≤ maxLen:=grownCap_le_maxLen w (n + (strB s).size) cap e h63
 refine ⟨by rw [hlen,hs],.inr ⟨w.heap.size,_,_,rfl,Nat.le_refl _,heap_alloc_new w.drew _,hge,hcm,?_,?_⟩⟩
 ·have hz1:(Value.int IntKind.u8 0).cells.size = 1:=rfl
  simp only [Array.size_append,List.size_toArray,size_zeroCells,hz1,hx,u8v_len]
  omega
 ·simp only [Array.toList_append,List.append_assoc]
  rw [← List.append_assoc,hs,← hlen]
  exact List.take_left
theorem wpList_put0 {w0 W:World} (g n cap:Nat) (B:Str) (hk:Keep (fun _ => False) w0 W) (hB:B.length = n) (holds:∀ j u,(u8v B)[j]? = some u → W.cell? ((⟨g,0,none⟩:Addr).add j) = some u) (s:Str) (hg:cap < n + s.length) (hcap:cap ≤ 1099511627776) {ops:Array Oper} {rest:List Oper} {o:Oper} {a:Act} {Q:Exit → Act → World → Prop} (hgd:o.guard = none) (sl x:Operand)
  (ho:o.op = .call { callee:=.builtin .append,args:=#[sl,x],argTypes:=#[53,9] }) (hs:a.eval sl = .slice (some ⟨g,0,none⟩) n cap) (hx:a.eval x = .string (strB s)) (hn:n + s.length ≤ 1099511627776)
  (h:∀ v' W',Pg w0 [] (B ++ s) true v' W' → wpList Tryz.prog ops Q rest (a.put o.dst v') W'):wpList Tryz.prog ops Q (o :: rest) a W:=by
 obtain ⟨i0,hi0,hz0,hz1,hz2⟩:=i8k
 refine wpList_plain hgd fun K hK => ?_
 obtain ⟨v',w',hr,h2,h3⟩:=run_append_full (P:=Tryz.prog) W 53 9 o.type 5 i0 Tryz.underlying53 Tryz.underlying9 hi0 hz0 hz1 hz2 g n cap (u8v B) (by rw [u8v_len,hB]) holds s hg hn hcap
 unfold Oper.wp execOp
 simp only [ho,resolve,invoke,builtin,Sem.run_bind,Sem.run_pure,Result.andThen_ok,List.map_toArray,List.map_cons,List.map_nil,hs,hx,hr]
 refine hK _ _ (h v' w' ⟨⟨B ++ s,⟨hk.trans h3,?_⟩,Nat.le_refl _,fun _ => rfl⟩,fun p hp => by simp at hp⟩)
 rw [List.length_append,hB,u8v_app]
 exact row_base h2 fun g' hg' => Nat.le_trans hk.size (rb_from h2 hg')
def pkS (l:List Int) (k:Nat):Str:=if k = 0 then [] else ([112,105,99,107,115] ++ (l.take k).flatMap (fun x => 32 :: decS x)) ++ (if k = l.length then [10] else [])
theorem pkS_full (l:List Int):pkS l l.length = picksS l:=by
 unfold pkS picksS
 by_cases h:l = []
 ·rw [if_pos h,if_pos (by rw [h]; rfl)]
 ·rw [if_neg h,if_neg (fun e => h (List.length_eq_zero_iff.1 e)),if_pos rfl,List.take_of_length_le (Nat.le_refl _)]
  simp [putL,bod,List.flatMap_map]
theorem pkS_next (l:List Int) (k:Nat) (h:k < l.length):pkS l (k + 1) = pkS l k ++ (if k = 0 then [112,105,99,107,115] else []) ++ (32 :: decS (l.getD k 0)) ++ (if k + 1 = l.length then [10] else []):=by
 have e:l.take (k + 1) = l.take k ++ [l.getD k 0]:=by rw [List.take_add_one,List.getD_eq_getElem?_getD,List.getElem?_eq_getElem h]; rfl
 unfold pkS
 rw [if_neg (Nat.succ_ne_zero k),e,List.flatMap_append]
 by_cases h0:k = 0
 ·rw [if_pos h0,if_pos h0,h0]
  simp
 ·rw [if_neg h0,if_neg h0,if_neg (Nat.ne_of_lt h)]
  simp
theorem pkS_le (l:List Int) (k:Nat) (h:k ≤ l.length):(pkS l k).length ≤ (picksS l).length:=by
 rw [← pkS_full]
 obtain ⟨d,hd⟩:∃ d,l.length = k + d:=⟨l.length - k,by omega⟩
 rw [hd]
 have key:∀ d,k + d ≤ l.length → (pkS l k).length ≤ (pkS l (k + d)).length:=by
  intro d
  induction d with
  | zero => intro _; exact Nat.le_refl _
  | succ d ih =>
   intro h2
   refine Nat.le_trans (ih (by omega)) ?_
   rw [show k + (d + 1) = k + d + 1 from rfl,pkS_next l (k + d) (by omega),List.append_assoc,List.append_assoc,List.length_append]
   omega
 exact key d (by omega)
end Sc
end Go.Proofs.YtkkecpamnnojoaaGreatDoor
