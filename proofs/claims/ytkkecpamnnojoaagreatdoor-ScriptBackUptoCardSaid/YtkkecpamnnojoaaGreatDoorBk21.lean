/- A part of the proof of ScriptBack: nothing is assumed. By an AI agent. -/
import Derived.Test.YtkkecpamnnojoaaGreatDoorBk20
import Derived.Lib.ItoaLen
namespace Go.Proofs.YtkkecpamnnojoaaGreatDoor
open Go.ChangeShapes Go.WideShapes Go.ChangeAt Go.RowKit
set_option linter.unusedVariables false
namespace Sc

def faultW (f : Fault) : List Str := [[102, 97, 117, 108, 116], decS f.at_, faultWord f.kind, decS f.part]
def callW (c : Call) : List Str := if c.kind = 1 ∨ c.kind = 2 then [callWord c.kind, pairsS c.data] else if c.kind = 3 ∨ c.kind = 7 then [callWord c.kind] else [callWord c.kind, decS c.lsn]
def taskW (l : List Call) : List (List Str) := [[116, 97, 115, 107]] :: l.map callW
def picksW (l : List Int) : List (List Str) := if l = [] then [] else [[112, 105, 99, 107, 115] :: l.map decS]
def endW (r : Reopen) : List (List Str) := ([101, 110, 100] :: decS r.dir :: r.keeps.map keepT) :: r.faults.map faultW
def playW (p : Play) : List Str := [[112, 108, 97, 121], decS p.disk, decS p.segMax, decS p.base, decS p.qcap, decS p.qbytes, decS p.pmost, decS p.pbytes, txtS p.linger, txtS p.alpha]
def mostW (p : Play) : List Str := [[109, 111, 115, 116], decS p.most]
def allW (p : Play) : List (List Str) := [playW p, mostW p] ++ p.faults.map faultW ++ p.tasks.flatMap taskW ++ picksW p.picks ++ p.ends.flatMap endW
theorem faults_w (l : List Fault) : (l.map faultW).flatMap putL = faultsS l := by
 unfold faultsS
 rw [List.flatMap_map]
 rfl
theorem call_w {c : Call} (h : c.data.length ≤ 65536) : callT c = putL (callW c) := by
 unfold callT callW
 split
 ·rw [if_neg (by omega)]
 ·split <;> rfl
theorem task_w {l : List Call} (h : ∀ c ∈ l, c.data.length ≤ 65536) : (taskW l).flatMap putL = taskS l := by
 unfold taskW taskS
 rw [List.flatMap_cons, List.flatMap_map]
 congr 1
 induction l with
 | nil => rfl
 | cons c l ih =>
  rw [List.flatMap_cons, List.flatMap_cons, ih fun x hx => h x (List.mem_cons_of_mem _ hx), call_w (h c (by simp))]
theorem end_w (r : Reopen) : (endW r).flatMap putL = endT r := by
 unfold endW endT
 rw [List.flatMap_cons, faults_w]
theorem picks_w (l : List Int) : (picksW l).flatMap putL = picksS l := by
 unfold picksW picksS
 split
 ·rfl
 ·simp
theorem all_w {p : Play} (h : ∀ l ∈ p.tasks, ∀ c ∈ l, c.data.length ≤ 65536) : (allW p).flatMap putL = fullS p := by
 unfold allW fullS
 simp only [List.flatMap_append, faults_w, picks_w]
 have e1 : (p.tasks.flatMap taskW).flatMap putL = p.tasks.flatMap taskS := by
  rw [List.flatMap_assoc]
  have : ∀ L : List (List Call), (∀ l ∈ L, ∀ c ∈ l, c.data.length ≤ 65536) → L.flatMap (fun x => (taskW x).flatMap putL) = L.flatMap taskS := by
   intro L hL
   induction L with
   | nil => rfl
   | cons x L ih => rw [List.flatMap_cons, List.flatMap_cons, ih fun y hy => hL y (List.mem_cons_of_mem _ hy), task_w (hL x (by simp))]
  exact this p.tasks h
 have e2 : (p.ends.flatMap endW).flatMap putL = p.ends.flatMap endT := by
  rw [List.flatMap_assoc]
  congr 1
  funext r
  exact end_w r
 rw [e1, e2]
 unfold headS
 simp only [List.flatMap_cons, List.flatMap_nil, List.append_nil, playW, mostW]
structure Pt (p : Play) : Prop where
 ok : PlayOk p
 faults : p.faults.length ≤ 64 ∧ ∀ f ∈ p.faults, 1 ≤ f.kind ∧ f.kind ≤ 4
 tasks : p.tasks.length ≤ 16 ∧ ∀ l ∈ p.tasks, l.length ≤ 256 ∧ ∀ c ∈ l, rightF c = true
 picks : p.picks.length ≤ 65536
 ends : p.ends.length ≤ 16 ∧ ∀ r ∈ p.ends, r.faults.length ≤ 64 ∧ r.keeps.length ≤ 256 ∧ ∀ f ∈ r.faults, 1 ≤ f.kind ∧ f.kind ≤ 4
theorem Pt.many {p : Play} (h : Pt p) : manyF p = false := by
 unfold manyF
 rw [Bool.or_eq_false_iff, Bool.or_eq_false_iff]
 refine ⟨⟨?_, ?_⟩, ?_⟩
 ·rw [decide_eq_false_iff_not]
  have := h.faults.1
  have := h.tasks.1
  have := h.picks
  have := h.ends.1
  omega
 ·rw [List.any_eq_false]
  intro l hl
  have := (h.tasks.2 l hl).1
  simp; omega
 ·rw [List.any_eq_false]
  intro r hr
  have := h.ends.2 r hr
  simp; omega
theorem Pt.known {p : Play} (h : Pt p) : knownF p = true := by
 unfold knownF
 rw [Bool.and_eq_true, List.all_eq_true, List.all_eq_true]
 constructor
 ·intro f hf
  rw [decide_eq_true_eq]
  rcases List.mem_append.1 hf with hf | hf
  ·exact fault_range.2 (h.faults.2 f hf)
  ·obtain ⟨r, hr, hf⟩ := List.mem_flatMap.1 hf
   exact fault_range.2 ((h.ends.2 r hr).2.2 f hf)
 ·intro l hl
  rw [List.all_eq_true]
  exact (h.tasks.2 l hl).2
theorem Pt.of {p : Play} (ok : PlayOk p) (hm : manyF p = false) (hk : knownF p = true) : Pt p := by
 unfold manyF at hm
 rw [Bool.or_eq_false_iff, Bool.or_eq_false_iff, decide_eq_false_iff_not, List.any_eq_false, List.any_eq_false] at hm
 unfold knownF at hk
 rw [Bool.and_eq_true, List.all_eq_true, List.all_eq_true] at hk
 obtain ⟨⟨m1, m2⟩, m3⟩ := hm
 obtain ⟨k1, k2⟩ := hk
 refine ⟨ok, ⟨by omega, fun f hf => fault_range.1 (by simpa using k1 f (List.mem_append_left _ hf))⟩, ⟨by omega, fun l hl => ⟨by have := m2 l hl; simp at this; omega, ?_⟩⟩, by omega, by omega, fun r hr => ?_⟩
 ·have := k2 l hl
  rw [List.all_eq_true] at this
  exact this
 ·have h1 := m3 r hr
  simp at h1
  exact ⟨by omega, by omega, fun f hf => fault_range.1 (by simpa using k1 f (List.mem_append_right _ (List.mem_flatMap.2 ⟨r, hr, hf⟩)))⟩
def canP (p : Play) : Play := { p with linger := canW p.linger, alpha := canW p.alpha }

theorem right_kind {c : Call} (h : rightF c = true) : 1 ≤ c.kind ∧ c.kind ≤ 7 := by
 unfold rightF at h
 repeat' split at h
 all_goals first | omega | cases h
theorem gw_fault {f : Fault} (hk : 1 ≤ f.kind ∧ f.kind ≤ 4) : ∀ x ∈ faultW f, gw x = true := by
 intro x hx
 unfold faultW at hx
 simp at hx
 rcases hx with rfl | rfl | rfl | rfl
 ·decide
 ·exact decS_gw _
 ·exact (faultWord_gw hk).1
 ·exact decS_gw _
theorem gw_call {c : Call} (h : rightF c = true) : ∀ x ∈ callW c, gw x = true := by
 have hk := callWord_gw (right_kind h)
 intro x hx
 unfold callW at hx
 split at hx
 ·simp at hx
  rcases hx with rfl | rfl
  ·exact hk.1
  ·exact pairsS_gw _
 ·split at hx
  ·simp at hx
   subst hx
   exact hk.1
  ·simp at hx
   rcases hx with rfl | rfl
   ·exact hk.1
   ·exact decS_gw _
theorem step_fault {σ : PS} {f : Fault} (hk : 1 ≤ f.kind ∧ f.kind ≤ 4) (hok : FaultOk f) (hst : σ.st = 2 ∨ σ.st = 5) (hf : (armed σ.p).length < 64) : stepF σ [102, 97, 117, 108, 116] [decS f.at_, faultWord f.kind, decS f.part] = .ok ⟨arm σ.p f, σ.st⟩ := by
 have hn : nxt σ.st 3 = σ.st := by rcases hst with h | h <;> rw [h] <;> decide
 have h := step_is (σ := σ) (w := [102, 97, 117, 108, 116]) (ws := [decS f.at_, faultWord f.kind, decS f.part]) (p := arm σ.p f) 3 (by decide) (by decide) (by rw [hn]; omega) (fun h => absurd h (by decide)) (by unfold full; rw [if_pos rfl, decide_eq_false_iff_not]; omega) (by simp [counts]) (by
  unfold takeF
  rw [if_neg (by decide), if_neg (by decide), if_pos rfl]
  unfold faultF
  have e1 : numOf ([decS f.at_, faultWord f.kind, decS f.part].getD 0 []) = some f.at_ := num_dec hok.1
  have e2 : faultKind ([decS f.at_, faultWord f.kind, decS f.part].getD 1 []) = f.kind := (faultWord_gw hk).2
  have e3 : numOf ([decS f.at_, faultWord f.kind, decS f.part].getD 2 []) = some f.part := num_dec hok.2
  rw [e1, e2, e3]
  simp only []
  rw [if_neg (by omega)])
 rw [h, hn]
theorem run_cons {σ σ' : PS} {w : Str} {ws : List Str} {L : List (List Str)} (h : stepF σ w ws = .ok σ') : runL σ ((w :: ws) :: L) = runL σ' L := by rw [runL, h]
theorem run_faults : ∀ (fs : List Fault) (p : Play), p.ends = [] → p.faults.length + fs.length ≤ 64 → (∀ f ∈ fs, (1 ≤ f.kind ∧ f.kind ≤ 4) ∧ FaultOk f) → runL ⟨p, 2⟩ (fs.map faultW) = .ok ⟨{ p with faults := p.faults ++ fs }, 2⟩
 | [], p, _, _, _ => by rw [List.map_nil, runL, List.append_nil]
 | f :: fs, p, he, hn, hf => by
  obtain ⟨h1, h2⟩ := hf f (by simp)
  rw [List.length_cons] at hn
  have ha : armed p = p.faults := by unfold armed; rw [he]; rfl
  have ha2 : arm p f = { p with faults := p.faults ++ [f] } := by unfold arm; rw [he]; rfl
  rw [List.map_cons]
  unfold faultW
  rw [run_cons (step_fault (σ := ⟨p, 2⟩) h1 h2 (Or.inl rfl) (by show (armed p).length < 64; rw [ha]; omega))]
  show runL ⟨arm p f, 2⟩ _ = _
  rw [ha2]
  have ih := run_faults fs { p with faults := p.faults ++ [f] } he (by simp; omega) fun x hx => hf x (List.mem_cons_of_mem _ hx)
  unfold faultW at ih
  rw [ih]
  simp
theorem run_efaults : ∀ (fs : List Fault) (p : Play) (es : List Reopen) (r : Reopen), p.ends = es ++ [r] → r.faults.length + fs.length ≤ 64 → (∀ f ∈ fs, (1 ≤ f.kind ∧ f.kind ≤ 4) ∧ FaultOk f) → runL ⟨p, 5⟩ (fs.map faultW) = .ok ⟨{ p with ends := es ++ [{ r with faults := r.faults ++ fs }] }, 5⟩
 | [], p, es, r, he, _, _ => by rw [List.map_nil, runL, List.append_nil, ← he]
 | f :: fs, p, es, r, he, hn, hf => by
  obtain ⟨h1, h2⟩ := hf f (by simp)
  rw [List.length_cons] at hn
  have ha : armed p = r.faults := by unfold armed; rw [he]; simp
  have ha2 : arm p f = { p with ends := es ++ [{ r with faults := r.faults ++ [f] }] } := by unfold arm; rw [he]; simp
  rw [List.map_cons]
  unfold faultW
  rw [run_cons (step_fault (σ := ⟨p, 5⟩) h1 h2 (Or.inr rfl) (by show (armed p).length < 64; rw [ha]; omega))]
  show runL ⟨arm p f, 5⟩ _ = _
  rw [ha2]
  have ih := run_efaults fs { p with ends := es ++ [{ r with faults := r.faults ++ [f] }] } es { r with faults := r.faults ++ [f] } rfl (by simp; omega) fun x hx => hf x (List.mem_cons_of_mem _ hx)
  unfold faultW at ih
  rw [ih]
  simp
theorem callTo_is {p : Play} {ts : List (List Call)} {l : List Call} (h : p.tasks = ts ++ [l]) (c : Call) : callTo p c = { p with tasks := ts ++ [l ++ [c]] } := by
 unfold callTo
 rw [h]
 simp [List.getLastD_eq_getLast?]
theorem step_call {p : Play} {ts : List (List Call)} {l : List Call} (h : p.tasks = ts ++ [l]) (hl : l.length < 256) {c : Call} (hr : rightF c = true) (hi : IsI c.lsn) {w : Str} {ws : List Str} (hw : callW c = w :: ws) : stepF ⟨p, 3⟩ w ws = .ok ⟨{ p with tasks := ts ++ [l ++ [c]] }, 3⟩ := by
 obtain ⟨h1, h2, h3⟩ := callWord_gw (right_kind hr)
 have hfull : ∀ n, full p 5 n = false := fun n => by
  unfold full
  rw [if_neg (by decide), if_neg (by decide), if_pos rfl, decide_eq_false_iff_not, h]
  simp [List.getLastD_eq_getLast?]
  exact hl
 have hne : p.tasks ≠ [] := by rw [h]; simp
 have hn : nxt 3 5 = 3 := by decide
 have key : ∀ ws, counts 5 (callWord c.kind) ws.length = true → callF p (callWord c.kind) ws = .ok (callTo p c) → stepF ⟨p, 3⟩ (callWord c.kind) ws = .ok ⟨{ p with tasks := ts ++ [l ++ [c]] }, 3⟩ := by
  intro ws hc ht
  have := step_is (σ := ⟨p, 3⟩) (w := callWord c.kind) (ws := ws) (p := callTo p c) 5 h2 (by decide) (by show nxt 3 5 ≠ 6; rw [hn]; decide) (fun _ => hne) (hfull _) hc (by
   unfold takeF
   rw [if_neg (by decide), if_neg (by decide), if_neg (by decide), if_neg (by decide), if_pos rfl]
   exact ht)
  rw [this, callTo_is h]
  rfl
 have hct : ∀ n, counts 5 (callWord c.kind) n = if c.kind = 3 ∨ c.kind = 7 then decide (n = 0) else decide (n = 1) := fun n => by
  unfold counts
  rw [if_neg (by decide), if_neg (by decide), if_neg (by decide), if_neg (by decide), if_pos rfl, h3]
 have hcf : ∀ ws, callF p (callWord c.kind) ws = (if c.kind = 1 ∨ c.kind = 2 then match hexOf (ws.getD 0 []) true with
  | none => .error 64
  | some b => .ok (callTo p ⟨c.kind, 0, b⟩)
 else if c.kind = 4 ∨ c.kind = 5 ∨ c.kind = 6 then match numOf (ws.getD 0 []) with
  | none => .error 66
  | some n => .ok (callTo p ⟨c.kind, n, []⟩)
 else .ok (callTo p ⟨c.kind, 0, []⟩)) := fun ws => by
  unfold callF
  rw [h3]
  all_goals rfl
 obtain ⟨kind, lsn, data⟩ := c
 simp only [] at hcf hct h1 h2 h3 hi key
 unfold callW at hw
 simp only [] at hw
 unfold rightF at hr
 simp only [] at hr
 by_cases k1 : kind = 1 ∨ kind = 2
 ·rw [if_pos k1] at hw hr
  cases hw
  refine key _ ?_ ?_
  ·rw [hct, if_neg (by omega)]; rfl
  ·rw [hcf, if_pos k1]
   have e : hexOf ([pairsS data].getD 0 []) true = some data := hex_back data true (Or.inr rfl)
   rw [e]
   have : lsn = 0 := by simpa using hr
   rw [this]
 ·rw [if_neg k1] at hw hr
  by_cases k2 : kind = 3 ∨ kind = 7
  ·rw [if_pos k2] at hw hr
   cases hw
   refine key _ ?_ ?_
   ·rw [hct, if_pos k2]; rfl
   ·rw [hcf, if_neg k1, if_neg (by omega)]
    have : lsn = 0 ∧ data = [] := by simpa using hr
    rw [this.1, this.2]
  ·rw [if_neg k2] at hw hr
   cases hw
   have k3 : kind = 4 ∨ kind = 5 ∨ kind = 6 := by
    apply Classical.byContradiction
    intro k3
    rw [if_neg k3] at hr
    cases hr
   rw [if_pos k3] at hr
   refine key _ ?_ ?_
   ·rw [hct, if_neg k2]; rfl
   ·rw [hcf, if_neg k1, if_pos k3]
    have e : numOf ([decS lsn].getD 0 []) = some lsn := num_dec hi
    rw [e]
    have : data = [] := by simpa using hr
    rw [this]
theorem callW_cons (c : Call) : ∃ w ws, callW c = w :: ws := by
 unfold callW
 split
 ·exact ⟨_, _, rfl⟩
 ·split <;> exact ⟨_, _, rfl⟩
theorem run_calls : ∀ (cs : List Call) (p : Play) (ts : List (List Call)) (l : List Call), p.tasks = ts ++ [l] → l.length + cs.length ≤ 256 → (∀ c ∈ cs, rightF c = true ∧ IsI c.lsn) → runL ⟨p, 3⟩ (cs.map callW) = .ok ⟨{ p with tasks := ts ++ [l ++ cs] }, 3⟩
 | [], p, ts, l, h, _, _ => by rw [List.map_nil, runL, List.append_nil, ← h]
 | c :: cs, p, ts, l, h, hn, hc => by
  obtain ⟨h1, h2⟩ := hc c (by simp)
  rw [List.length_cons] at hn
  obtain ⟨w, ws, hw⟩ := callW_cons c
  rw [List.map_cons, hw, run_cons (step_call h (by omega) h1 h2 hw)]
  rw [run_calls cs { p with tasks := ts ++ [l ++ [c]] } ts (l ++ [c]) rfl (by simp; omega) fun x hx => hc x (List.mem_cons_of_mem _ hx)]
  simp
theorem run_task {p : Play} {st : Nat} (hst : st = 2 ∨ st = 3) (hp : p.tasks.length < 16) {l : List Call} (hl : l.length ≤ 256) (hc : ∀ c ∈ l, rightF c = true ∧ IsI c.lsn) : runL ⟨p, st⟩ (taskW l) = .ok ⟨{ p with tasks := p.tasks ++ [l] }, 3⟩ := by
 unfold taskW
 have hn : nxt st 4 = 3 := by rcases hst with h | h <;> rw [h] <;> decide
 have h := step_is (σ := ⟨p, st⟩) (w := [116, 97, 115, 107]) (ws := []) (p := { p with tasks := p.tasks ++ [[]] }) 4 (by decide) (by decide) (by show nxt st 4 ≠ 6; rw [hn]; decide) (fun h => absurd h (by decide)) (by unfold full; rw [if_neg (by decide), if_pos rfl, decide_eq_false_iff_not]; show ¬ 16 ≤ p.tasks.length; omega) (by simp [counts]) (by
  unfold takeF
  rw [if_neg (by decide), if_neg (by decide), if_neg (by decide), if_pos rfl])
 rw [run_cons h]
 show runL ⟨_, nxt st 4⟩ _ = _
 rw [hn, run_calls l { p with tasks := p.tasks ++ [[]] } p.tasks [] rfl (by simpa using hl) hc]
 simp
theorem run_tasks : ∀ (ts : List (List Call)) (p : Play) (st : Nat), (st = 2 ∨ st = 3) → p.tasks.length + ts.length ≤ 16 → (∀ l ∈ ts, l.length ≤ 256 ∧ ∀ c ∈ l, rightF c = true ∧ IsI c.lsn) → ∃ st', (st' = 2 ∨ st' = 3) ∧ runL ⟨p, st⟩ (ts.flatMap taskW) = .ok ⟨{ p with tasks := p.tasks ++ ts }, st'⟩
 | [], p, st, hst, _, _ => ⟨st, hst, by rw [List.flatMap_nil, runL, List.append_nil]⟩
 | l :: ts, p, st, hst, hn, h => by
  obtain ⟨h1, h2⟩ := h l (by simp)
  rw [List.length_cons] at hn
  obtain ⟨st', h3, h4⟩ := run_tasks ts { p with tasks := p.tasks ++ [l] } 3 (Or.inr rfl) (by simp; omega) fun x hx => h x (List.mem_cons_of_mem _ hx)
  refine ⟨st', h3, ?_⟩
  rw [List.flatMap_cons, runL_app _ _ _ _ (run_task hst (by omega) h1 h2), h4]
  simp
theorem nums_back : ∀ l : List Int, (∀ n ∈ l, IsI n) → nums (l.map decS) = some l
 | [], _ => rfl
 | n :: l, h => by rw [List.map_cons, nums, num_dec (h n (by simp)), nums_back l fun x hx => h x (List.mem_cons_of_mem _ hx)]; rfl
theorem run_picks {p : Play} {st : Nat} (hst : st = 2 ∨ st = 3) {l : List Int} (hp : p.picks = []) (hl : l.length ≤ 65536) (h : ∀ n ∈ l, IsI n) : ∃ st', (st' = 2 ∨ st' = 3 ∨ st' = 4) ∧ runL ⟨p, st⟩ (picksW l) = .ok ⟨{ p with picks := l }, st'⟩ := by
 unfold picksW
 by_cases h0 : l = []
 ·rw [if_pos h0]
  refine ⟨st, by omega, ?_⟩
  rw [runL, h0, ← hp]
 ·rw [if_neg h0]
  have hn : nxt st 6 = 4 := by rcases hst with h | h <;> rw [h] <;> decide
  have hpos : 0 < l.length := List.length_pos_iff.2 h0
  have h := step_is (σ := ⟨p, st⟩) (w := [112, 105, 99, 107, 115]) (ws := l.map decS) (p := { p with picks := p.picks ++ l }) 6 (by decide) (by decide) (by show nxt st 6 ≠ 6; rw [hn]; decide) (fun h => absurd h (by decide)) (by
    unfold full
    rw [if_neg (by decide), if_neg (by decide), if_neg (by decide), if_pos rfl, decide_eq_false_iff_not, List.length_map]
    show ¬ 65536 < p.picks.length + l.length
    rw [hp]; simp; omega) (by
    unfold counts
    rw [if_neg (by decide), if_neg (by decide), if_neg (by decide), if_neg (by decide), if_neg (by decide), decide_eq_true_eq, List.length_map]
    omega) (by
    unfold takeF
    rw [if_neg (by decide), if_neg (by decide), if_neg (by decide), if_neg (by decide), if_neg (by decide), if_pos rfl, nums_back l h])
  rw [run_cons h]
  refine ⟨4, by omega, ?_⟩
  show runL ⟨_, nxt st 6⟩ [] = _
  rw [hn, hp]
  rfl
theorem keeps_back : ∀ l : List Kp, (∀ k ∈ l, IsI k.n ∧ k.junk.length ≤ 65536) → keepsF (l.map keepT) = .ok l
 | [], _ => rfl
 | k :: l, h => by
  obtain ⟨h1, h2⟩ := h k (by simp)
  rw [List.map_cons, keepsF, keep_back k h1 h2]
  simp only []
  rw [keeps_back l fun x hx => h x (List.mem_cons_of_mem _ hx)]
theorem run_end {p : Play} {st : Nat} (hst : 2 ≤ st ∧ st ≤ 5) (hp : p.ends.length < 16) {r : Reopen} (hr : EndOk r) (h1 : r.faults.length ≤ 64) (h2 : r.keeps.length ≤ 256) (h3 : ∀ f ∈ r.faults, 1 ≤ f.kind ∧ f.kind ≤ 4) (h4 : ∀ k ∈ r.keeps, k.junk.length ≤ 65536) : runL ⟨p, st⟩ (endW r) = .ok ⟨{ p with ends := p.ends ++ [r] }, 5⟩ := by
 obtain ⟨dir, keeps, faults⟩ := r
 simp only [] at h1 h2 h3 h4
 unfold endW
 simp only []
 have hn : nxt st 7 = 5 := by
  have : st = 2 ∨ st = 3 ∨ st = 4 ∨ st = 5 := by omega
  rcases this with h | h | h | h <;> rw [h] <;> decide
 have h := step_is (σ := ⟨p, st⟩) (w := [101, 110, 100]) (ws := decS dir :: keeps.map keepT) (p := { p with ends := p.ends ++ [⟨dir, keeps, []⟩] }) 7 (by decide) (by decide) (by show nxt st 7 ≠ 6; rw [hn]; decide) (fun h => absurd h (by decide)) (by
   unfold full
   rw [if_neg (by decide), if_neg (by decide), if_neg (by decide), if_neg (by decide), if_pos rfl, List.length_cons, List.length_map]
   have e1 : decide (16 ≤ p.ends.length) = false := by rw [decide_eq_false_iff_not]; omega
   have e2 : decide (257 < keeps.length + 1) = false := by rw [decide_eq_false_iff_not]; omega
   show (decide (16 ≤ p.ends.length) || _) = false
   rw [e1, e2]; rfl) (by
   unfold counts
   rw [if_neg (by decide), if_neg (by decide), if_neg (by decide), if_neg (by decide), if_neg (by decide), decide_eq_true_eq, List.length_cons]
   omega) (by
   unfold takeF
   rw [if_neg (by decide), if_neg (by decide), if_neg (by decide), if_neg (by decide), if_neg (by decide), if_neg (by decide)]
   unfold endF
   have e1 : numOf ((decS dir :: keeps.map keepT).getD 0 []) = some dir := num_dec hr.1
   have e2 : (decS dir :: keeps.map keepT).drop 1 = keeps.map keepT := rfl
   rw [e1, e2, keeps_back keeps fun k hk => ⟨hr.2.1 k hk, h4 k hk⟩])
 rw [run_cons h]
 show runL ⟨_, nxt st 7⟩ _ = _
 rw [hn, run_efaults faults { p with ends := p.ends ++ [⟨dir, keeps, []⟩] } p.ends ⟨dir, keeps, []⟩ rfl (by simpa using h1) fun f hf => ⟨h3 f hf, hr.2.2 f hf⟩]
 rfl
theorem run_ends : ∀ (es : List Reopen) (p : Play) (st : Nat), (2 ≤ st ∧ st ≤ 5) → p.ends.length + es.length ≤ 16 → (∀ r ∈ es, EndOk r ∧ r.faults.length ≤ 64 ∧ r.keeps.length ≤ 256 ∧ (∀ f ∈ r.faults, 1 ≤ f.kind ∧ f.kind ≤ 4) ∧ ∀ k ∈ r.keeps, k.junk.length ≤ 65536) → ∃ st', (2 ≤ st' ∧ st' ≤ 5) ∧ runL ⟨p, st⟩ (es.flatMap endW) = .ok ⟨{ p with ends := p.ends ++ es }, st'⟩
 | [], p, st, hst, _, _ => ⟨st, hst, by rw [List.flatMap_nil, runL, List.append_nil]⟩
 | r :: es, p, st, hst, hn, h => by
  obtain ⟨h1, h2, h3, h4, h5⟩ := h r (by simp)
  rw [List.length_cons] at hn
  obtain ⟨st', h6, h7⟩ := run_ends es { p with ends := p.ends ++ [r] } 5 (by omega) (by simp; omega) fun x hx => h x (List.mem_cons_of_mem _ hx)
  refine ⟨st', h6, ?_⟩
  rw [List.flatMap_cons, runL_app _ _ _ _ (run_end hst (by omega) h1 h2 h3 h4 h5), h7]
  simp
theorem run_head {p : Play} (hok : PlayOk p) (hR : ∀ u, u < 18446744073709551616 → readF (txtS u) = (canW u, 0)) :
  runL ⟨play0, 0⟩ [playW p, mostW p] = .ok ⟨{ canP p with faults := [], tasks := [], picks := [], ends := [] }, 2⟩ := by
 obtain ⟨disk, segMax, base, qcap, qbytes, pmost, pbytes, linger, alpha, faults, tasks, picks, most, ends⟩ := p
 have k0 := hok.disk
 have k1 := hok.segMax
 have k2 := hok.base
 have k3 := hok.qcap
 have k4 := hok.qbytes
 have k5 := hok.pmost
 have k6 := hok.pbytes
 have k7 := hok.linger
 have k8 := hok.alpha
 have k9 := hok.most
 simp only [] at k0 k1 k2 k3 k4 k5 k6 k7 k8 k9
 unfold playW mostW
 simp only []
 have h := step_is (σ := ⟨play0, 0⟩) (w := [112, 108, 97, 121]) (ws := [decS disk, decS segMax, decS base, decS qcap, decS qbytes, decS pmost, decS pbytes, txtS linger, txtS alpha])
  (p := { play0 with disk := disk, segMax := segMax, base := base, qcap := qcap, qbytes := qbytes, pmost := pmost, pbytes := pbytes, linger := canW linger, alpha := canW alpha }) 1 (by decide) (by decide) (by decide) (fun h => absurd h (by decide)) (by simp [full]) (by simp [counts]) (by
   unfold takeF
   rw [if_pos rfl]
   unfold playF
   have e1 : nums ([decS disk, decS segMax, decS base, decS qcap, decS qbytes, decS pmost, decS pbytes, txtS linger, txtS alpha].take 7) = some [disk, segMax, base, qcap, qbytes, pmost, pbytes] := nums_back [disk, segMax, base, qcap, qbytes, pmost, pbytes] (by
    intro n hn
    simp at hn
    rcases hn with rfl | rfl | rfl | rfl | rfl | rfl | rfl <;> assumption)
   have e2 : readF ([decS disk, decS segMax, decS base, decS qcap, decS qbytes, decS pmost, decS pbytes, txtS linger, txtS alpha].getD 7 []) = (canW linger, 0) := hR _ k7
   have e3 : readF ([decS disk, decS segMax, decS base, decS qcap, decS qbytes, decS pmost, decS pbytes, txtS linger, txtS alpha].getD 8 []) = (canW alpha, 0) := hR _ k8
   rw [e1, e2, e3]
   rfl)
 rw [run_cons h]
 have h2 := step_is (σ := ⟨{ play0 with disk := disk, segMax := segMax, base := base, qcap := qcap, qbytes := qbytes, pmost := pmost, pbytes := pbytes, linger := canW linger, alpha := canW alpha }, 1⟩) (w := [109, 111, 115, 116]) (ws := [decS most])
  (p := { play0 with disk := disk, segMax := segMax, base := base, qcap := qcap, qbytes := qbytes, pmost := pmost, pbytes := pbytes, linger := canW linger, alpha := canW alpha, most := most }) 2 (by decide) (by decide) (by show nxt 1 2 ≠ 6; decide) (fun h => absurd h (by decide)) (by simp [full]) (by simp [counts]) (by
   unfold takeF
   rw [if_neg (by decide), if_pos rfl]
   have e1 : numOf ([decS most].getD 0 []) = some most := num_dec k9
   rw [e1])
 show runL ⟨_, 1⟩ _ = _
 rw [run_cons h2]
 rfl
theorem flat_le {α : Type} (f : α → Str) : ∀ (l : List α) (x : α), x ∈ l → (f x).length ≤ (l.flatMap f).length
 | [], x, h => by simp at h
 | y :: l, x, h => by
  rw [List.flatMap_cons, List.length_append]
  rcases List.mem_cons.1 h with rfl | h
  ·omega
  ·have := flat_le f l x h; omega
theorem bod_mem : ∀ (ws : List Str) (x : Str), x ∈ ws → x.length ≤ (bod ws).length
 | [], x, h => by simp at h
 | w :: ws, x, h => by
  unfold bod
  rw [List.length_append]
  rcases List.mem_cons.1 h with rfl | h
  ·omega
  ·have := flat_le (fun x => 32 :: x) ws x h
   simp only [List.length_cons] at this
   omega
theorem full_data {p : Play} (hn : (fullS p).length ≤ 65536) (hr : ∀ l ∈ p.tasks, ∀ c ∈ l, rightF c = true) : (∀ l ∈ p.tasks, ∀ c ∈ l, c.data.length ≤ 65536) ∧ ∀ r ∈ p.ends, ∀ k ∈ r.keeps, k.junk.length ≤ 65536 := by
 unfold fullS at hn
 simp only [List.length_append] at hn
 constructor
 ·intro l hl c hc
  have h1 := flat_le taskS p.tasks l hl
  unfold taskS at h1
  rw [List.length_append] at h1
  have h2 := flat_le callT l c hc
  have h3 : (callT c).length ≤ 65536 := by unfold taskS at hn; omega
  apply Classical.byContradiction
  intro h4
  have hk := hr l hl c hc
  unfold rightF at hk
  unfold callT at h3
  by_cases k1 : c.kind = 1 ∨ c.kind = 2
  ·rw [if_pos k1, if_pos (by omega)] at h3; omega
  ·rw [if_neg k1] at hk
   by_cases k2 : c.kind = 3 ∨ c.kind = 7
   ·rw [if_pos k2] at hk
    simp at hk
    rw [hk.2] at h4
    simp at h4
   ·rw [if_neg k2] at hk
    split at hk
    ·simp at hk
     rw [hk] at h4
     simp at h4
    ·cases hk
 ·intro r hr k hk
  have h1 := flat_le endT p.ends r hr
  unfold endT putL at h1
  simp only [List.length_append] at h1
  have h2 := bod_mem ([101, 110, 100] :: decS r.dir :: r.keeps.map keepT) (keepT k) (by simp; exact Or.inr (Or.inr ⟨k, hk, rfl⟩))
  have h3 : (keepT k).length ≤ 65536 := by unfold endT putL at hn; omega
  apply Classical.byContradiction
  intro h4
  have hj : k.junk ≠ [] := by intro e; rw [e] at h4; simp at h4
  unfold keepT at h3
  rw [if_neg hj, List.length_append, List.length_cons] at h3
  have h5 : k.junk.take 65536 ≠ [] := by
   intro e
   rcases List.take_eq_nil_iff.1 e with e | e
   ·omega
   ·exact hj e
  rw [pairsS_of h5, two_len, List.length_take] at h3
  omega
theorem back_parse {p : Play} (h : Pt p) (hn : (fullS p).length ≤ 65536) (hR : ∀ u, u < 18446744073709551616 → readF (txtS u) = (canW u, 0)) (hG : ∀ u, u < 18446744073709551616 → gw (txtS u) = true) : parseF (fullS p) = (canP p, 0, 0) := by
 obtain ⟨hd, hj⟩ := full_data hn fun l hl c hc => (h.tasks.2 l hl).2 c hc
 have hgood : ∀ ws ∈ allW p, ∀ x ∈ ws, gw x = true := by
  intro ws hws x hx
  unfold allW at hws
  simp only [List.mem_append] at hws
  rcases hws with (((hws | hws) | hws) | hws) | hws
  ·rcases List.mem_cons.1 hws with rfl | hws
   ·unfold playW at hx
    simp at hx
    rcases hx with rfl | rfl | rfl | rfl | rfl | rfl | rfl | rfl | rfl | rfl
    ·decide
    ·exact decS_gw _
    ·exact decS_gw _
    ·exact decS_gw _
    ·exact decS_gw _
    ·exact decS_gw _
    ·exact decS_gw _
    ·exact decS_gw _
    ·exact hG _ h.ok.linger
    ·exact hG _ h.ok.alpha
   ·obtain rfl : ws = mostW p := by simpa using hws
    unfold mostW at hx
    simp at hx
    rcases hx with rfl | rfl
    ·decide
    ·exact decS_gw _
  ·obtain ⟨f, hf, rfl⟩ := List.mem_map.1 hws
   exact gw_fault (h.faults.2 f hf) x hx
  ·obtain ⟨l, hl, hws⟩ := List.mem_flatMap.1 hws
   unfold taskW at hws
   rcases List.mem_cons.1 hws with rfl | hws
   ·obtain rfl : x = [116, 97, 115, 107] := by simpa using hx
    decide
   ·obtain ⟨c, hc, rfl⟩ := List.mem_map.1 hws
    exact gw_call ((h.tasks.2 l hl).2 c hc) x hx
  ·unfold picksW at hws
   split at hws
   ·simp at hws
   ·obtain rfl : ws = _ := by simpa using hws
    rcases List.mem_cons.1 hx with rfl | hx
    ·decide
    ·obtain ⟨n, -, rfl⟩ := List.mem_map.1 hx
     exact decS_gw _
  ·obtain ⟨r, hr, hws⟩ := List.mem_flatMap.1 hws
   unfold endW at hws
   rcases List.mem_cons.1 hws with rfl | hws
   ·rcases List.mem_cons.1 hx with rfl | hx
    ·decide
    ·rcases List.mem_cons.1 hx with rfl | hx
     ·exact decS_gw _
     ·obtain ⟨k, -, rfl⟩ := List.mem_map.1 hx
      exact keepT_gw _
   ·obtain ⟨f, hf, rfl⟩ := List.mem_map.1 hws
    exact gw_fault ((h.ends.2 r hr).2.2 f hf) x hx
 have hrun : ∃ st, 2 ≤ st ∧ runL ⟨play0, 0⟩ (allW p) = .ok ⟨canP p, st⟩ := by
  unfold allW
  have e1 := run_head h.ok hR
  have e2 := run_faults p.faults { canP p with faults := [], tasks := [], picks := [], ends := [] } rfl (by simpa using h.faults.1) fun f hf => ⟨h.faults.2 f hf, h.ok.faults f hf⟩
  obtain ⟨s1, hs1, e3⟩ := run_tasks p.tasks { canP p with tasks := [], picks := [], ends := [] } 2 (Or.inl rfl) (by simpa using h.tasks.1) fun l hl => ⟨(h.tasks.2 l hl).1, fun c hc => ⟨(h.tasks.2 l hl).2 c hc, h.ok.calls l hl c hc⟩⟩
  obtain ⟨s2, hs2, e4⟩ := run_picks (p := { canP p with picks := [], ends := [] }) hs1 (l := p.picks) rfl h.picks h.ok.picks
  obtain ⟨s3, hs3, e5⟩ := run_ends p.ends { canP p with ends := [] } s2 (by omega) (by simpa using h.ends.1) fun r hr => ⟨h.ok.ends r hr, (h.ends.2 r hr).1, (h.ends.2 r hr).2.1, (h.ends.2 r hr).2.2, hj r hr⟩
  refine ⟨s3, hs3.1, ?_⟩
  rw [List.append_assoc, List.append_assoc, List.append_assoc]
  exact (runL_app _ _ _ _ e1).trans ((runL_app _ _ _ _ e2).trans ((runL_app _ _ _ _ e3).trans ((runL_app _ _ _ _ e4).trans e5)))
 obtain ⟨st, hst, hr⟩ := hrun
 have := parse_run (allW p) hgood ⟨play0, 0⟩ ⟨canP p, st⟩ 0 hr
 rw [all_w hd] at this
 unfold parseF
 rw [if_neg (by omega), this]
 simp only []
 rw [if_neg (by omega)]

structure Sml (N : Nat) (p : Play) : Prop where
 data : ∀ l ∈ p.tasks, ∀ c ∈ l, c.data.length ≤ N
 junk : ∀ r ∈ p.ends, ∀ k ∈ r.keeps, k.junk.length ≤ N
structure Inv (p : Play) : Prop where
 pt : Pt p
 sm : Sml 65536 p
theorem inv0 : Inv play0 := by
 refine ⟨⟨⟨?_, ?_, ?_, ?_, ?_, ?_, ?_, by decide, by decide, ?_, ?_, ?_, ?_, ?_⟩, ?_, ?_, ?_, ?_⟩, ?_, ?_⟩ <;> simp [play0, IsI]
theorem pairs_len : ∀ (n : Nat) (s b : Str), s.length ≤ n → pairsOf s = some b → b.length ≤ s.length
 | _, [], b, _, h => by rw [pairsOf] at h; cases h; exact Nat.le_refl _
 | _, [_], b, _, h => by rw [pairsOf] at h; cases h
 | 0, x :: y :: s, b, hn, h => by simp at hn
 | n + 1, x :: y :: s, b, hn, h => by
  rw [pairsOf] at h
  split at h
  ·cases h
  ·cases hp : pairsOf s with
   | none => rw [hp] at h; cases h
   | some r =>
    rw [hp] at h
    cases h
    have := pairs_len n s r (by simp at hn; omega) hp
    simp
    omega
theorem hex_len {s b : Str} {d : Bool} (h : hexOf s d = some b) : b.length ≤ s.length := by
 unfold hexOf at h
 split at h
 ·cases h; simp
 ·split at h
  ·cases h
  ·exact pairs_len _ s b (Nat.le_refl _) h
theorem readF_lt (s : Str) : (readF s).1 < 18446744073709551616 := by
 unfold readF
 split
 ·rename_i h; exact h.choose_spec.lt
 ·show (0 : Nat) < _; decide
theorem nums_range : ∀ (ws : List Str) (l : List Int), nums ws = some l → l.length = ws.length ∧ ∀ n ∈ l, IsI n
 | [], l, h => by rw [nums] at h; cases h; exact ⟨rfl, fun n hn => by simp at hn⟩
 | s :: ws, l, h => by
  rw [nums] at h
  cases hs : numOf s with
  | none => rw [hs] at h; cases h
  | some n =>
   rw [hs] at h
   cases hr : nums ws with
   | none => rw [hr] at h; cases h
   | some r =>
    rw [hr] at h
    cases h
    obtain ⟨h1, h2⟩ := nums_range ws r hr
    refine ⟨by simp [h1], fun x hx => ?_⟩
    rcases List.mem_cons.1 hx with rfl | hx
    ·exact num_range hs
    ·exact h2 x hx
theorem behind_le (n : Nat) (s : Str) : (behind n s).length ≤ s.length := by
 cases s with
 | nil => simp [behind]
 | cons c s => exact Nat.le_of_lt (behind_len n (c :: s) (by simp))
theorem keepF_ok {s : Str} {k : Kp} (h : keepF s = .ok k) : IsI k.n ∧ k.junk.length ≤ s.length := by
 unfold keepF at h
 split at h
 ·cases h
 ·rename_i n hn
  split at h
  ·split at h
   ·cases h
   ·rename_i b hb
    cases h
    refine ⟨num_range hn, ?_⟩
    have h1 := hex_len hb
    have h2 := behind_le 58 s
    unfold behind at h2
    exact Nat.le_trans h1 h2
  ·cases h
   exact ⟨num_range hn, Nat.zero_le _⟩
theorem keepsF_ok : ∀ (ws : List Str) (l : List Kp), keepsF ws = .ok l → l.length = ws.length ∧ ∀ k ∈ l, IsI k.n ∧ ∃ s ∈ ws, k.junk.length ≤ s.length
 | [], l, h => by rw [keepsF] at h; cases h; exact ⟨rfl, fun n hn => by simp at hn⟩
 | s :: ws, l, h => by
  rw [keepsF] at h
  cases hs : keepF s with
  | error e => rw [hs] at h; cases h
  | ok k =>
   rw [hs] at h
   simp only [] at h
   cases hr : keepsF ws with
   | error e => rw [hr] at h; cases h
   | ok r =>
    rw [hr] at h
    cases h
    obtain ⟨h1, h2⟩ := keepsF_ok ws r hr
    refine ⟨by simp [h1], fun x hx => ?_⟩
    rcases List.mem_cons.1 hx with rfl | hx
    ·exact ⟨(keepF_ok hs).1, s, by simp, (keepF_ok hs).2⟩
    ·obtain ⟨h3, t, h4, h5⟩ := h2 x hx
     exact ⟨h3, t, List.mem_cons_of_mem _ h4, h5⟩
theorem faultKind_range (s : Str) : 0 ≤ faultKind s ∧ faultKind s ≤ 4 := by
 unfold faultKind
 repeat' split
 all_goals omega
theorem callKind_range (s : Str) : 0 ≤ callKind s ∧ callKind s ≤ 7 := by
 unfold callKind
 repeat' split
 all_goals omega
theorem inv_arm {p : Play} {f : Fault} (h : Inv p) (hf : FaultOk f) (hk : 1 ≤ f.kind ∧ f.kind ≤ 4) (hl : (armed p).length < 64) : Inv (arm p f) := by
 unfold arm
 unfold armed at hl
 cases he : p.ends.getLast? with
 | none =>
  rw [he] at hl
  simp only [] at hl ⊢
  refine ⟨⟨{ h.pt.ok with faults := ?_ }, ⟨?_, ?_⟩, h.pt.tasks, h.pt.picks, h.pt.ends⟩, h.sm.data, h.sm.junk⟩
  ·intro x hx
   rcases List.mem_append.1 hx with hx | hx
   ·exact h.pt.ok.faults x hx
   ·obtain rfl : x = f := by simpa using hx
    exact hf
  ·simp; omega
  ·intro x hx
   rcases List.mem_append.1 hx with hx | hx
   ·exact h.pt.faults.2 x hx
   ·obtain rfl : x = f := by simpa using hx
    exact hk
 | some r =>
  rw [he] at hl
  simp only [] at hl ⊢
  obtain ⟨pre, hpre⟩ : ∃ pre, p.ends = pre ++ [r] := List.getLast?_eq_some_iff.1 he
  have hd : p.ends.dropLast = pre := by rw [hpre]; simp
  rw [hd]
  have hr : r ∈ p.ends := by rw [hpre]; simp
  have hpm : ∀ x ∈ pre, x ∈ p.ends := fun x hx => by rw [hpre]; simp [hx]
  have hE := h.pt.ends
  have hrE := hE.2 r hr
  have hlen : pre.length + 1 ≤ 16 := by have := hE.1; rw [hpre] at this; simpa using this
  refine ⟨⟨{ h.pt.ok with ends := ?_ }, h.pt.faults, h.pt.tasks, h.pt.picks, ⟨?_, ?_⟩⟩, h.sm.data, ?_⟩
  ·intro x hx
   rcases List.mem_append.1 hx with hx | hx
   ·exact h.pt.ok.ends x (hpm x hx)
   ·obtain rfl : x = { r with faults := r.faults ++ [f] } := by simpa using hx
    have := h.pt.ok.ends r hr
    refine ⟨this.1, this.2.1, fun y hy => ?_⟩
    rcases List.mem_append.1 hy with hy | hy
    ·exact this.2.2 y hy
    ·obtain rfl : y = f := by simpa using hy
     exact hf
  ·simp; omega
  ·intro x hx
   rcases List.mem_append.1 hx with hx | hx
   ·exact hE.2 x (hpm x hx)
   ·obtain rfl : x = { r with faults := r.faults ++ [f] } := by simpa using hx
    refine ⟨by simp; omega, hrE.2.1, fun y hy => ?_⟩
    rcases List.mem_append.1 hy with hy | hy
    ·exact hrE.2.2 y hy
    ·obtain rfl : y = f := by simpa using hy
     exact hk
  ·intro x hx
   rcases List.mem_append.1 hx with hx | hx
   ·exact h.sm.junk x (hpm x hx)
   ·obtain rfl : x = { r with faults := r.faults ++ [f] } := by simpa using hx
    exact h.sm.junk r hr
theorem inv_call {p : Play} {c : Call} (h : Inv p) (hne : p.tasks ≠ []) (hr : rightF c = true) (hi : IsI c.lsn) (hd : c.data.length ≤ 65536) (hl : (p.tasks.getLastD []).length < 256) : Inv (callTo p c) := by
 obtain ⟨t, ht⟩ : ∃ t, p.tasks.getLast? = some t := ⟨_, List.getLast?_eq_some_getLast hne⟩
 obtain ⟨pre, hpre⟩ : ∃ pre, p.tasks = pre ++ [t] := List.getLast?_eq_some_iff.1 ht
 have hl' : t.length < 256 := by rw [hpre] at hl; simpa [List.getLastD_eq_getLast?] using hl
 rw [callTo_is hpre]
 have htm : t ∈ p.tasks := by rw [hpre]; simp
 have hpm : ∀ x ∈ pre, x ∈ p.tasks := fun x hx => by rw [hpre]; simp [hx]
 have hlen : pre.length + 1 ≤ 16 := by have := h.pt.tasks.1; rw [hpre] at this; simpa using this
 have key : ∀ (Q : Call → Prop), (∀ l ∈ p.tasks, ∀ x ∈ l, Q x) → Q c → ∀ l ∈ pre ++ [t ++ [c]], ∀ x ∈ l, Q x := by
  intro Q h1 h2 l hl x hx
  rcases List.mem_append.1 hl with hl | hl
  ·exact h1 l (hpm l hl) x hx
  ·obtain rfl : l = t ++ [c] := by simpa using hl
   rcases List.mem_append.1 hx with hx | hx
   ·exact h1 t htm x hx
   ·obtain rfl : x = c := by simpa using hx
    exact h2
 refine ⟨⟨{ h.pt.ok with calls := key (fun x => IsI x.lsn) h.pt.ok.calls hi }, h.pt.faults, ⟨by simp; omega, fun l hl => ⟨?_, key (fun x => rightF x = true) (fun l hl => (h.pt.tasks.2 l hl).2) hr l hl⟩⟩, h.pt.picks, h.pt.ends⟩, key (fun x => x.data.length ≤ 65536) h.sm.data hd, h.sm.junk⟩
 rcases List.mem_append.1 hl with hl | hl
 ·exact (h.pt.tasks.2 l (hpm l hl)).1
 ·obtain rfl : l = t ++ [c] := by simpa using hl
  simp
  omega
theorem getD_len {ws : List Str} {N : Nat} (h : ∀ x ∈ ws, x.length ≤ N) (i : Nat) : (ws.getD i []).length ≤ N := by
 rcases Nat.lt_or_ge i ws.length with hi | hi
 ·rw [List.getD_eq_getElem?_getD, List.getElem?_eq_getElem hi]
  exact h _ (List.getElem_mem hi)
 ·rw [List.getD_eq_getElem?_getD, List.getElem?_eq_none hi]; simp
theorem inv_take {p q : Play} {k : Int} {x : Str} {ws : List Str} (h : Inv p) (hk1 : 1 ≤ k) (hk2 : k ≤ 7) (hkx : kindOf x = k) (hne : k = 5 → p.tasks ≠ []) (hws : ∀ s ∈ ws, s.length ≤ 65536) (hf : full p k ws.length = false) (ht : takeF p k x ws = .ok q) : Inv q := by
 unfold takeF at ht
 by_cases h1 : k = 1
 ·rw [if_pos h1] at ht
  unfold playF at ht
  split at ht
  ·rename_i a b c d e f g hl
   have hr := (nums_range _ _ hl).2
   split at ht
   ·cases ht
   ·split at ht
    ·cases ht
    ·cases ht
     exact ⟨⟨{ h.pt.ok with disk := hr a (by simp), segMax := hr b (by simp), base := hr c (by simp), qcap := hr d (by simp), qbytes := hr e (by simp), pmost := hr f (by simp), pbytes := hr g (by simp), linger := readF_lt _, alpha := readF_lt _ }, h.pt.faults, h.pt.tasks, h.pt.picks, h.pt.ends⟩, h.sm.data, h.sm.junk⟩
  ·cases ht
 rw [if_neg h1] at ht
 by_cases h2 : k = 2
 ·rw [if_pos h2] at ht
  split at ht
  ·cases ht
  ·rename_i n hn
   cases ht
   exact ⟨⟨{ h.pt.ok with most := num_range hn }, h.pt.faults, h.pt.tasks, h.pt.picks, h.pt.ends⟩, h.sm.data, h.sm.junk⟩
 rw [if_neg h2] at ht
 by_cases h3 : k = 3
 ·rw [if_pos h3] at ht
  have hf2 : ¬ 64 ≤ (Sc.armed p).length := by
   unfold full at hf
   rw [if_pos h3] at hf
   simpa using hf
  unfold faultF at ht
  split at ht
  ·cases ht
  ·rename_i a ha
   split at ht
   ·cases ht
   ·rename_i hk
    split at ht
    ·cases ht
    ·rename_i n hn
     cases ht
     have hr := faultKind_range (ws.getD 1 [])
     exact inv_arm h ⟨num_range ha, num_range hn⟩ ⟨by show 1 ≤ faultKind (ws.getD 1 []); omega, hr.2⟩ (by omega)
 rw [if_neg h3] at ht
 by_cases h4 : k = 4
 ·rw [if_pos h4] at ht
  have hf2 : ¬ 16 ≤ p.tasks.length := by
   unfold full at hf
   rw [if_neg h3, if_pos h4] at hf
   simpa using hf
  cases ht
  have key : ∀ (Q : Call → Prop), (∀ l ∈ p.tasks, ∀ x ∈ l, Q x) → ∀ l ∈ p.tasks ++ [[]], ∀ x ∈ l, Q x := by
   intro Q h1 l hl x hx
   rcases List.mem_append.1 hl with hl | hl
   ·exact h1 l hl x hx
   ·obtain rfl : l = [] := by simpa using hl
    simp at hx
  refine ⟨⟨{ h.pt.ok with calls := key _ h.pt.ok.calls }, h.pt.faults, ⟨by simp; omega, fun l hl => ⟨?_, key (fun x => rightF x = true) (fun l hl => (h.pt.tasks.2 l hl).2) l hl⟩⟩, h.pt.picks, h.pt.ends⟩, key _ h.sm.data, h.sm.junk⟩
  rcases List.mem_append.1 hl with hl | hl
  ·exact (h.pt.tasks.2 l hl).1
  ·obtain rfl : l = [] := by simpa using hl
   simp
 rw [if_neg h4] at ht
 by_cases h5 : k = 5
 ·rw [if_pos h5] at ht
  have hf2 : ¬ 256 ≤ (p.tasks.getLastD []).length := by
   unfold full at hf
   rw [if_neg h3, if_neg h4, if_pos h5] at hf
   simpa using hf
  have hn0 := kind_call (hkx.trans h5)
  have hcr := callKind_range x
  have hi0 : IsI 0 := ⟨by decide, by decide⟩
  unfold callF at ht
  split at ht
  ·rename_i k1
   split at ht
   ·cases ht
   ·rename_i b hb
    cases ht
    exact inv_call h (hne h5) (by unfold rightF; rw [if_pos k1]; rfl) hi0 (Nat.le_trans (hex_len hb) (getD_len hws 0)) (by omega)
  ·rename_i k1
   split at ht
   ·rename_i k2
    split at ht
    ·cases ht
    ·rename_i n hn
     cases ht
     exact inv_call h (hne h5) (by unfold rightF; rw [if_neg k1, if_neg (by show ¬ (callKind x = 3 ∨ callKind x = 7); omega), if_pos k2]; rfl) (num_range hn) (Nat.zero_le _) (by omega)
   ·rename_i k2
    cases ht
    exact inv_call h (hne h5) (by unfold rightF; rw [if_neg k1, if_pos (by show callKind x = 3 ∨ callKind x = 7; omega)]; rfl) hi0 (Nat.zero_le _) (by omega)
 rw [if_neg h5] at ht
 by_cases h6 : k = 6
 ·rw [if_pos h6] at ht
  have hf2 : ¬ 65536 < p.picks.length + ws.length := by
   unfold full at hf
   rw [if_neg h3, if_neg h4, if_neg h5, if_pos h6] at hf
   simpa using hf
  split at ht
  ·cases ht
  ·rename_i l hl
   cases ht
   obtain ⟨hn, hr⟩ := nums_range _ _ hl
   refine ⟨⟨{ h.pt.ok with picks := fun n hn => ?_ }, h.pt.faults, h.pt.tasks, by simp; omega, h.pt.ends⟩, h.sm.data, h.sm.junk⟩
   rcases List.mem_append.1 hn with hn | hn
   ·exact h.pt.ok.picks n hn
   ·exact hr n hn
 rw [if_neg h6] at ht
 have h7 : k = 7 := by omega
 have hf2 : ¬ (16 ≤ p.ends.length ∨ 257 < ws.length) := by
  unfold full at hf
  rw [if_neg h3, if_neg h4, if_neg h5, if_neg h6, if_pos h7] at hf
  simp at hf
  omega
 unfold endF at ht
 split at ht
 ·cases ht
 ·rename_i d hd
  split at ht
  ·cases ht
  ·rename_i ks hks
   cases ht
   obtain ⟨hl, hk⟩ := keepsF_ok _ _ hks
   rw [List.length_drop] at hl
   refine ⟨⟨{ h.pt.ok with ends := ?_ }, h.pt.faults, h.pt.tasks, h.pt.picks, ⟨by simp; omega, ?_⟩⟩, h.sm.data, ?_⟩
   ·intro r hr
    rcases List.mem_append.1 hr with hr | hr
    ·exact h.pt.ok.ends r hr
    ·obtain rfl : r = ⟨d, ks, []⟩ := by simpa using hr
     exact ⟨num_range hd, fun y hy => (hk y hy).1, fun y hy => by simp at hy⟩
   ·intro r hr
    rcases List.mem_append.1 hr with hr | hr
    ·exact h.pt.ends.2 r hr
    ·obtain rfl : r = ⟨d, ks, []⟩ := by simpa using hr
     exact ⟨Nat.zero_le _, by show ks.length ≤ 256; omega, fun y hy => by simp at hy⟩
   ·intro r hr
    rcases List.mem_append.1 hr with hr | hr
    ·exact h.sm.junk r hr
    ·obtain rfl : r = ⟨d, ks, []⟩ := by simpa using hr
     intro y hy
     obtain ⟨-, s, hs, hle⟩ := hk y hy
     exact Nat.le_trans hle (hws s (List.mem_of_mem_drop hs))
theorem wsp_le : ∀ (s cur : Str) (x : Str), x ∈ wsp cur s → x.length ≤ cur.length + s.length
 | [], cur, x, h => by
  rw [wsp] at h
  split at h
  ·simp at h
  ·simp at h; subst h; simp
 | c :: s, cur, x, h => by
  rw [wsp] at h
  split at h
  ·split at h
   ·have := wsp_le s [] x h; simp at this ⊢; omega
   ·rcases List.mem_cons.1 h with rfl | h
    ·simp
    ·have := wsp_le s [] x h; simp at this ⊢; omega
  ·have := wsp_le s (cur ++ [c]) x h; simp at this ⊢; omega
theorem inv_line {σ σ' : PS} {s : Str} (h : Inv σ.p) (hs : s.length ≤ 65536) (hl : lineF σ s = .ok σ') : Inv σ'.p := by
 unfold lineF at hl
 have hal := ahead_len 35 s
 rw [← bare_is] at hal
 by_cases h1 : (bare s).all okB = false
 ·rw [if_pos h1] at hl; cases hl
 rw [if_neg h1] at hl
 cases hw : wordsOf (bare s) with
 | nil => rw [hw] at hl; cases hl; exact h
 | cons x ws =>
  rw [hw] at hl
  simp only [] at hl
  have hws : ∀ y ∈ ws, y.length ≤ 65536 := fun y hy => by
   have := wsp_le (bare s) [] y (by unfold wordsOf at hw; rw [hw]; exact List.mem_cons_of_mem _ hy)
   simp at this
   omega
  by_cases h2 : kindOf x = 0
  ·rw [if_pos h2] at hl; cases hl
  rw [if_neg h2] at hl
  by_cases h3 : nxt σ.st (kindOf x) = 6 ∨ (kindOf x = 5 ∧ σ.p.tasks = [])
  ·rw [if_pos h3] at hl; cases hl
  rw [if_neg h3] at hl
  by_cases h4 : full σ.p (kindOf x) ws.length = true
  ·rw [if_pos h4] at hl; cases hl
  rw [if_neg h4] at hl
  by_cases h5 : counts (kindOf x) x ws.length = false
  ·rw [if_pos h5] at hl; cases hl
  rw [if_neg h5] at hl
  cases ht : takeF σ.p (kindOf x) x ws with
  | error e => rw [ht] at hl; cases hl
  | ok p =>
   rw [ht] at hl
   cases hl
   have hr := kind_range x
   exact inv_take h (by omega) hr.2 rfl (fun h5 e => h3 (Or.inr ⟨h5, e⟩)) hws (by simpa using h4) ht
theorem lines_le : ∀ (s : Str) (x : Str), x ∈ linesOf s → x.length ≤ s.length
 | [], x, h => by simp [linesOf] at h
 | c :: s, x, h => by
  rw [lines_cons] at h
  split at h
  ·rcases List.mem_cons.1 h with rfl | h
   ·simp
   ·have := lines_le s x h; simp; omega
  ·split at h
   ·simp at h; subst h; simp
   ·rename_i l ls hl
    rcases List.mem_cons.1 h with rfl | h
    ·have := lines_le s l (by rw [hl]; simp); simp; omega
    ·have := lines_le s x (by rw [hl]; simp [h]); simp; omega
theorem inv_from : ∀ (l : List Str) (σ σ' : PS) (n : Nat), Inv σ.p → (∀ s ∈ l, s.length ≤ 65536) → parseFrom σ n l = .ok σ' → Inv σ'.p
 | [], σ, σ', n, h, _, hp => by rw [parseFrom] at hp; cases hp; exact h
 | s :: l, σ, σ', n, h, hs, hp => by
  rw [parseFrom] at hp
  cases hl : lineF σ s with
  | error e => rw [hl] at hp; cases hp
  | ok σ2 =>
   rw [hl] at hp
   exact inv_from l σ2 σ' (n + 1) (inv_line h (hs s (by simp)) hl) (fun x hx => hs x (List.mem_cons_of_mem _ hx)) hp
theorem inv_parse (s : Str) : Inv (parseF s).1 := by
 unfold parseF
 split
 ·exact inv0
 ·rename_i hs
  cases h : parseFrom ⟨play0, 0⟩ 0 (linesOf s) with
  | error p => exact inv0
  | ok σ =>
   simp only []
   split
   ·exact inv0
   ·exact inv_from _ _ _ _ inv0 (fun x hx => by have := lines_le s x hx; omega) h
theorem parse_bad {s : Str} (h : (parseF s).2.2 ≠ 0) : (parseF s).1 = play0 := by
 unfold parseF at h ⊢
 split
 ·rfl
 ·rename_i hs
  rw [if_neg hs] at h
  cases hp : parseFrom ⟨play0, 0⟩ 0 (linesOf s) with
  | error p => rfl
  | ok σ =>
   rw [hp] at h
   simp only [] at h ⊢
   split
   ·rfl
   ·rename_i h2
    rw [if_neg h2] at h
    exact absurd rfl h
theorem can_full {p : Play} (hT : ∀ u, u < 18446744073709551616 → txtS (canW u) = txtS u) (h : PlayOk p) : fullS (canP p) = fullS p := by
 unfold fullS headS canP
 simp only [hT _ h.linger, hT _ h.alpha]
theorem can_inv {p : Play} (hc : ∀ u, u < 18446744073709551616 → canW u < 18446744073709551616) (h : Inv p) : Inv (canP p) :=
 ⟨⟨{ h.pt.ok with linger := hc _ h.pt.ok.linger, alpha := hc _ h.pt.ok.alpha }, h.pt.faults, h.pt.tasks, h.pt.picks, h.pt.ends⟩, h.sm.data, h.sm.junk⟩
theorem flat_max {α : Type} (f : α → Str) (M : Nat) : ∀ (l : List α), (∀ x ∈ l, (f x).length ≤ M) → (l.flatMap f).length ≤ l.length * M
 | [], _ => by simp
 | x :: l, h => by
  have h1 := h x (by simp)
  have h2 := flat_max f M l fun y hy => h y (List.mem_cons_of_mem _ hy)
  rw [List.flatMap_cons, List.length_append, List.length_cons, Nat.succ_mul]
  omega
theorem put_max (M : Nat) : ∀ (ws : List Str), (∀ x ∈ ws, x.length ≤ M) → (putL ws).length ≤ ws.length * (M + 1) + 1
 | [], _ => by simp [putL, bod]
 | w :: ws, h => by
  have h1 := h w (by simp)
  have h2 := flat_max (fun x => 32 :: x) (M + 1) ws fun y hy => by have := h y (List.mem_cons_of_mem _ hy); simpa using this
  unfold putL bod
  rw [show (w :: ws).length = ws.length + 1 from rfl, Nat.succ_mul, List.length_append, List.length_append, List.length_singleton]
  omega
theorem dec_max {n : Int} (h : IsI n) : (decS n).length ≤ 21 := Lib.itoa_length_le n h.1 h.2
theorem word_max (k : Int) : (callWord k).length ≤ 8 ∧ (faultWord k).length ≤ 5 := by
 constructor
 ·unfold callWord
  repeat' split
  all_goals decide
 ·unfold faultWord
  repeat' split
  all_goals decide
theorem faults_max {l : List Fault} (h : ∀ f ∈ l, FaultOk f) : (faultsS l).length ≤ l.length * 89 := by
 unfold faultsS
 refine flat_max _ _ _ fun f hf => ?_
 obtain ⟨h1, h2⟩ := h f hf
 have := put_max 21 [[102, 97, 117, 108, 116], decS f.at_, faultWord f.kind, decS f.part] (by
  intro x hx
  simp at hx
  rcases hx with rfl | rfl | rfl | rfl
  ·decide
  ·exact dec_max h1
  ·have := (word_max f.kind).2; omega
  ·exact dec_max h2)
 simpa [faultL] using this
theorem pairs_max (b : Str) : (pairsS b).length ≤ 2 * b.length + 1 := by
 unfold pairsS
 split
 ·simp
 ·rw [two_len]; omega
theorem call_max {c : Call} {N : Nat} (hd : c.data.length ≤ N) (hi : IsI c.lsn) : (callT c).length ≤ 4 * N + 100 := by
 have hw := (word_max c.kind).1
 have hp := pairs_max c.data
 have hn := dec_max hi
 unfold callT
 repeat' split
 ·omega
 all_goals
  unfold putL bod
  simp
  omega
theorem keep_max {k : Kp} {N : Nat} (hd : k.junk.length ≤ N) (hi : IsI k.n) : (keepT k).length ≤ 2 * N + 30 := by
 have hn := dec_max hi
 have hp := pairs_max (k.junk.take 65536)
 rw [List.length_take] at hp
 unfold keepT
 rw [List.length_append]
 split
 ·simp; omega
 ·rw [List.length_cons]; omega
theorem head_max {p : Play} (hok : PlayOk p) (hT : (txtS p.linger).length ≤ 1073741824 ∧ (txtS p.alpha).length ≤ 1073741824) : (headS p).length ≤ 21474836480 := by
 have h1 := put_max 1073741824 [[112, 108, 97, 121], decS p.disk, decS p.segMax, decS p.base, decS p.qcap, decS p.qbytes, decS p.pmost, decS p.pbytes, txtS p.linger, txtS p.alpha] (by
  have key : ∀ {n : Int}, IsI n → (decS n).length ≤ 1073741824 := fun h => Nat.le_trans (dec_max h) (by decide)
  intro x hx
  simp only [List.mem_cons, List.not_mem_nil, or_false] at hx
  rcases hx with rfl | rfl | rfl | rfl | rfl | rfl | rfl | rfl | rfl | rfl
  ·exact Nat.le_of_ble_eq_true rfl
  ·exact key hok.disk
  ·exact key hok.segMax
  ·exact key hok.base
  ·exact key hok.qcap
  ·exact key hok.qbytes
  ·exact key hok.pmost
  ·exact key hok.pbytes
  ·exact hT.1
  ·exact hT.2)
 have h2 := put_max 21 [[109, 111, 115, 116], decS p.most] (by
  intro x hx
  simp only [List.mem_cons, List.not_mem_nil, or_false] at hx
  rcases hx with rfl | rfl
  ·decide
  ·exact dec_max hok.most)
 unfold headS
 rw [List.length_append]
 simp only [List.length_cons, List.length_nil] at h1 h2
 exact Nat.le_trans (Nat.add_le_add h1 h2) (by omega)
theorem task_max {l : List Call} {N : Nat} (hl : l.length ≤ 256) (hs : ∀ c ∈ l, c.data.length ≤ N) (hi : ∀ c ∈ l, IsI c.lsn) : (taskS l).length ≤ 5 + 256 * (4 * N + 100) := by
 have h1 := flat_max callT (4 * N + 100) l fun c hc => call_max (hs c hc) (hi c hc)
 have h3 := Nat.mul_le_mul_right (4 * N + 100) hl
 unfold taskS
 rw [List.length_append]
 exact Nat.add_le_add (by decide) (Nat.le_trans h1 h3)
theorem picks_max {l : List Int} (hl : l.length ≤ 65536) (h : ∀ n ∈ l, IsI n) : (picksS l).length ≤ 65537 * 22 + 1 := by
 unfold picksS
 split
 ·exact Nat.zero_le _
 ·have h1 := put_max 21 ([112, 105, 99, 107, 115] :: l.map decS) (by
   intro x hx
   rcases List.mem_cons.1 hx with rfl | hx
   ·decide
   ·obtain ⟨n, hn, rfl⟩ := List.mem_map.1 hx
    exact dec_max (h n hn))
  rw [List.length_cons, List.length_map] at h1
  exact Nat.le_trans h1 (Nat.add_le_add_right (Nat.mul_le_mul_right _ (show l.length + 1 ≤ 65537 by omega)) 1)
theorem end_max {r : Reopen} {N : Nat} (h1 : r.faults.length ≤ 64) (h2 : r.keeps.length ≤ 256) (hr : EndOk r) (hs : ∀ k ∈ r.keeps, k.junk.length ≤ N) : (endT r).length ≤ 258 * (2 * N + 31) + 1 + 64 * 89 := by
 obtain ⟨h4, h5, h6⟩ := hr
 have h7 := put_max (2 * N + 30) ([101, 110, 100] :: decS r.dir :: r.keeps.map keepT) (by
  intro x hx
  rcases List.mem_cons.1 hx with rfl | hx
  ·show 3 ≤ _; omega
  ·rcases List.mem_cons.1 hx with rfl | hx
   ·exact Nat.le_trans (dec_max h4) (by omega)
   ·obtain ⟨k, hk, rfl⟩ := List.mem_map.1 hx
    exact keep_max (hs k hk) (h5 k hk))
 have h8 := faults_max h6
 rw [List.length_cons, List.length_cons, List.length_map] at h7
 have h9 : (r.keeps.length + 1 + 1) * (2 * N + 30 + 1) ≤ 258 * (2 * N + 31) := Nat.mul_le_mul_right _ (by omega)
 have h10 : r.faults.length * 89 ≤ 64 * 89 := Nat.mul_le_mul_right _ h1
 unfold endT
 rw [List.length_append]
 exact Nat.add_le_add (Nat.le_trans h7 (Nat.add_le_add_right h9 1)) (Nat.le_trans h8 h10)
theorem full_max {p : Play} {N : Nat} (h : Pt p) (hs : Sml N p) (hN : N ≤ 1048576) (hT : (txtS p.linger).length ≤ 1073741824 ∧ (txtS p.alpha).length ≤ 1073741824) : (fullS p).length ≤ 1099511627776 := by
 have hok := h.ok
 have e1 := head_max hok hT
 have e2 := faults_max hok.faults
 have e3 := flat_max taskS (5 + 256 * (4 * N + 100)) p.tasks fun l hl => task_max (h.tasks.2 l hl).1 (hs.data l hl) (hok.calls l hl)
 have e4 := picks_max h.picks hok.picks
 have e5 := flat_max endT (258 * (2 * N + 31) + 1 + 64 * 89) p.ends fun r hr => end_max (h.ends.2 r hr).1 (h.ends.2 r hr).2.1 (hok.ends r hr) (hs.junk r hr)
 have m0 : p.faults.length * 89 ≤ 64 * 89 := Nat.mul_le_mul_right _ h.faults.1
 have m1 : p.tasks.length * (5 + 256 * (4 * N + 100)) ≤ 16 * (5 + 256 * (4 * N + 100)) := Nat.mul_le_mul_right _ h.tasks.1
 have m2 : p.ends.length * (258 * (2 * N + 31) + 1 + 64 * 89) ≤ 16 * (258 * (2 * N + 31) + 1 + 64 * 89) := Nat.mul_le_mul_right _ h.ends.1
 have e2 := Nat.le_trans e2 m0
 have e3 := Nat.le_trans e3 m1
 have e5 := Nat.le_trans e5 m2
 unfold fullS
 simp only [List.length_append]
 generalize (headS p).length = a1 at *
 generalize (faultsS p.faults).length = a2 at *
 generalize (p.tasks.flatMap taskS).length = a3 at *
 generalize (picksS p.picks).length = a4 at *
 generalize (p.ends.flatMap endT).length = a5 at *
 clear hs hok h hT m0 m1 m2
 omega

def bg1 : Str := [112, 108, 97, 121, 32, 49, 48, 48, 48, 32, 54, 52, 32, 49, 32, 52, 32, 49, 48, 48, 32, 52, 32, 49, 48, 48, 32, 48, 32, 48, 46, 53, 10, 109, 111, 115, 116, 32, 53, 48, 10, 116, 97, 115, 107, 10, 97, 112, 112, 101, 110, 100, 32, 54, 49, 10, 115, 121, 110, 99, 10, 112, 105, 99, 107, 115, 32, 48, 32, 49, 10, 101, 110, 100, 32, 48, 32, 51, 32, 48, 58, 102, 102, 10]
def bg2 : Str := [109, 111, 115, 116, 32, 53]
def bgP : Play := ⟨1000, 64, 1, 4, 100, 4, 100, 0, 4602678819172646912, [], [[⟨1, 0, [97]⟩, ⟨3, 0, []⟩]], [0, 1], 50, [⟨0, [⟨3, []⟩, ⟨0, [255]⟩], []⟩]⟩
def oneP : Play := ⟨1048576, 4096, 1, 4, 1000, 8, 1000, 0, 4602678819172646912, [], [[⟨1, 0, [97]⟩]], [], 1000, []⟩
theorem dec_of (n : Nat) : decS (n : Int) = Lib.decDigits n := by
 unfold decS Lib.itoa
 rw [if_neg (by omega)]
 rfl
theorem d0 : decS 0 = [48] := by have := dec_of 0; simpa [Lib.decDigits] using this
theorem d1 : decS 1 = [49] := by have := dec_of 1; simpa [Lib.decDigits] using this
theorem d3 : decS 3 = [51] := by have := dec_of 3; simpa [Lib.decDigits] using this
theorem d4 : decS 4 = [52] := by have := dec_of 4; simpa [Lib.decDigits] using this
theorem d8 : decS 8 = [56] := by have := dec_of 8; simpa [Lib.decDigits] using this
theorem d50 : decS 50 = [53, 48] := by have := dec_of 50; simpa [Lib.decDigits] using this
theorem d64 : decS 64 = [54, 52] := by have := dec_of 64; simpa [Lib.decDigits] using this
theorem d100 : decS 100 = [49, 48, 48] := by have := dec_of 100; simpa [Lib.decDigits] using this
theorem d1000 : decS 1000 = [49, 48, 48, 48] := by have := dec_of 1000; simpa [Lib.decDigits] using this
theorem d4096 : decS 4096 = [52, 48, 57, 54] := by have := dec_of 4096; simpa [Lib.decDigits] using this
theorem d1048576 : decS 1048576 = [49, 48, 52, 56, 53, 55, 54] := by have := dec_of 1048576; simpa [Lib.decDigits] using this
theorem bg_full (t0 : txtS 0 = [48]) (th : txtS 4602678819172646912 = [48, 46, 53]) : fullS bgP = bg1 := by
 unfold fullS headS faultsS picksS bgP
 simp only [d0, d1, d3, d4, d50, d64, d100, d1000, t0, th, List.flatMap_cons, List.flatMap_nil, List.append_nil, taskS, callT, endT, keepT, faultsS, List.map_cons, List.map_nil]
 rfl
theorem one_full (t0 : txtS 0 = [48]) (th : txtS 4602678819172646912 = [48, 46, 53]) : (fullS oneP).length = 65 := by
 unfold fullS headS faultsS picksS oneP
 simp only [d0, d1, d4, d8, d1000, d4096, d1048576, t0, th, List.flatMap_cons, List.flatMap_nil, List.append_nil, taskS, callT]
 rfl
theorem bg_pt : Pt bgP := by
 refine ⟨⟨?_, ?_, ?_, ?_, ?_, ?_, ?_, by decide, by decide, ?_, ?_, ?_, ?_, ?_⟩, ?_, ?_, ?_, ?_⟩
 all_goals simp [bgP, IsI, EndOk, rightF]
theorem one_inv : Inv oneP := by
 refine ⟨⟨⟨?_, ?_, ?_, ?_, ?_, ?_, ?_, by decide, by decide, ?_, ?_, ?_, ?_, ?_⟩, ?_, ?_, ?_, ?_⟩, ?_, ?_⟩
 all_goals simp [oneP, IsI, EndOk, rightF]
theorem bg2_parse : parseF bg2 = (play0, 1, 63) := by
 have hl : linesOf bg2 = [bod [[109, 111, 115, 116], [53]]] := by decide
 have hs : lineF ⟨play0, 0⟩ (bod [[109, 111, 115, 116], [53]]) = .error 63 := by
  rw [line_bod _ _ _ (by decide)]
  unfold stepF
  rw [if_neg (by decide), if_pos (Or.inl (by decide))]
 unfold parseF
 rw [if_neg (by decide), hl, parseFrom, hs]
end Sc
end Go.Proofs.YtkkecpamnnojoaaGreatDoor
namespace Go.Proofs.YtkkecpamnnojoaaGreatDoor
open Go.ChangeShapes Go.WideShapes Go.ChangeAt Go.RowKit
open Bt Dc
set_option linter.unusedVariables false
namespace Sc

theorem txt_rr {B : Nat} {w : World} (hE : Ev B w) (u : Nat) (hu : u < 18446744073709551616) : RrOk (txt u) (canW u) 0 := by
 obtain ⟨e, w', fr, hr, -⟩ := hE.read (txt u) (txt_size hu) []
 obtain ⟨⟨y, k, -, hrr⟩, -⟩ := hr
 obtain ⟨rfl, rfl⟩ := hrr.yes u hu rfl
 exact hrr
theorem txt_read {B : Nat} {w : World} (hE : Ev B w) (u : Nat) (hu : u < 18446744073709551616) : readF (txtS u) = (canW u, 0) := readF_of (by rw [txtS_b]; exact txt_rr hE u hu)
theorem txt_can {B : Nat} {w : World} (hE : Ev B w) (u : Nat) (hu : u < 18446744073709551616) : txtS (canW u) = txtS u := by
 unfold txtS
 rw [(txt_rr hE u hu).back rfl]
theorem can_lt {B : Nat} {w : World} (hE : Ev B w) (u : Nat) (hu : u < 18446744073709551616) : canW u < 18446744073709551616 := (txt_rr hE u hu).lt
theorem txt_gw (u : Nat) (hu : u < 18446744073709551616) : gw (txtS u) = true := by
 unfold txtS
 rcases three hu with ⟨h1, h2⟩ | ⟨h1, h2⟩ | ⟨h1, h2⟩ | ⟨h1, h2, h3⟩
 ·rw [h2]; decide
 ·rw [h2]; decide
 ·rw [h2]; decide
 ·rw [h3]
  obtain ⟨hc, -⟩ := Us.textF_chr h1
  have hp := textF_pos u
  have e : (strOf (Us.textF u)).data.toList = (Us.textF u).map (fun n => UInt8.ofNat n) := by
   unfold strOf strOfNums
   simp
  rw [e]
  refine gw_of (fun h => ?_) fun c hcm => ?_
  ·have := congrArg List.length h
   simp at this
   rw [this] at hp
   simp at hp
  ·obtain ⟨n, hn, rfl⟩ := List.mem_map.1 hcm
   have h := hc n hn
   have h256 := Us.chr_lt h
   have : (UInt8.ofNat n).toNat = n := by rw [UInt8.toNat_ofNat']; omega
   rw [this]
   unfold Us.Chr at h
   omega
theorem txt_zero : txtS 0 = [48] := by
 unfold txtS
 rw [show txt 0 = ⟨#[48]⟩ by decide +kernel]
theorem txt_hf : txtS 4602678819172646912 = [48, 46, 53] := by
 unfold txtS
 rw [txt_half]
theorem txtS_max {u : Nat} (hu : u < 18446744073709551616) : (txtS u).length ≤ 1073741824 := by
 have h := txt_size hu
 have : (txtS u).length = (txt u).size := by unfold txtS; rw [Array.length_toList]; rfl
 rw [this]
 exact h
end Sc
end Go.Proofs.YtkkecpamnnojoaaGreatDoor
