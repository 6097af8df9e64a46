/- A part of the proof of ScriptBlanks: nothing is assumed. By an AI agent. -/
import Derived.Test.YtkkecpamnnojoaaGreatDoorBq20
import Derived.Lib.ItoaLen
import Derived.Lib.SmallJoins
import Derived.Test.YtkkecpamnnojoaaGreatDoorBq03
import Derived.Test.YtkkecpamnnojoaaGreatDoorBq19
namespace Go.Proofs.YtkkecpamnnojoaaGreatDoor
open Go.ChangeShapes Go.WideShapes Go.ChangeAt Go.RowKit
set_option linter.unusedVariables false
namespace Sc

structure Sml (N : Nat) (p : Play) : Prop where
 data : ∀ l ∈ p.tasks, ∀ c ∈ l, c.data.length ≤ N
 junk : ∀ r ∈ p.ends, ∀ k ∈ r.keeps, k.junk.length ≤ N
structure Inv (p : Play) : Prop where
 pt : Pt p
 sm : Sml 65536 p
theorem inv0 : Inv play0 := by
 refine ⟨⟨⟨?_, ?_, ?_, ?_, ?_, ?_, ?_, by decide, by decide, ?_, ?_, ?_, ?_, ?_⟩, ?_, ?_, ?_, ?_⟩, ?_, ?_⟩ <;> simp [play0, IsI]
theorem pairs_len : ∀ (n : Nat) (s b : Str), s.length ≤ n → pairsOf s = some b → b.length ≤ s.length
 | _, [], b, _, h => by rw [pairsOf] at h; cases h; exact Nat.le_refl _
 | _, [_], b, _, h => by rw [pairsOf] at h; cases h
 | 0, x :: y :: s, b, hn, h => by simp at hn
 | n + 1, x :: y :: s, b, hn, h => by
  rw [pairsOf] at h
  split at h
  ·cases h
  ·cases hp : pairsOf s with
   | none => rw [hp] at h; cases h
   | some r =>
    rw [hp] at h
    cases h
    have := pairs_len n s r (by simp at hn; omega) hp
    simp
    omega
theorem hex_len {s b : Str} {d : Bool} (h : hexOf s d = some b) : b.length ≤ s.length := by
 unfold hexOf at h
 split at h
 ·cases h; simp
 ·split at h
  ·cases h
  ·exact pairs_len _ s b (Nat.le_refl _) h
theorem readF_lt (s : Str) : (readF s).1 < 18446744073709551616 := by
 unfold readF
 split
 ·rename_i h; exact h.choose_spec.lt
 ·show (0 : Nat) < _; decide
theorem nums_range : ∀ (ws : List Str) (l : List Int), nums ws = some l → l.length = ws.length ∧ ∀ n ∈ l, IsI n
 | [], l, h => by rw [nums] at h; cases h; exact ⟨rfl, fun n hn => by simp at hn⟩
 | s :: ws, l, h => by
  rw [nums] at h
  cases hs : numOf s with
  | none => rw [hs] at h; cases h
  | some n =>
   rw [hs] at h
   cases hr : nums ws with
   | none => rw [hr] at h; cases h
   | some r =>
    rw [hr] at h
    cases h
    obtain ⟨h1, h2⟩ := nums_range ws r hr
    refine ⟨by simp [h1], fun x hx => ?_⟩
    rcases List.mem_cons.1 hx with rfl | hx
    ·exact num_range hs
    ·exact h2 x hx
theorem behind_le (n : Nat) (s : Str) : (behind n s).length ≤ s.length := by
 cases s with
 | nil => simp [behind]
 | cons c s => exact Nat.le_of_lt (behind_len n (c :: s) (by simp))
theorem keepF_ok {s : Str} {k : Kp} (h : keepF s = .ok k) : IsI k.n ∧ k.junk.length ≤ s.length := by
 unfold keepF at h
 split at h
 ·cases h
 ·rename_i n hn
  split at h
  ·split at h
   ·cases h
   ·rename_i b hb
    cases h
    refine ⟨num_range hn, ?_⟩
    have h1 := hex_len hb
    have h2 := behind_le 58 s
    unfold behind at h2
    exact Nat.le_trans h1 h2
  ·cases h
   exact ⟨num_range hn, Nat.zero_le _⟩
theorem keepsF_ok : ∀ (ws : List Str) (l : List Kp), keepsF ws = .ok l → l.length = ws.length ∧ ∀ k ∈ l, IsI k.n ∧ ∃ s ∈ ws, k.junk.length ≤ s.length
 | [], l, h => by rw [keepsF] at h; cases h; exact ⟨rfl, fun n hn => by simp at hn⟩
 | s :: ws, l, h => by
  rw [keepsF] at h
  cases hs : keepF s with
  | error e => rw [hs] at h; cases h
  | ok k =>
   rw [hs] at h
   simp only [] at h
   cases hr : keepsF ws with
   | error e => rw [hr] at h; cases h
   | ok r =>
    rw [hr] at h
    cases h
    obtain ⟨h1, h2⟩ := keepsF_ok ws r hr
    refine ⟨by simp [h1], fun x hx => ?_⟩
    rcases List.mem_cons.1 hx with rfl | hx
    ·exact ⟨(keepF_ok hs).1, s, by simp, (keepF_ok hs).2⟩
    ·obtain ⟨h3, t, h4, h5⟩ := h2 x hx
     exact ⟨h3, t, List.mem_cons_of_mem _ h4, h5⟩
theorem faultKind_range (s : Str) : 0 ≤ faultKind s ∧ faultKind s ≤ 4 := by
 unfold faultKind
 repeat' split
 all_goals omega
theorem callKind_range (s : Str) : 0 ≤ callKind s ∧ callKind s ≤ 7 := by
 unfold callKind
 repeat' split
 all_goals omega
theorem inv_arm {p : Play} {f : Fault} (h : Inv p) (hf : FaultOk f) (hk : 1 ≤ f.kind ∧ f.kind ≤ 4) (hl : (armed p).length < 64) : Inv (arm p f) := by
 unfold arm
 unfold armed at hl
 cases he : p.ends.getLast? with
 | none =>
  rw [he] at hl
  simp only [] at hl ⊢
  refine ⟨⟨{ h.pt.ok with faults := ?_ }, ⟨?_, ?_⟩, h.pt.tasks, h.pt.picks, h.pt.ends⟩, h.sm.data, h.sm.junk⟩
  ·intro x hx
   rcases List.mem_append.1 hx with hx | hx
   ·exact h.pt.ok.faults x hx
   ·obtain rfl : x = f := by simpa using hx
    exact hf
  ·simp; omega
  ·intro x hx
   rcases List.mem_append.1 hx with hx | hx
   ·exact h.pt.faults.2 x hx
   ·obtain rfl : x = f := by simpa using hx
    exact hk
 | some r =>
  rw [he] at hl
  simp only [] at hl ⊢
  obtain ⟨pre, hpre⟩ : ∃ pre, p.ends = pre ++ [r] := List.getLast?_eq_some_iff.1 he
  have hd : p.ends.dropLast = pre := by rw [hpre]; simp
  rw [hd]
  have hr : r ∈ p.ends := by rw [hpre]; simp
  have hpm : ∀ x ∈ pre, x ∈ p.ends := fun x hx => by rw [hpre]; simp [hx]
  have hE := h.pt.ends
  have hrE := hE.2 r hr
  have hlen : pre.length + 1 ≤ 16 := by have := hE.1; rw [hpre] at this; simpa using this
  refine ⟨⟨{ h.pt.ok with ends := ?_ }, h.pt.faults, h.pt.tasks, h.pt.picks, ⟨?_, ?_⟩⟩, h.sm.data, ?_⟩
  ·intro x hx
   rcases List.mem_append.1 hx with hx | hx
   ·exact h.pt.ok.ends x (hpm x hx)
   ·obtain rfl : x = { r with faults := r.faults ++ [f] } := by simpa using hx
    have := h.pt.ok.ends r hr
    refine ⟨this.1, this.2.1, fun y hy => ?_⟩
    rcases List.mem_append.1 hy with hy | hy
    ·exact this.2.2 y hy
    ·obtain rfl : y = f := by simpa using hy
     exact hf
  ·simp; omega
  ·intro x hx
   rcases List.mem_append.1 hx with hx | hx
   ·exact hE.2 x (hpm x hx)
   ·obtain rfl : x = { r with faults := r.faults ++ [f] } := by simpa using hx
    refine ⟨by simp; omega, hrE.2.1, fun y hy => ?_⟩
    rcases List.mem_append.1 hy with hy | hy
    ·exact hrE.2.2 y hy
    ·obtain rfl : y = f := by simpa using hy
     exact hk
  ·intro x hx
   rcases List.mem_append.1 hx with hx | hx
   ·exact h.sm.junk x (hpm x hx)
   ·obtain rfl : x = { r with faults := r.faults ++ [f] } := by simpa using hx
    exact h.sm.junk r hr
theorem inv_call {p : Play} {c : Call} (h : Inv p) (hne : p.tasks ≠ []) (hr : rightF c = true) (hi : IsI c.lsn) (hd : c.data.length ≤ 65536) (hl : (p.tasks.getLastD []).length < 256) : Inv (callTo p c) := by
 obtain ⟨t, ht⟩ : ∃ t, p.tasks.getLast? = some t := ⟨_, List.getLast?_eq_some_getLast hne⟩
 obtain ⟨pre, hpre⟩ : ∃ pre, p.tasks = pre ++ [t] := List.getLast?_eq_some_iff.1 ht
 have hl' : t.length < 256 := by rw [hpre] at hl; simpa [List.getLastD_eq_getLast?] using hl
 rw [callTo_is hpre]
 have htm : t ∈ p.tasks := by rw [hpre]; simp
 have hpm : ∀ x ∈ pre, x ∈ p.tasks := fun x hx => by rw [hpre]; simp [hx]
 have hlen : pre.length + 1 ≤ 16 := by have := h.pt.tasks.1; rw [hpre] at this; simpa using this
 have key : ∀ (Q : Call → Prop), (∀ l ∈ p.tasks, ∀ x ∈ l, Q x) → Q c → ∀ l ∈ pre ++ [t ++ [c]], ∀ x ∈ l, Q x := by
  intro Q h1 h2 l hl x hx
  rcases List.mem_append.1 hl with hl | hl
  ·exact h1 l (hpm l hl) x hx
  ·obtain rfl : l = t ++ [c] := by simpa using hl
   rcases List.mem_append.1 hx with hx | hx
   ·exact h1 t htm x hx
   ·obtain rfl : x = c := by simpa using hx
    exact h2
 refine ⟨⟨{ h.pt.ok with calls := key (fun x => IsI x.lsn) h.pt.ok.calls hi }, h.pt.faults, ⟨by simp; omega, fun l hl => ⟨?_, key (fun x => rightF x = true) (fun l hl => (h.pt.tasks.2 l hl).2) hr l hl⟩⟩, h.pt.picks, h.pt.ends⟩, key (fun x => x.data.length ≤ 65536) h.sm.data hd, h.sm.junk⟩
 rcases List.mem_append.1 hl with hl | hl
 ·exact (h.pt.tasks.2 l (hpm l hl)).1
 ·obtain rfl : l = t ++ [c] := by simpa using hl
  simp
  omega
theorem getD_len {ws : List Str} {N : Nat} (h : ∀ x ∈ ws, x.length ≤ N) (i : Nat) : (ws.getD i []).length ≤ N := by
 rcases Nat.lt_or_ge i ws.length with hi | hi
 ·rw [List.getD_eq_getElem?_getD, List.getElem?_eq_getElem hi]
  exact h _ (List.getElem_mem hi)
 ·rw [List.getD_eq_getElem?_getD, List.getElem?_eq_none hi]; simp
theorem inv_take {p q : Play} {k : Int} {x : Str} {ws : List Str} (h : Inv p) (hk1 : 1 ≤ k) (hk2 : k ≤ 7) (hkx : kindOf x = k) (hne : k = 5 → p.tasks ≠ []) (hws : ∀ s ∈ ws, s.length ≤ 65536) (hf : full p k ws.length = false) (ht : takeF p k x ws = .ok q) : Inv q := by
 unfold takeF at ht
 by_cases h1 : k = 1
 ·rw [if_pos h1] at ht
  unfold playF at ht
  split at ht
  ·rename_i a b c d e f g hl
   have hr := (nums_range _ _ hl).2
   split at ht
   ·cases ht
   ·split at ht
    ·cases ht
    ·cases ht
     exact ⟨⟨{ h.pt.ok with disk := hr a (by simp), segMax := hr b (by simp), base := hr c (by simp), qcap := hr d (by simp), qbytes := hr e (by simp), pmost := hr f (by simp), pbytes := hr g (by simp), linger := readF_lt _, alpha := readF_lt _ }, h.pt.faults, h.pt.tasks, h.pt.picks, h.pt.ends⟩, h.sm.data, h.sm.junk⟩
  ·cases ht
 rw [if_neg h1] at ht
 by_cases h2 : k = 2
 ·rw [if_pos h2] at ht
  split at ht
  ·cases ht
  ·rename_i n hn
   cases ht
   exact ⟨⟨{ h.pt.ok with most := num_range hn }, h.pt.faults, h.pt.tasks, h.pt.picks, h.pt.ends⟩, h.sm.data, h.sm.junk⟩
 rw [if_neg h2] at ht
 by_cases h3 : k = 3
 ·rw [if_pos h3] at ht
  have hf2 : ¬ 64 ≤ (Sc.armed p).length := by
   unfold full at hf
   rw [if_pos h3] at hf
   simpa using hf
  unfold faultF at ht
  split at ht
  ·cases ht
  ·rename_i a ha
   split at ht
   ·cases ht
   ·rename_i hk
    split at ht
    ·cases ht
    ·rename_i n hn
     cases ht
     have hr := faultKind_range (ws.getD 1 [])
     exact inv_arm h ⟨num_range ha, num_range hn⟩ ⟨by show 1 ≤ faultKind (ws.getD 1 []); omega, hr.2⟩ (by omega)
 rw [if_neg h3] at ht
 by_cases h4 : k = 4
 ·rw [if_pos h4] at ht
  have hf2 : ¬ 16 ≤ p.tasks.length := by
   unfold full at hf
   rw [if_neg h3, if_pos h4] at hf
   simpa using hf
  cases ht
  have key : ∀ (Q : Call → Prop), (∀ l ∈ p.tasks, ∀ x ∈ l, Q x) → ∀ l ∈ p.tasks ++ [[]], ∀ x ∈ l, Q x := by
   intro Q h1 l hl x hx
   rcases List.mem_append.1 hl with hl | hl
   ·exact h1 l hl x hx
   ·obtain rfl : l = [] := by simpa using hl
    simp at hx
  refine ⟨⟨{ h.pt.ok with calls := key _ h.pt.ok.calls }, h.pt.faults, ⟨by simp; omega, fun l hl => ⟨?_, key (fun x => rightF x = true) (fun l hl => (h.pt.tasks.2 l hl).2) l hl⟩⟩, h.pt.picks, h.pt.ends⟩, key _ h.sm.data, h.sm.junk⟩
  rcases List.mem_append.1 hl with hl | hl
  ·exact (h.pt.tasks.2 l hl).1
  ·obtain rfl : l = [] := by simpa using hl
   simp
 rw [if_neg h4] at ht
 by_cases h5 : k = 5
 ·rw [if_pos h5] at ht
  have hf2 : ¬ 256 ≤ (p.tasks.getLastD []).length := by
   unfold full at hf
   rw [if_neg h3, if_neg h4, if_pos h5] at hf
   simpa using hf
  have hn0 := kind_call (hkx.trans h5)
  have hcr := callKind_range x
  have hi0 : IsI 0 := ⟨by decide, by decide⟩
  unfold callF at ht
  split at ht
  ·rename_i k1
   split at ht
   ·cases ht
   ·rename_i b hb
    cases ht
    exact inv_call h (hne h5) (by unfold rightF; rw [if_pos k1]; rfl) hi0 (Nat.le_trans (hex_len hb) (getD_len hws 0)) (by omega)
  ·rename_i k1
   split at ht
   ·rename_i k2
    split at ht
    ·cases ht
    ·rename_i n hn
     cases ht
     exact inv_call h (hne h5) (by unfold rightF; rw [if_neg k1, if_neg (by show ¬ (callKind x = 3 ∨ callKind x = 7); omega), if_pos k2]; rfl) (num_range hn) (Nat.zero_le _) (by omega)
   ·rename_i k2
    cases ht
    exact inv_call h (hne h5) (by unfold rightF; rw [if_neg k1, if_pos (by show callKind x = 3 ∨ callKind x = 7; omega)]; rfl) hi0 (Nat.zero_le _) (by omega)
 rw [if_neg h5] at ht
 by_cases h6 : k = 6
 ·rw [if_pos h6] at ht
  have hf2 : ¬ 65536 < p.picks.length + ws.length := by
   unfold full at hf
   rw [if_neg h3, if_neg h4, if_neg h5, if_pos h6] at hf
   simpa using hf
  split at ht
  ·cases ht
  ·rename_i l hl
   cases ht
   obtain ⟨hn, hr⟩ := nums_range _ _ hl
   refine ⟨⟨{ h.pt.ok with picks := fun n hn => ?_ }, h.pt.faults, h.pt.tasks, by simp; omega, h.pt.ends⟩, h.sm.data, h.sm.junk⟩
   rcases List.mem_append.1 hn with hn | hn
   ·exact h.pt.ok.picks n hn
   ·exact hr n hn
 rw [if_neg h6] at ht
 have h7 : k = 7 := by omega
 have hf2 : ¬ (16 ≤ p.ends.length ∨ 257 < ws.length) := by
  unfold full at hf
  rw [if_neg h3, if_neg h4, if_neg h5, if_neg h6, if_pos h7] at hf
  simp at hf
  omega
 unfold endF at ht
 split at ht
 ·cases ht
 ·rename_i d hd
  split at ht
  ·cases ht
  ·rename_i ks hks
   cases ht
   obtain ⟨hl, hk⟩ := keepsF_ok _ _ hks
   rw [List.length_drop] at hl
   refine ⟨⟨{ h.pt.ok with ends := ?_ }, h.pt.faults, h.pt.tasks, h.pt.picks, ⟨by simp; omega, ?_⟩⟩, h.sm.data, ?_⟩
   ·intro r hr
    rcases List.mem_append.1 hr with hr | hr
    ·exact h.pt.ok.ends r hr
    ·obtain rfl : r = ⟨d, ks, []⟩ := by simpa using hr
     exact ⟨num_range hd, fun y hy => (hk y hy).1, fun y hy => by simp at hy⟩
   ·intro r hr
    rcases List.mem_append.1 hr with hr | hr
    ·exact h.pt.ends.2 r hr
    ·obtain rfl : r = ⟨d, ks, []⟩ := by simpa using hr
     exact ⟨Nat.zero_le _, by show ks.length ≤ 256; omega, fun y hy => by simp at hy⟩
   ·intro r hr
    rcases List.mem_append.1 hr with hr | hr
    ·exact h.sm.junk r hr
    ·obtain rfl : r = ⟨d, ks, []⟩ := by simpa using hr
     intro y hy
     obtain ⟨-, s, hs, hle⟩ := hk y hy
     exact Nat.le_trans hle (hws s (List.mem_of_mem_drop hs))
theorem wsp_le : ∀ (s cur : Str) (x : Str), x ∈ wsp cur s → x.length ≤ cur.length + s.length
 | [], cur, x, h => by
  rw [wsp] at h
  split at h
  ·simp at h
  ·simp at h; subst h; simp
 | c :: s, cur, x, h => by
  rw [wsp] at h
  split at h
  ·split at h
   ·have := wsp_le s [] x h; simp at this ⊢; omega
   ·rcases List.mem_cons.1 h with rfl | h
    ·simp
    ·have := wsp_le s [] x h; simp at this ⊢; omega
  ·have := wsp_le s (cur ++ [c]) x h; simp at this ⊢; omega
theorem inv_line {σ σ' : PS} {s : Str} (h : Inv σ.p) (hs : s.length ≤ 65536) (hl : lineF σ s = .ok σ') : Inv σ'.p := by
 unfold lineF at hl
 have hal := ahead_len 35 s
 rw [← bare_is] at hal
 by_cases h1 : (bare s).all okB = false
 ·rw [if_pos h1] at hl; cases hl
 rw [if_neg h1] at hl
 cases hw : wordsOf (bare s) with
 | nil => rw [hw] at hl; cases hl; exact h
 | cons x ws =>
  rw [hw] at hl
  simp only [] at hl
  have hws : ∀ y ∈ ws, y.length ≤ 65536 := fun y hy => by
   have := wsp_le (bare s) [] y (by unfold wordsOf at hw; rw [hw]; exact List.mem_cons_of_mem _ hy)
   simp at this
   omega
  by_cases h2 : kindOf x = 0
  ·rw [if_pos h2] at hl; cases hl
  rw [if_neg h2] at hl
  by_cases h3 : nxt σ.st (kindOf x) = 6 ∨ (kindOf x = 5 ∧ σ.p.tasks = [])
  ·rw [if_pos h3] at hl; cases hl
  rw [if_neg h3] at hl
  by_cases h4 : full σ.p (kindOf x) ws.length = true
  ·rw [if_pos h4] at hl; cases hl
  rw [if_neg h4] at hl
  by_cases h5 : counts (kindOf x) x ws.length = false
  ·rw [if_pos h5] at hl; cases hl
  rw [if_neg h5] at hl
  cases ht : takeF σ.p (kindOf x) x ws with
  | error e => rw [ht] at hl; cases hl
  | ok p =>
   rw [ht] at hl
   cases hl
   have hr := kind_range x
   exact inv_take h (by omega) hr.2 rfl (fun h5 e => h3 (Or.inr ⟨h5, e⟩)) hws (by simpa using h4) ht
theorem lines_le : ∀ (s : Str) (x : Str), x ∈ linesOf s → x.length ≤ s.length
 | [], x, h => by simp [linesOf] at h
 | c :: s, x, h => by
  rw [lines_cons] at h
  split at h
  ·rcases List.mem_cons.1 h with rfl | h
   ·simp
   ·have := lines_le s x h; simp; omega
  ·split at h
   ·simp at h; subst h; simp
   ·rename_i l ls hl
    rcases List.mem_cons.1 h with rfl | h
    ·have := lines_le s l (by rw [hl]; simp); simp; omega
    ·have := lines_le s x (by rw [hl]; simp [h]); simp; omega
theorem inv_from : ∀ (l : List Str) (σ σ' : PS) (n : Nat), Inv σ.p → (∀ s ∈ l, s.length ≤ 65536) → parseFrom σ n l = .ok σ' → Inv σ'.p
 | [], σ, σ', n, h, _, hp => by rw [parseFrom] at hp; cases hp; exact h
 | s :: l, σ, σ', n, h, hs, hp => by
  rw [parseFrom] at hp
  cases hl : lineF σ s with
  | error e => rw [hl] at hp; cases hp
  | ok σ2 =>
   rw [hl] at hp
   exact inv_from l σ2 σ' (n + 1) (inv_line h (hs s (by simp)) hl) (fun x hx => hs x (List.mem_cons_of_mem _ hx)) hp
theorem inv_parse (s : Str) : Inv (parseF s).1 := by
 unfold parseF
 split
 ·exact inv0
 ·rename_i hs
  cases h : parseFrom ⟨play0, 0⟩ 0 (linesOf s) with
  | error p => exact inv0
  | ok σ =>
   simp only []
   split
   ·exact inv0
   ·exact inv_from _ _ _ _ inv0 (fun x hx => by have := lines_le s x hx; omega) h
theorem flat_max {α : Type} (f : α → Str) (M : Nat) : ∀ (l : List α), (∀ x ∈ l, (f x).length ≤ M) → (l.flatMap f).length ≤ l.length * M
 | [], _ => by simp
 | x :: l, h => by
  have h1 := h x (by simp)
  have h2 := flat_max f M l fun y hy => h y (List.mem_cons_of_mem _ hy)
  rw [List.flatMap_cons, List.length_append, List.length_cons, Nat.succ_mul]
  omega
theorem put_max (M : Nat) : ∀ (ws : List Str), (∀ x ∈ ws, x.length ≤ M) → (putL ws).length ≤ ws.length * (M + 1) + 1
 | [], _ => by simp [putL, bod]
 | w :: ws, h => by
  have h1 := h w (by simp)
  have h2 := flat_max (fun x => 32 :: x) (M + 1) ws fun y hy => by have := h y (List.mem_cons_of_mem _ hy); simpa using this
  unfold putL bod
  rw [show (w :: ws).length = ws.length + 1 from rfl, Nat.succ_mul, List.length_append, List.length_append, List.length_singleton]
  omega
theorem dec_max {n : Int} (h : IsI n) : (decS n).length ≤ 21 := Lib.itoa_length_le n h.1 h.2
theorem word_max (k : Int) : (callWord k).length ≤ 8 ∧ (faultWord k).length ≤ 5 := by
 constructor
 ·unfold callWord
  repeat' split
  all_goals decide
 ·unfold faultWord
  repeat' split
  all_goals decide
theorem faults_max {l : List Fault} (h : ∀ f ∈ l, FaultOk f) : (faultsS l).length ≤ l.length * 89 := by
 unfold faultsS
 refine flat_max _ _ _ fun f hf => ?_
 obtain ⟨h1, h2⟩ := h f hf
 have := put_max 21 [[102, 97, 117, 108, 116], decS f.at_, faultWord f.kind, decS f.part] (by
  intro x hx
  simp at hx
  rcases hx with rfl | rfl | rfl | rfl
  ·decide
  ·exact dec_max h1
  ·have := (word_max f.kind).2; omega
  ·exact dec_max h2)
 simpa [faultL] using this
theorem pairs_max (b : Str) : (pairsS b).length ≤ 2 * b.length + 1 := by
 unfold pairsS
 split
 ·simp
 ·rw [two_len]; omega
theorem call_max {c : Call} {N : Nat} (hd : c.data.length ≤ N) (hi : IsI c.lsn) : (callT c).length ≤ 4 * N + 100 := by
 have hw := (word_max c.kind).1
 have hp := pairs_max c.data
 have hn := dec_max hi
 unfold callT
 repeat' split
 ·omega
 all_goals
  unfold putL bod
  simp
  omega
theorem keep_max {k : Kp} {N : Nat} (hd : k.junk.length ≤ N) (hi : IsI k.n) : (keepT k).length ≤ 2 * N + 30 := by
 have hn := dec_max hi
 have hp := pairs_max (k.junk.take 65536)
 rw [List.length_take] at hp
 unfold keepT
 rw [List.length_append]
 split
 ·simp; omega
 ·rw [List.length_cons]; omega
theorem head_max {p : Play} (hok : PlayOk p) (hT : (txtS p.linger).length ≤ 1073741824 ∧ (txtS p.alpha).length ≤ 1073741824) : (headS p).length ≤ 21474836480 := by
 have h1 := put_max 1073741824 [[112, 108, 97, 121], decS p.disk, decS p.segMax, decS p.base, decS p.qcap, decS p.qbytes, decS p.pmost, decS p.pbytes, txtS p.linger, txtS p.alpha] (by
  have key : ∀ {n : Int}, IsI n → (decS n).length ≤ 1073741824 := fun h => Nat.le_trans (dec_max h) (by decide)
  intro x hx
  simp only [List.mem_cons, List.not_mem_nil, or_false] at hx
  rcases hx with rfl | rfl | rfl | rfl | rfl | rfl | rfl | rfl | rfl | rfl
  ·exact Nat.le_of_ble_eq_true rfl
  ·exact key hok.disk
  ·exact key hok.segMax
  ·exact key hok.base
  ·exact key hok.qcap
  ·exact key hok.qbytes
  ·exact key hok.pmost
  ·exact key hok.pbytes
  ·exact hT.1
  ·exact hT.2)
 have h2 := put_max 21 [[109, 111, 115, 116], decS p.most] (by
  intro x hx
  simp only [List.mem_cons, List.not_mem_nil, or_false] at hx
  rcases hx with rfl | rfl
  ·decide
  ·exact dec_max hok.most)
 unfold headS
 rw [List.length_append]
 simp only [List.length_cons, List.length_nil] at h1 h2
 exact Nat.le_trans (Nat.add_le_add h1 h2) (by omega)
theorem task_max {l : List Call} {N : Nat} (hl : l.length ≤ 256) (hs : ∀ c ∈ l, c.data.length ≤ N) (hi : ∀ c ∈ l, IsI c.lsn) : (taskS l).length ≤ 5 + 256 * (4 * N + 100) := by
 have h1 := flat_max callT (4 * N + 100) l fun c hc => call_max (hs c hc) (hi c hc)
 have h3 := Nat.mul_le_mul_right (4 * N + 100) hl
 unfold taskS
 rw [List.length_append]
 exact Nat.add_le_add (by decide) (Nat.le_trans h1 h3)
theorem picks_max {l : List Int} (hl : l.length ≤ 65536) (h : ∀ n ∈ l, IsI n) : (picksS l).length ≤ 65537 * 22 + 1 := by
 unfold picksS
 split
 ·exact Nat.zero_le _
 ·have h1 := put_max 21 ([112, 105, 99, 107, 115] :: l.map decS) (by
   intro x hx
   rcases List.mem_cons.1 hx with rfl | hx
   ·decide
   ·obtain ⟨n, hn, rfl⟩ := List.mem_map.1 hx
    exact dec_max (h n hn))
  rw [List.length_cons, List.length_map] at h1
  exact Nat.le_trans h1 (Nat.add_le_add_right (Nat.mul_le_mul_right _ (show l.length + 1 ≤ 65537 by omega)) 1)
theorem end_max {r : Reopen} {N : Nat} (h1 : r.faults.length ≤ 64) (h2 : r.keeps.length ≤ 256) (hr : EndOk r) (hs : ∀ k ∈ r.keeps, k.junk.length ≤ N) : (endT r).length ≤ 258 * (2 * N + 31) + 1 + 64 * 89 := by
 obtain ⟨h4, h5, h6⟩ := hr
 have h7 := put_max (2 * N + 30) ([101, 110, 100] :: decS r.dir :: r.keeps.map keepT) (by
  intro x hx
  rcases List.mem_cons.1 hx with rfl | hx
  ·show 3 ≤ _; omega
  ·rcases List.mem_cons.1 hx with rfl | hx
   ·exact Nat.le_trans (dec_max h4) (by omega)
   ·obtain ⟨k, hk, rfl⟩ := List.mem_map.1 hx
    exact keep_max (hs k hk) (h5 k hk))
 have h8 := faults_max h6
 rw [List.length_cons, List.length_cons, List.length_map] at h7
 have h9 : (r.keeps.length + 1 + 1) * (2 * N + 30 + 1) ≤ 258 * (2 * N + 31) := Nat.mul_le_mul_right _ (by omega)
 have h10 : r.faults.length * 89 ≤ 64 * 89 := Nat.mul_le_mul_right _ h1
 unfold endT
 rw [List.length_append]
 exact Nat.add_le_add (Nat.le_trans h7 (Nat.add_le_add_right h9 1)) (Nat.le_trans h8 h10)
theorem full_max {p : Play} {N : Nat} (h : Pt p) (hs : Sml N p) (hN : N ≤ 1048576) (hT : (txtS p.linger).length ≤ 1073741824 ∧ (txtS p.alpha).length ≤ 1073741824) : (fullS p).length ≤ 1099511627776 := by
 have hok := h.ok
 have e1 := head_max hok hT
 have e2 := faults_max hok.faults
 have e3 := flat_max taskS (5 + 256 * (4 * N + 100)) p.tasks fun l hl => task_max (h.tasks.2 l hl).1 (hs.data l hl) (hok.calls l hl)
 have e4 := picks_max h.picks hok.picks
 have e5 := flat_max endT (258 * (2 * N + 31) + 1 + 64 * 89) p.ends fun r hr => end_max (h.ends.2 r hr).1 (h.ends.2 r hr).2.1 (hok.ends r hr) (hs.junk r hr)
 have m0 : p.faults.length * 89 ≤ 64 * 89 := Nat.mul_le_mul_right _ h.faults.1
 have m1 : p.tasks.length * (5 + 256 * (4 * N + 100)) ≤ 16 * (5 + 256 * (4 * N + 100)) := Nat.mul_le_mul_right _ h.tasks.1
 have m2 : p.ends.length * (258 * (2 * N + 31) + 1 + 64 * 89) ≤ 16 * (258 * (2 * N + 31) + 1 + 64 * 89) := Nat.mul_le_mul_right _ h.ends.1
 have e2 := Nat.le_trans e2 m0
 have e3 := Nat.le_trans e3 m1
 have e5 := Nat.le_trans e5 m2
 unfold fullS
 simp only [List.length_append]
 generalize (headS p).length = a1 at *
 generalize (faultsS p.faults).length = a2 at *
 generalize (p.tasks.flatMap taskS).length = a3 at *
 generalize (picksS p.picks).length = a4 at *
 generalize (p.ends.flatMap endT).length = a5 at *
 clear hs hok h hT m0 m1 m2
 omega

def bg1 : Str := [112, 108, 97, 121, 32, 49, 48, 48, 48, 32, 54, 52, 32, 49, 32, 52, 32, 49, 48, 48, 32, 52, 32, 49, 48, 48, 32, 48, 32, 48, 46, 53, 10, 109, 111, 115, 116, 32, 53, 48, 10, 116, 97, 115, 107, 10, 97, 112, 112, 101, 110, 100, 32, 54, 49, 10, 115, 121, 110, 99, 10, 112, 105, 99, 107, 115, 32, 48, 32, 49, 10, 101, 110, 100, 32, 48, 32, 51, 32, 48, 58, 102, 102, 10]
def bg2 : Str := [109, 111, 115, 116, 32, 53]
def bgP : Play := ⟨1000, 64, 1, 4, 100, 4, 100, 0, 4602678819172646912, [], [[⟨1, 0, [97]⟩, ⟨3, 0, []⟩]], [0, 1], 50, [⟨0, [⟨3, []⟩, ⟨0, [255]⟩], []⟩]⟩
def oneP : Play := ⟨1048576, 4096, 1, 4, 1000, 8, 1000, 0, 4602678819172646912, [], [[⟨1, 0, [97]⟩]], [], 1000, []⟩
theorem dec_of (n : Nat) : decS (n : Int) = Lib.decDigits n := by
 unfold decS Lib.itoa
 rw [if_neg (by omega)]
 rfl
theorem d0 : decS 0 = [48] := by have := dec_of 0; simpa [Lib.decDigits] using this
theorem d1 : decS 1 = [49] := by have := dec_of 1; simpa [Lib.decDigits] using this
theorem d3 : decS 3 = [51] := by have := dec_of 3; simpa [Lib.decDigits] using this
theorem d4 : decS 4 = [52] := by have := dec_of 4; simpa [Lib.decDigits] using this
theorem d8 : decS 8 = [56] := by have := dec_of 8; simpa [Lib.decDigits] using this
theorem d50 : decS 50 = [53, 48] := by have := dec_of 50; simpa [Lib.decDigits] using this
theorem d64 : decS 64 = [54, 52] := by have := dec_of 64; simpa [Lib.decDigits] using this
theorem d100 : decS 100 = [49, 48, 48] := by have := dec_of 100; simpa [Lib.decDigits] using this
theorem d1000 : decS 1000 = [49, 48, 48, 48] := by have := dec_of 1000; simpa [Lib.decDigits] using this
theorem d4096 : decS 4096 = [52, 48, 57, 54] := by have := dec_of 4096; simpa [Lib.decDigits] using this
theorem d1048576 : decS 1048576 = [49, 48, 52, 56, 53, 55, 54] := by have := dec_of 1048576; simpa [Lib.decDigits] using this
theorem bg_full (t0 : txtS 0 = [48]) (th : txtS 4602678819172646912 = [48, 46, 53]) : fullS bgP = bg1 := by
 unfold fullS headS faultsS picksS bgP
 simp only [d0, d1, d3, d4, d50, d64, d100, d1000, t0, th, List.flatMap_cons, List.flatMap_nil, List.append_nil, taskS, callT, endT, keepT, faultsS, List.map_cons, List.map_nil]
 rfl
theorem one_full (t0 : txtS 0 = [48]) (th : txtS 4602678819172646912 = [48, 46, 53]) : (fullS oneP).length = 65 := by
 unfold fullS headS faultsS picksS oneP
 simp only [d0, d1, d4, d8, d1000, d4096, d1048576, t0, th, List.flatMap_cons, List.flatMap_nil, List.append_nil, taskS, callT]
 rfl
theorem bg_pt : Pt bgP := by
 refine ⟨⟨?_, ?_, ?_, ?_, ?_, ?_, ?_, by decide, by decide, ?_, ?_, ?_, ?_, ?_⟩, ?_, ?_, ?_, ?_⟩
 all_goals simp [bgP, IsI, EndOk, rightF]
theorem one_inv : Inv oneP := by
 refine ⟨⟨⟨?_, ?_, ?_, ?_, ?_, ?_, ?_, by decide, by decide, ?_, ?_, ?_, ?_, ?_⟩, ?_, ?_, ?_, ?_⟩, ?_, ?_⟩
 all_goals simp [oneP, IsI, EndOk, rightF]
theorem bg2_parse : parseF bg2 = (play0, 1, 63) := by
 have hl : linesOf bg2 = [bod [[109, 111, 115, 116], [53]]] := by decide
 have hs : lineF ⟨play0, 0⟩ (bod [[109, 111, 115, 116], [53]]) = .error 63 := by
  rw [line_bod _ _ _ (by decide)]
  unfold stepF
  rw [if_neg (by decide), if_pos (Or.inl (by decide))]
 unfold parseF
 rw [if_neg (by decide), hl, parseFrom, hs]
end Sc
end Go.Proofs.YtkkecpamnnojoaaGreatDoor
namespace Go.Proofs.YtkkecpamnnojoaaGreatDoor
open Go.ChangeShapes Go.WideShapes Go.ChangeAt Go.RowKit
open Bt Dc
set_option linter.unusedVariables false
namespace Sc

theorem txt_rr {B : Nat} {w : World} (hE : Ev B w) (u : Nat) (hu : u < 18446744073709551616) : RrOk (txt u) (canW u) 0 := by
 obtain ⟨e, w', fr, hr, -⟩ := hE.read (txt u) (txt_size hu) []
 obtain ⟨⟨y, k, -, hrr⟩, -⟩ := hr
 obtain ⟨rfl, rfl⟩ := hrr.yes u hu rfl
 exact hrr
theorem txt_read {B : Nat} {w : World} (hE : Ev B w) (u : Nat) (hu : u < 18446744073709551616) : readF (txtS u) = (canW u, 0) := readF_of (by rw [txtS_b]; exact txt_rr hE u hu)
theorem txt_gw (u : Nat) (hu : u < 18446744073709551616) : gw (txtS u) = true := by
 unfold txtS
 rcases three hu with ⟨h1, h2⟩ | ⟨h1, h2⟩ | ⟨h1, h2⟩ | ⟨h1, h2, h3⟩
 ·rw [h2]; decide
 ·rw [h2]; decide
 ·rw [h2]; decide
 ·rw [h3]
  obtain ⟨hc, -⟩ := Us.textF_chr h1
  have hp := textF_pos u
  have e : (strOf (Us.textF u)).data.toList = (Us.textF u).map (fun n => UInt8.ofNat n) := by
   unfold strOf strOfNums
   simp
  rw [e]
  refine gw_of (fun h => ?_) fun c hcm => ?_
  ·have := congrArg List.length h
   simp at this
   rw [this] at hp
   simp at hp
  ·obtain ⟨n, hn, rfl⟩ := List.mem_map.1 hcm
   have h := hc n hn
   have h256 := Us.chr_lt h
   have : (UInt8.ofNat n).toNat = n := by rw [UInt8.toNat_ofNat']; omega
   rw [this]
   unfold Us.Chr at h
   omega
theorem txt_zero : txtS 0 = [48] := by
 unfold txtS
 rw [show txt 0 = ⟨#[48]⟩ by decide +kernel]
theorem txt_hf : txtS 4602678819172646912 = [48, 46, 53] := by
 unfold txtS
 rw [txt_half]
theorem txtS_max {u : Nat} (hu : u < 18446744073709551616) : (txtS u).length ≤ 1073741824 := by
 have h := txt_size hu
 have : (txtS u).length = (txt u).size := by unfold txtS; rw [Array.length_toList]; rfl
 rw [this]
 exact h
end Sc
end Go.Proofs.YtkkecpamnnojoaaGreatDoor
namespace Go.Proofs.YtkkecpamnnojoaaGreatDoor
open Go.ChangeShapes Go.WideShapes Go.ChangeAt Go.RowKit Go.Shelf
open Bt Dc By
set_option linter.unusedVariables false
namespace Sc

theorem plain_any (base most : Int) (w : World) : Calls Tryz.prog 38 #[.int .i64 base, .int .i64 most] w fun e w' => e = .returned (.agg #[.int .i64 4096, .int .i64 base, .int .i64 4, .int .i64 1000, .int .i64 most, .int .i64 1000, .float .f64 0, .float .f64 4602678819172646912]) ∧ Keep (fun _ => False) w w' := by
 go_enter Tryz.func38, Tryz.ntmps38
 go_wp2
 exact bodyPost_ret (v := .agg #[.int .i64 4096, .int .i64 base, .int .i64 4, .int .i64 1000, .int .i64 most, .int .i64 1000, .float .f64 0, .float .f64 4602678819172646912]) (by simp [results, Tryz.results38, go_sem]) rfl ⟨rfl, (Keep.refl _ _).alloc _⟩
theorem infoTs : ∃ i, Tryz.prog.info? 56 = some i ∧ i.zero = some (.slice none 0 0) ∧ i.size = 1 ∧ i.bytes = 24 := by
 have h : (Tryz.prog.info? 56).map (fun i => (i.zero, i.size, i.bytes)) = some (some (.slice none 0 0), 1, 24) := by kernel_rfl
 exact info_parts h
theorem cell_one_at (w : World) (u0 : Value) (t : TypeId) (g : Nat) (h : w.heap.size = g) : ∀ j u, [u0][j]? = some u → (w.alloc (.cells #[u0] t)).cell? ((⟨g, 0, none⟩ : Addr).add j) = some u := by
 subst h
 exact cell_one_new w u0 t
theorem row_from2 {w : World} {base sz n : Nat} {e : TypeId} {v : Value} {xs : List Value} (h : w.ownsRow base e sz v n xs) {g : Nat} (hg : v.ownBlock = some g) : base ≤ g := by
 rcases h.2 with ⟨h1, -⟩ | ⟨g2, c2, cur, h1, h2, -⟩
 ·rw [h1] at hg; cases hg
 ·rw [h1] at hg; cases hg; exact h2
theorem row_val1 {w : World} {base sz : Nat} {e : TypeId} {v : Value} {xs : List Value} (h : w.ownsRow base e sz v (0 + 1) xs) : ∃ o c, v = .slice o 1 c := by
 rcases h.2 with ⟨h1, h2⟩ | ⟨g, cap, cur, h1, -⟩
 ·omega
 ·exact ⟨_, cap, h1⟩
theorem slat_blk {w : World} {g n : Nat} {cs : Array Value} {t : TypeId} {fr : Nat × Nat} (h : w.heap[g]? = some (.cells cs t fr)) : SlAt w (.slice (some ⟨g, 0, none⟩) n n) n cs.toList :=
 ⟨_, n, rfl, Nat.le_refl _, fun i hi => ⟨g, 0, rfl, by rw [Nat.zero_add]; simp [World.cell?, h], lt_of_block h⟩, fun e => nomatch e⟩
theorem size_two {w : World} {q : Nat} (h : w.heap.size = q) (o1 o2 : Obj) : ((w.alloc o1).alloc o2).heap.size = q + 1 + 1 := by simp [h]
theorem size_one {w : World} {q : Nat} (h : w.heap.size = q) (o1 : Obj) : (w.alloc o1).heap.size = q + 1 := by simp [h]
theorem size_three {w : World} {q : Nat} (h : w.heap.size = q) (o1 o2 o3 : Obj) : q ≤ (((w.alloc o1).alloc o2).alloc o3).heap.size := by simp [h]; omega
theorem slat_nil (w : World) : SlAt w (.slice none 0 0) 0 [] := ⟨none, 0, rfl, Nat.le_refl _, fun i hi => by simp at hi, fun _ => rfl⟩
set_option maxRecDepth 100000 in
set_option maxHeartbeats 16000000 in
theorem one_any (w : World) : Calls Tryz.prog 16 #[.int .i64 1] w fun e w' => (∃ m : M, e = .returned (.agg m.val) ∧ m.play = oneP ∧ Seen w' m) ∧ Keep (fun _ => False) w w' := by
 obtain ⟨iS, hi0, hi1, hi2, hi3⟩ := infoTs
 have HI := Lib.hid (And.intro hi0 (And.intro hi1 (And.intro hi2 hi3)))
 clear hi0 hi1 hi2 hi3
 have HP := Lib.hid (plain_any 1 8)
 go_enter Tryz.func16, Tryz.ntmps16
 go_wp2_with (go_at_call 38; refine (HP.out _).mono ?_; rintro e w1 ⟨rfl, k1⟩; have HK := Lib.hid k1; clear k1)
 obtain ⟨q, hq⟩ : ∃ q, w1.heap.size = q := ⟨_, rfl⟩
 obtain ⟨W2, hW2⟩ : ∃ W2, w1.alloc (.cells #[.int .i64 1048576, .int .i64 4096, .int .i64 1, .int .i64 4, .int .i64 1000, .int .i64 8, .int .i64 1000, .float .f64 0, .float .f64 4602678819172646912, .slice none 0 0, .slice none 0 0, .slice none 0 0, .int .i64 1000, .slice none 0 0] 40) = W2 := ⟨_, rfl⟩
 have hb2 : W2.heap[q]? = some (.cells #[.int .i64 1048576, .int .i64 4096, .int .i64 1, .int .i64 4, .int .i64 1000, .int .i64 8, .int .i64 1000, .float .f64 0, .float .f64 4602678819172646912, .slice none 0 0, .slice none 0 0, .slice none 0 0, .int .i64 1000, .slice none 0 0] 40 (0, 0)) := by rw [← hW2, ← hq]; exact blk_new _ _
 have hs2 : W2.heap.size = q + 1 := by rw [← hW2, ← hq]; simp
 have k12 : Keep (fun _ => False) w1 W2 := by rw [← hW2]; exact (Keep.refl _ w1).alloc _
 obtain ⟨r, hr⟩ : ∃ r, w.heap.size = r := ⟨_, rfl⟩
 have hbr : W2.heap[r]? = some (.cells m0.val 40 (0, 0)) := by rw [← hr]; exact k12.same (HK.out.same (blk_new w _) id) id
 have hrq : r < q := by rw [← hq, ← hr]; have := HK.out.size; simp at this; omega
 have kw2 : Keep (fun _ => False) w W2 := (((Keep.refl _ w).alloc _).trans HK.out).trans k12
 have hwq : w.heap.size ≤ q := by omega
 have H2 := Lib.hid (And.intro hb2 (And.intro hs2 (And.intro hbr (And.intro hrq (And.intro kw2 (And.intro hwq hr))))))
 rw [hW2, hq, hr]
 have hcv := Go.Joins.run_convert_bytes_const_at (P := Tryz.prog) W2 53 5 #[.int .u8 97] 1 1 (q + 1) hs2.symm Tryz.underlying53 Tryz.underlying5
 clear hW2 hq hr hb2 hbr hrq k12 kw2 HP hwq
 go_loopg [4] 1 (fun gq s4 wr => ∃ k : Nat, gq + k = 1 ∧ s4 = .int .i64 (k : Int) ∧ Hid ((k = 0 → wr = W2) ∧ (k = 1 → ∃ (v : Value) (m : M), wr.heap[q]? = some (.cells #[.int .i64 1048576, .int .i64 4096, .int .i64 1, .int .i64 4, .int .i64 1000, .int .i64 8, .int .i64 1000, .float .f64 0, .float .f64 4602678819172646912, .slice none 0 0, v, .slice none 0 0, .int .i64 1000, .slice none 0 0] 40 (0, 0)) ∧ wr.heap[r]? = some (.cells m0.val 40 (0, 0)) ∧ m.val = #[.int .i64 1048576, .int .i64 4096, .int .i64 1, .int .i64 4, .int .i64 1000, .int .i64 8, .int .i64 1000, .float .f64 0, .float .f64 4602678819172646912, .slice none 0 0, v, .slice none 0 0, .int .i64 1000, .slice none 0 0] ∧ m.play = oneP ∧ (∀ W, Keep (fun g => g = r) wr W → Seen W m) ∧ Keep (fun _ => False) w wr)))
 case atStart => exact ⟨0, by omega, rfl, fun _ => rfl, fun h => by omega⟩
 case round =>
  obtain ⟨k, hgk, rfl, h0, h1⟩ := hrel
  by_cases hk : k = 0
  ·subst hk
   obtain rfl : wr = W2 := h0 rfl
   have c10 := blk_cell H2.out.1 10
   have f10 := blk_free H2.out.1 10
   simp at c10
   clear h0 h1
   go_wp2_with (at_builtin; refine wpList_append_own_at _ rfl (.tmp 13) (.tmp 18) 36 rfl (q + 1) 56 iS _ 1 24 Tryz.underlying36 HI.out.1 HI.out.2.1 HI.out.2.2.1 HI.out.2.2.2 rfl (by decide) (.slice none 0 0) 0 [] rfl (row_nil _ _ _ _) ⟨q + 1 + 1 + 1, 0, none⟩ 1 1 [.slice (some ⟨q + 1 + 1, 0, none⟩) 1 1] rfl rfl (cell_one_at _ _ _ _ (size_two H2.out.2.1 _ _)) (by simp [Value.oneCell']) (by unfold maxLen; omega) (by omega) (size_three H2.out.2.1 _ _ _) ?_; intro v4 w4 hown hgr _ _; obtain ⟨oT, cT, rfl⟩ := row_val1 hown; have hb1 := blk_none hgr (blk_alloc (blk_alloc (blk_new_at wr _ H2.out.2.1) _) _); have hb2 := blk_none hgr (blk_alloc (blk_new_at _ _ (size_one H2.out.2.1 _)) _); have kG : Keep (fun _ => False) wr w4 := ((((Keep.refl _ wr).alloc _).alloc _).alloc _).trans (keep_none hgr); have c10 := cell_kept kG c10; have f10 := (kG.frozen (p := ⟨q, 10, none⟩) (lt_of_block H2.out.1) id).trans f10; have HQ := Lib.hid (And.intro hown (And.intro hb1 (And.intro hb2 kG))); clear hown hgr hb1 hb2 kG)
   obtain ⟨W5, hW5⟩ : ∃ W5, w4.setCell ⟨q, 10, none⟩ (.slice oT 1 cT) = W5 := ⟨_, rfl⟩
   rw [hW5]
   have k45 : Keep (fun g => g = q) w4 W5 := by rw [← hW5]; exact (Keep.refl (fun g => g = q) w4).setCell (p := ⟨q, 10, none⟩) (Or.inl rfl) _
   have hq5 := blk_set (HQ.out.2.2.2.same H2.out.1 id) 10 (.slice oT 1 cT)
   rw [hW5] at hq5
   have hr5 := k45.same (HQ.out.2.2.2.same H2.out.2.2.1 id) (fun e => by have := H2.out.2.2.2.1; omega)
   have h1 := k45.same HQ.out.2.1 (fun e => by omega)
   have h2 := k45.same HQ.out.2.2.1 (fun e => by omega)
   have hrow := row_keep HQ.out.1 k45 fun g hg e => by have := row_from2 HQ.out.1 hg; omega
   have kw5 := (H2.out.2.2.2.2.1.trans HQ.out.2.2.2).own k45 fun i hi => Or.inr (by have := H2.out.2.2.2.2.2.1; omega)
   have HR := Lib.hid (And.intro hq5 (And.intro hr5 (And.intro h1 (And.intro h2 (And.intro hrow kw5)))))
   clear hW5 k45 hq5 hr5 h1 h2 hrow kw5
   go_roundg (gk - 1)
   all_goals first | omega | skip
   refine ⟨1, by omega, by simp, fun h => absurd h (by decide), fun _ => ⟨(.slice oT 1 cT), ⟨1048576, 4096, 1, 4, 1000, 8, 1000, 0, 4602678819172646912, .slice none 0 0, [], (.slice oT 1 cT), [⟨.slice (some ⟨q + 1 + 1, 0, none⟩) 1 1, [⟨⟨1, 0, [97]⟩, .slice (some ⟨q + 1, 0, none⟩) 1 1⟩]⟩], .slice none 0 0, [], 1000, .slice none 0 0, [], 0⟩, HR.out.1, HR.out.2.1, rfl, rfl, ?_, HR.out.2.2.2.2.2⟩⟩
   intro W kW
   have hrq := H2.out.2.2.2.1
   have g1 := kW.same HR.out.2.2.1 (fun e => by omega)
   have g2 := kW.same HR.out.2.2.2.1 (fun e => by omega)
   have g3 := row_keep HR.out.2.2.2.2.1 kW fun g hg e => by have := row_from2 HR.out.2.2.2.2.1 hg; omega
   exact ⟨slat_nil _, .of_row g3, fun t ht => by
    obtain rfl := List.mem_singleton.1 ht
    exact ⟨slat_blk g2, fun c hc => by
     obtain rfl := List.mem_singleton.1 hc
     exact slat_blk g1⟩, slat_nil _, slat_nil _, fun e he => by simp at he⟩
  ·obtain rfl : k = 1 := by omega
   obtain ⟨v, m, hb, hb', hmv, hmp, hsm, hkm⟩ := h1 rfl
   have HM := Lib.hid (And.intro hb (And.intro hb' (And.intro hmv (And.intro hmp (And.intro hsm hkm)))))
   clear h0 h1 hb hb' hmv hmp hsm hkm
   go_wp2_with (first
    | (refine load_guard (.tmp 3) 40 (by rfl) ?_; go_must (refine load_play rfl (.tmp 3) rfl q rfl #[.int .i64 1048576, .int .i64 4096, .int .i64 1, .int .i64 4, .int .i64 1000, .int .i64 8, .int .i64 1000, .float .f64 0, .float .f64 4602678819172646912, .slice none 0 0, v, .slice none 0 0, .int .i64 1000, .slice none 0 0] rfl HM.out.1 ?_))
    | (refine store_guard (.tmp 2) (.tmp 21) 40 (by rfl) ?_; go_must (refine store_play rfl (.tmp 2) (.tmp 21) rfl r #[.int .i64 1048576, .int .i64 4096, .int .i64 1, .int .i64 4, .int .i64 1000, .int .i64 8, .int .i64 1000, .float .f64 0, .float .f64 4602678819172646912, .slice none 0 0, v, .slice none 0 0, .int .i64 1000, .slice none 0 0] rfl rfl rfl m0.val rfl HM.out.2.1 (by rw [← HM.out.2.2.1]; exact (HM.out.2.2.2.2.1 _ (Keep.refl _ _)).val_one) ?_)))
   have hrow := setRow_heap wr r m0.val #[.int .i64 1048576, .int .i64 4096, .int .i64 1, .int .i64 4, .int .i64 1000, .int .i64 8, .int .i64 1000, .float .f64 0, .float .f64 4602678819172646912, .slice none 0 0, v, .slice none 0 0, .int .i64 1000, .slice none 0 0] _ _ HM.out.2.1
   refine bodyPost_ret (v := .agg #[.int .i64 1048576, .int .i64 4096, .int .i64 1, .int .i64 4, .int .i64 1000, .int .i64 8, .int .i64 1000, .float .f64 0, .float .f64 4602678819172646912, .slice none 0 0, v, .slice none 0 0, .int .i64 1000, .slice none 0 0]) (results_cell_row Tryz.results16 _ _ r 40 #[.int .i64 1048576, .int .i64 4096, .int .i64 1, .int .i64 4, .int .i64 1000, .int .i64 8, .int .i64 1000, .float .f64 0, .float .f64 4602678819172646912, .slice none 0 0, v, .slice none 0 0, .int .i64 1000, .slice none 0 0] (0, 0) _ rfl hrow Tryz.underlying40 rfl play_size) rfl ?_
   have ks : Keep (fun g => g = r) wr (wr.setRow r #[.int .i64 1048576, .int .i64 4096, .int .i64 1, .int .i64 4, .int .i64 1000, .int .i64 8, .int .i64 1000, .float .f64 0, .float .f64 4602678819172646912, .slice none 0 0, v, .slice none 0 0, .int .i64 1000, .slice none 0 0]) := Keep.setRow (g := r) (Keep.refl (fun g => g = r) wr) (Or.inl rfl) _
   have hsz : w.heap.size = r := H2.out.2.2.2.2.2.2
   have hkw : Keep (fun _ => False) w (wr.setRow r #[.int .i64 1048576, .int .i64 4096, .int .i64 1, .int .i64 4, .int .i64 1000, .int .i64 8, .int .i64 1000, .float .f64 0, .float .f64 4602678819172646912, .slice none 0 0, v, .slice none 0 0, .int .i64 1000, .slice none 0 0]) := HM.out.2.2.2.2.2.own ks fun i hi => Or.inr (by omega)
   exact ⟨⟨m, by rw [HM.out.2.2.1], HM.out.2.2.2.1, HM.out.2.2.2.2.1 _ ks⟩, hkw⟩
theorem Ev.up' {B : Nat} {w : World} (h : Ev B w) : Ev w.heap.size w := ⟨env_up h.env, tb_up h.tb, fun w' k => h.errs w' (k.mono h.le), fun w' k => h.mx w' (k.mono h.le)⟩
theorem pr_of {m : M} {N : Nat} (ok : PlayOk m.play) (hsm : Sml N m.play) (hN : N ≤ 1048576) (len : m.fs.length ≤ 1099511627776 ∧ m.ts.length ≤ 1099511627776 ∧ m.ps.length ≤ 1099511627776 ∧ m.es.length ≤ 1099511627776) : PrOk m := by
 refine ⟨ok, len, ⟨fun t ht c hc => ?_, fun e he k hk => ?_⟩, fun hm hk => full_max (Pt.of ok hm hk) hsm hN ⟨txtS_max ok.linger, txtS_max ok.alpha⟩⟩
 ·have := hsm.data _ (List.mem_map.2 ⟨t, ht, rfl⟩) _ (List.mem_map.2 ⟨c, hc, rfl⟩)
  omega
 ·have := hsm.junk _ (List.mem_map.2 ⟨e, he, rfl⟩) _ (List.mem_map.2 ⟨k, hk, rfl⟩)
  omega
theorem pr_inv {m : M} (h : Inv m.play) : PrOk m := by
 obtain ⟨h1, h2, h3, h4, h5, h6⟩ := many_not h.pt.many
 exact pr_of h.pt.ok h.sm (by omega) ⟨by omega, by omega, by omega, by omega⟩
theorem one_pr {m : M} (h : m.play = oneP) : PrOk m := pr_inv (by rw [h]; exact one_inv)
set_option maxRecDepth 100000 in
set_option maxHeartbeats 16000000 in
theorem begun_any (w : World) (hE : Ev w.heap.size w) : Calls Tryz.prog 7 #[] w fun e w' => e = .returned (.bool true) ∧ Keep (fun _ => False) w w' := by
 have HE := Lib.hid hE
 have HP1 := Lib.hid (parse_any bg1 w hE)
 have hp1 : parseF bg1 = (canP bgP, 0, 0) := by
  have h := back_parse bg_pt (by rw [bg_full txt_zero txt_hf]; decide) (txt_read hE) txt_gw
  rw [bg_full txt_zero txt_hf] at h
  exact h
 have HF := Lib.hid hp1
 clear hE hp1
 go_enter Tryz.func7, Tryz.ntmps7
 go_upto_region 2 with (first
  | (go_at_call 8; refine HP1.out.mono ?_; rintro e w1 ⟨mA, ownA, nA, cA, rfl, hpA, hlA, -, kA⟩; have HPA := Lib.hid (And.intro hpA (And.intro hlA kA)); clear hpA hlA kA)
  | (refine store_guard (.tmp 1) (.tmp 11) 40 (by rfl) ?_; go_must (refine store_play rfl (.tmp 1) (.tmp 11) rfl _ mA.val rfl rfl rfl m0.val rfl (blk_new _ _) HPA.out.2.1.seen.val_one ?_)))
 obtain ⟨z1, z2⟩ := Prod.mk.inj HPA.out.1
 obtain ⟨z2, z3⟩ := Prod.mk.inj z2
 rw [HF.out] at z1 z2 z3
 replace z2 : nA = 0 := z2
 replace z3 : cA = 0 := z3
 subst z2
 subst z3
 generalize hW7 : World.setRow _ _ mA.val = W7
 have hbA : W7.heap[w1.heap.size]? = some (.cells mA.val 40 (0, 0)) := by rw [← hW7]; exact setRow_heap _ _ _ mA.val _ _ (blk_new _ _)
 have k17 : Keep (fun _ => False) w1 W7 := by rw [← hW7]; exact Keep.setRow ((Keep.refl _ w1).alloc _) (Or.inr (Nat.le_refl _)) _
 obtain ⟨qA, hqA⟩ : ∃ q, w1.heap.size = q := ⟨_, rfl⟩
 rw [hqA] at hbA ⊢
 have HB7 := Lib.hid (And.intro hbA (And.intro (HPA.out.2.1.seen.kept k17) (And.intro (HPA.out.2.2.trans k17) z1)))
 have HP2 := Lib.hid (parse_any bg2 W7 (HE.out.on (HPA.out.2.2.trans k17).none).up')
 clear hW7 hqA hbA k17 z1 HPA HP1
 go_upto_region 3 with (first
  | (go_at_call 8; refine HP2.out.mono ?_; rintro e w8 ⟨mB, ownB, nB, cB, rfl, hpB, hlB, -, kB⟩; have HPB := Lib.hid (And.intro hpB (And.intro hlB kB)); clear hpB hlB kB)
  | (refine store_guard (.tmp 4) (.tmp 16) 40 (by rfl) ?_; go_must (refine store_play rfl (.tmp 4) (.tmp 16) rfl _ mB.val rfl rfl rfl m0.val rfl (blk_new _ _) HPB.out.2.1.seen.val_one ?_)))
 obtain ⟨z1, z2⟩ := Prod.mk.inj HPB.out.1
 obtain ⟨z2, z3⟩ := Prod.mk.inj z2
 rw [bg2_parse] at z2 z3
 replace z2 : nB = 1 := z2
 replace z3 : cB = 63 := z3
 subst z2
 subst z3
 generalize hW9 : World.setRow _ _ mB.val = W9
 have k79 : Keep (fun _ => False) W7 W9 := by rw [← hW9]; exact HPB.out.2.2.trans (Keep.setRow ((Keep.refl _ w8).alloc _) (Or.inr (Nat.le_refl _)) _)
 generalize w8.heap.size = qB at *
 have HK9 := Lib.hid (And.intro k79 (HB7.out.2.2.1.trans k79))
 have HON := Lib.hid (one_any W9)
 have HEV := Lib.hid (fun (W : World) (k : Keep (fun _ => False) W9 W) => (HE.out.on ((HB7.out.2.2.1.trans k79).trans k).none).up')
 clear hW9 k79 z1 HPB HP2
 go_upto_region 4 with (first
  | (go_at_call 16; refine HON.out.mono ?_; rintro e w10 ⟨⟨m1, rfl, hm1, hs1⟩, k10⟩; have HPR := Lib.hid (print_any m1 w10 (HEV.out _ k10) hs1 (one_pr hm1)); have H10 := Lib.hid (And.intro hm1 k10); clear hm1 hs1 k10)
  | (go_at_call 14; refine HPR.out.mono ?_; rintro e w11 ⟨rfl, k11⟩; have H11 := Lib.hid k11; clear k11))
 have hpf : printF m1.play = (fullS oneP, 0) := by
  rw [H10.out.1]
  unfold printF
  rw [if_neg (by rw [one_inv.pt.many]; decide), if_neg (by rw [one_inv.pt.known]; decide), if_neg (by rw [one_full txt_zero txt_hf]; decide)]
 rw [hpf]
 have hsz : ((strB (fullS oneP)).size : Int) = 65 := by rw [strB_size, one_full txt_zero txt_hf]; rfl
 generalize strB (fullS oneP) = SP at *
 have kV : Keep (fun _ => False) W7 w11 := (HK9.out.1.trans H10.out.2).trans H11.out
 have bV := kV.same HB7.out.1 id
 have hz := HB7.out.2.2.2
 have hsn := HB7.out.2.1.kept kV
 have v0 := blk_cell bV 0
 have v10 := blk_cell bV 10
 have v13 := blk_cell bV 13
 have hd : mA.disk = 1000 := congrArg Play.disk hz
 have htl : mA.ts.length = 1 := by have := congrArg (fun p => p.tasks.length) hz; simpa [M.play, canP, bgP] using this
 have hel : mA.es.length = 1 := by have := congrArg (fun p => p.ends.length) hz; simpa [M.play, canP, bgP] using this
 have h0 : 0 < mA.ts.length := by omega
 have hml : (mA.ts[0]).l.length = 2 := by
  have := congrArg (fun p => (p.tasks.getD 0 []).length) hz
  simpa [M.play, canP, bgP, h0] using this
 obtain ⟨o2, c2, hv2, -, hcs, -⟩ := hsn.ts
 obtain ⟨o4, c4, hv4⟩ := hsn.es.val
 obtain ⟨g, f, rfl, hc0, -⟩ := hcs 0 (by simpa using h0)
 obtain ⟨o5, c5, hv5⟩ := (hsn.calls _ (List.getElem_mem h0)).row.val
 rw [List.getElem?_map, List.getElem?_eq_getElem h0] at hc0
 simp only [Option.map_some] at hc0
 rw [hml] at hv5
 rw [hv5] at hc0
 rw [htl] at hv2
 rw [hel] at hv4
 have v0' : w11.cell? ⟨qA, 0, none⟩ = some (.int .i64 1000) := by rw [v0, ← hd]; rfl
 have v10' : w11.cell? ⟨qA, 10, none⟩ = some (.slice (some ⟨g, f, none⟩) 1 c2) := by rw [v10, ← hv2]; rfl
 have v13' : w11.cell? ⟨qA, 13, none⟩ = some (.slice o4 1 c4) := by rw [v13, ← hv4]; rfl
 have hc0' : w11.cell? ⟨g, f, none⟩ = some (.slice o5 2 c5) := hc0
 have HF1 := Lib.hid (HB7.out.2.2.1.trans kV)
 clear v0 v10 v13 hd htl hel h0 hml hv2 hv4 hcs hv5 hc0 hsn hz bV kV hpf
 go_wp2_with fail
 go_ret
 exact ⟨rfl, HF1.out⟩
end Sc
end Go.Proofs.YtkkecpamnnojoaaGreatDoor
namespace Go.Proofs.YtkkecpamnnojoaaGreatDoor
open Go.ChangeShapes Go.WideShapes Go.ChangeAt Go.RowKit
open Bt Dc By
set_option linter.unusedVariables false
namespace Sc

theorem ev_of {W : World} (hL : laidMetH Tryz.prog Rows.scriptPrintsRow.laid W) (hS : W.ShapedOpen Tryz.prog) : Ev W.heap.size W := by
 obtain ⟨hopt, hT⟩ := tables hL
 obtain ⟨hE, hX⟩ := env_of hL
 refine ⟨hE, hT, hX, fun w' k => ?_⟩
 obtain ⟨m, hm⟩ : ∃ m, W.cell? ⟨1, 0, none⟩ = some (.int .i64 m) :=
  Go.Proofs.cell_of_shapedOpen_int (zero := #[.int .i64 0]) (t := 3) hS (of_decide_eq_true (by kernel_rfl)) (by kernel_rfl) rfl (by kernel_rfl) (by kernel_rfl) Tryz.underlying3
 exact ⟨m, (k.cell (p := ⟨1, 0, none⟩) (World.block_lt_of_cell? W _ hm)).trans hm⟩
theorem strB_data (s : ByteArray) : strB s.data.toList = s := by
 cases s
 simp [strB]
section
variable {H : Type} {enc : TypeId × Value → H} {w : World} {base : Nat} {spare : Nat → Bool} {held : Bool}
theorem op_strs {fuel : Nat} {cs : List Value} {x : DataW H × List MemPlace} (h : DataW.trod enc Tryz.prog w base spare held fuel 22 cs = some x) : ∃ (l : List Str) (v : Value), cs = [v] ∧ SlAt w v l.length (l.map encS) ∧ (∀ s ∈ l, s.length ≤ maxLen) ∧ l.length ≤ maxLen := by
 obtain ⟨zs, v, h1, h2, h3, -, h5⟩ := open_slm (fun z : Str => [encS z]) (fun _ => 1) (fun z => z.length ≤ maxLen) 1 (fun _ => rfl) (by decide) Tryz.underlying22 (by kernel_rfl) (fun n cs' y _ h => by
  obtain ⟨s, rfl, -, h4⟩ := DataW.trod_string Tryz.underlying9 h
  refine ⟨s.data.toList, ?_, ?_, bulk_one _⟩
  ·unfold encS; rw [strB_data]
  ·have : s.data.toList.length = s.size := by rw [Array.length_toList]; rfl
   rw [this]; exact h4) h
 refine ⟨zs, v, h1, ?_, h3, h5⟩
 have : zs.flatMap (fun z : Str => [encS z]) = zs.map encS := by
  clear h2 h3 h5
  induction zs with
  | nil => rfl
  | cons z r ih => rw [List.flatMap_cons, ih]; rfl
 rw [← this]
 exact h2
theorem ws_of {v : Value} {l : List Str} (h : SlAt w v l.length (l.map encS)) : ∃ o cap, v = .slice o l.length cap ∧ WsAt w o l := by
 obtain ⟨o, cap, rfl, -, hc, -⟩ := h
 refine ⟨o, cap, rfl, fun i hi => ?_⟩
 obtain ⟨g, f, rfl, h1, h2⟩ := hc i (by simpa using hi)
 refine ⟨g, f, rfl, ?_, h2⟩
 rw [h1, List.getElem?_map, List.getElem?_eq_getElem hi, List.getD_eq_getElem?_getD, List.getElem?_eq_getElem hi]
 rfl
end
end Sc
end Go.Proofs.YtkkecpamnnojoaaGreatDoor
namespace Go.Proofs.YtkkecpamnnojoaaGreatDoor
open Go.ChangeShapes Go.WideShapes Go.ChangeAt Go.RowKit Go.Shelf
open Bt Dc By
set_option linter.unusedVariables false
namespace Sc

set_option maxRecDepth 100000 in
set_option maxHeartbeats 2000000 in
theorem eqS_any (v1 v2 : Value) (s : Str) (w : World) (h1 : SlAt w v1 s.length (u8v s)) (h2 : SlAt w v2 s.length (u8v s)) (hn : s.length ≤ 1099511627776) :
  Calls Tryz.prog 25 #[v1, v2] w fun e w' => e = .returned (.bool true) ∧ w' = w.drewN s.length := by
 obtain ⟨o1, c1, rfl, -, h1, -⟩ := h1
 obtain ⟨o2, c2, rfl, -, h2, -⟩ := h2
 obtain ⟨n, hL⟩ : ∃ n, s.length = n := ⟨_, rfl⟩
 have HH := Lib.hid (And.intro h1 (And.intro h2 hL))
 rw [hL] at hn ⊢
 clear h1 h2 hL
 go_enter Tryz.func25, Tryz.ntmps25
 go_wp2_with fail
 go_loopg [5] n (fun g i wr => ∃ k : Nat, g + k = n ∧ i = .int .i64 (k : Int) ∧ Hid (wr = w.drewN k))
 case atStart => exact ⟨0, by omega, rfl, rfl⟩
 case round =>
  obtain ⟨k, hgk, rfl, hw⟩ := hrel
  have hkp : Keep (fun _ => False) w wr := by rw [show wr = w.drewN k from hw]; exact (Keep.refl _ w).drewN k
  have HK := Lib.hid hw
  clear hw
  by_cases hk : k < n
  ·have hkI : (k : Int) < (n : Int) := by omega
   have hk0 : (0 : Int) ≤ (k : Int) := by omega
   have hks : k < s.length := by rw [HH.out.2.2]; exact hk
   obtain ⟨g1, f1, rfl, hc1, -⟩ := (HH.out.1.kept hkp) k (by rw [u8v_len]; exact hks)
   obtain ⟨g2, f2, rfl, hc2, -⟩ := (HH.out.2.1.kept hkp) k (by rw [u8v_len]; exact hks)
   have hu : (u8v s)[k]? = some (.int .u8 ((s[k]).toNat : Int)) := by unfold u8v; rw [List.getElem?_map, List.getElem?_eq_getElem hks]; rfl
   rw [hu] at hc1 hc2
   generalize (s[k]).toNat = x at *
   have e1 : ((x : Int) != (x : Int)) = false := by simp
   clear hkp hks hu
   go_wp2_with fail
   go_region
   go_wp2_with fail
   go_roundg (gk - 1)
   all_goals first | omega | skip
   case rel => exact ⟨k + 1, by omega, by simp, by rw [show wr = w.drewN k from HK.out]; rfl⟩
  ·obtain rfl : k = n := by omega
   have hkI : ¬ (k : Int) < (k : Int) := by omega
   clear hkp
   go_wp2_with fail
   go_ret
   exact ⟨rfl, HK.out⟩
theorem fault_neq (a b c : Int) (w : World) : (binOp BinOp.neq 114 (.agg #[.int .i64 a, .int .i64 b, .int .i64 c]) (.agg #[.int .i64 a, .int .i64 b, .int .i64 c])).run Tryz.prog w = .ok (.bool false) w := by
 simp [go_sem]
set_option maxRecDepth 100000 in
set_option maxHeartbeats 4000000 in
theorem eqF_any (v1 v2 : Value) (s : List Fault) (w : World) (h1 : SlAt w v1 s.length (fsv s)) (h2 : SlAt w v2 s.length (fsv s)) (hn : s.length ≤ 1099511627776) :
  Calls Tryz.prog 24 #[v1, v2] w fun e w' => e = .returned (.bool true) ∧ w' = w.drewN s.length := by
 obtain ⟨o1, c1, rfl, -, h1, -⟩ := h1
 obtain ⟨o2, c2, rfl, -, h2, -⟩ := h2
 obtain ⟨n, hL⟩ : ∃ n, s.length = n := ⟨_, rfl⟩
 have HH := Lib.hid (And.intro h1 (And.intro h2 hL))
 rw [hL] at hn ⊢
 clear h1 h2 hL
 go_enter Tryz.func24, Tryz.ntmps24
 go_wp2_with fail
 go_loopg [5] n (fun g i wr => ∃ k : Nat, g + k = n ∧ i = .int .i64 (k : Int) ∧ Hid (wr = w.drewN k))
 case atStart => exact ⟨0, by omega, rfl, rfl⟩
 case round =>
  obtain ⟨k, hgk, rfl, hw⟩ := hrel
  have hkp : Keep (fun _ => False) w wr := by rw [show wr = w.drewN k from hw]; exact (Keep.refl _ w).drewN k
  have HK := Lib.hid hw
  clear hw
  by_cases hk : k < n
  ·have hkI : (k : Int) < (n : Int) := by omega
   have hk0 : (0 : Int) ≤ (k : Int) := by omega
   have hks : k < s.length := by rw [HH.out.2.2]; exact hk
   obtain ⟨g1, f1, rfl, -⟩ := HH.out.1.some (by unfold fsv; rw [flatc_len _ 3 (fun _ => rfl)]; omega)
   obtain ⟨g2, f2, rfl, -⟩ := HH.out.2.1.some (by unfold fsv; rw [flatc_len _ 3 (fun _ => rfl)]; omega)
   have hcs1 := HH.out.1.kept hkp
   have hcs2 := HH.out.2.1.kept hkp
   unfold fsv at hcs1 hcs2
   have d0 := hcs1.get 3 (fun _ => rfl) (List.getElem?_eq_getElem hks) 0 (by omega)
   have d1 := hcs1.get 3 (fun _ => rfl) (List.getElem?_eq_getElem hks) 1 (by omega)
   have d2 := hcs1.get 3 (fun _ => rfl) (List.getElem?_eq_getElem hks) 2 (by omega)
   have e0 := hcs2.get 3 (fun _ => rfl) (List.getElem?_eq_getElem hks) 0 (by omega)
   have e1 := hcs2.get 3 (fun _ => rfl) (List.getElem?_eq_getElem hks) 1 (by omega)
   have e2 := hcs2.get 3 (fun _ => rfl) (List.getElem?_eq_getElem hks) 2 (by omega)
   unfold fcells at d0 d1 d2 e0 e1 e2
   simp at d0 d1 d2 e0 e1 e2
   generalize (s[k]).at_ = x0 at *
   generalize (s[k]).kind = x1 at *
   generalize (s[k]).part = x2 at *
   have hq := fault_neq x0 x1 x2
   clear hkp hks hcs1 hcs2
   go_wp2_with fail
   go_region
   go_wp2_with fail
   go_roundg (gk - 1)
   all_goals first | omega | skip
   case rel => exact ⟨k + 1, by omega, by simp, by rw [show wr = w.drewN k from HK.out]; rfl⟩
  ·obtain rfl : k = n := by omega
   have hkI : ¬ (k : Int) < (k : Int) := by omega
   clear hkp
   go_wp2_with fail
   go_ret
   exact ⟨rfl, HK.out⟩
theorem canon3_any (a : Nat) (w : World) : Calls Tryz.prog 23 #[.float .f64 a] w fun e w' => e = .returned (.float .f64 (canW a)) ∧ w = w' := by
 have HN := Lib.hid (nan3_any a)
 have f1 : ∀ w : World, (callFunc 58 #[.int .u64 9221120237041090561]).run Tryz.prog w = .ok (.value (.float .f64 9221120237041090561)) w := fun w => ext_from 9221120237041090561 w
 unfold canW
 cases hn : Flt.nan a
 ·rw [hn] at HN
  go_enter Tryz.func23, Tryz.ntmps23
  go_wp2_with fail
  refine (HN.out _).mono ?_
  rintro e w1 ⟨rfl, rfl⟩
  go_wp2_with fail
  go_ret
  exact ⟨rfl, rfl⟩
 ·rw [hn] at HN
  go_enter Tryz.func23, Tryz.ntmps23
  go_wp2_with fail
  refine (HN.out _).mono ?_
  rintro e w1 ⟨rfl, rfl⟩
  go_wp2_with fail
  go_ret
  exact ⟨rfl, rfl⟩
end Sc
end Go.Proofs.YtkkecpamnnojoaaGreatDoor
