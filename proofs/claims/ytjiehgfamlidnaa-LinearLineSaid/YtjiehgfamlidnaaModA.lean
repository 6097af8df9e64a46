/- The model package: its state, and the methods that turn only its numbers. By an AI agent. -/
import Derived.Test.YtjiehgfamlidnaaKit
import Derived.Recover
import Derived.WalkSpells
import Derived.Test.YtjiehgfamlidnaaAppB
import Derived.StillTailTactics
import Derived.Laws.Pointers
namespace Go.Proofs.Ytjiehgfamlidnaa
open Go.ChangeShapes Go.WideShapes Go.ChangeAt Go.RowKit
set_option linter.unusedVariables false
namespace Md

/-- A state's numbers. -/
structure S where
  base : Int
  first : Int
  durable : Int
  next : Int
  limit : Int
  failed : Bool
  closed : Bool
deriving DecidableEq

/-- The cells of a state: its numbers, its records' slice. -/
def cs (s : S) (rv : Value) : Array Value := #[.int .i64 s.base, .int .i64 s.first, .int .i64 s.durable, .int .i64 s.next, .int .i64 s.limit, rv, .bool s.failed, .bool s.closed]
/-- What goes up where something may not be. -/
def noP : List PanicEntry := [{ v := .iface 82 (.agg #[]), recovered := false }]
/-- The state's block. -/
def At (w : World) (g : Nat) (s : S) (rv : Value) : Prop := w.heap[g]? = some (.cells (cs s rv) 59 (0, 0))
/-- What a method answers that turns the state's block alone. -/
def Res (g : Nat) (rv : Value) (o : Option S) (w : World) (e : Ending) (w' : World) : Prop :=
  match o with
  | some s => e = .returned (.tuple #[]) ∧ At w' g s rv ∧ Keep (· = g) w w'
  | none => e = .panicked noP ∧ Keep (· = g) w w'

theorem At.keep {w w' : World} {g : Nat} {s : S} {rv : Value} (h : At w g s rv) (k : Keep (fun _ => False) w w') : At w' g s rv := k.same h id
theorem At.keep' {bs : Nat → Prop} {w w' : World} {g : Nat} {s : S} {rv : Value} (h : At w g s rv) (k : Keep bs w w') (hn : ¬ bs g) : At w' g s rv := k.same h hn

theorem bodyPost_panic {P : Program} {fn : Func} {R : Ending → World → Prop} {a : Act} {w : World} {chain : List PanicEntry} (hd : a.defers = []) (hR : R (.panicked chain) w) : bodyPost P fn R (.panic chain) a w := ⟨hd, hR⟩

theorem may_true (w : World) : Calls Try.prog 21 #[.bool true] w fun e w' => e = .returned (.tuple #[]) ∧ w = w' := by
  go_enter Try.func21, Try.ntmps21
  go_wp2_with fail
  go_end0
  exact ⟨rfl, rfl⟩
theorem may_false (w : World) : Calls Try.prog 21 #[.bool false] w fun e w' => e = .panicked noP ∧ w = w' := by
  go_enter Try.func21, Try.ntmps21
  go_wp2_with fail
  exact bodyPost_panic rfl ⟨rfl, rfl⟩
theorem may_dec {p : Prop} [Decidable p] (h : ¬ p) (w : World) : Calls Try.prog 21 #[.bool (decide p)] w fun e w' => e = .panicked noP ∧ w = w' := by
  rw [decide_eq_false h]; exact may_false w
/-- 'may' of what is decided. -/
theorem may_any (b : Bool) (w : World) : Calls Try.prog 21 #[.bool b] w fun e w' => e = (if b then .returned (.tuple #[]) else .panicked noP) ∧ w = w' := by
  cases b
  · exact may_false w
  · exact may_true w

set_option maxHeartbeats 2000000 in
theorem sane_any (g : Nat) (s : S) (rv : Value) (w : World) (h : At w g s rv) :
    Calls Try.prog 34 #[.pointer (some ⟨g, 0, none⟩)] w fun e w' => e = (if (!s.failed && !s.closed) then .returned (.tuple #[]) else .panicked noP) ∧ w = w' := by
  obtain ⟨s0, s1, s2, s3, s4, s5, s6⟩ := s
  have c6 := blk_cell h 6
  have c7 := blk_cell h 7
  simp [cs] at c6 c7
  clear h
  cases s5 <;> cases s6
  · go_enter Try.func34, Try.ntmps34
    go_wp2_with (go_at_call 21; go_must (refine (may_true _).mono ?_; rintro e w' ⟨rfl, rfl⟩))
    go_end0
    exact ⟨rfl, rfl⟩
  all_goals
    go_enter Try.func34, Try.ntmps34
    go_wp2_with (go_at_call 21; go_must (refine (may_false _).mono ?_; rintro e w' ⟨rfl, rfl⟩))
    exact bodyPost_panic rfl ⟨rfl, rfl⟩

def raiseS (s : S) (n : Int) : Option S := if n ≤ s.limit then some { s with durable := max s.durable n } else none

set_option maxHeartbeats 2000000 in
theorem raise_any (g : Nat) (s : S) (rv : Value) (n : Int) (w : World) (h : At w g s rv) :
    Calls Try.prog 42 #[.pointer (some ⟨g, 0, none⟩), .int .i64 n] w (Res g rv (raiseS s n) w) := by
  have c2 := blk_cell h 2
  have c4 := blk_cell h 4
  have f2 := blk_free h 2
  have H := Lib.hid h
  simp [cs] at c2 c4
  clear h
  by_cases hn : n ≤ s.limit
  · have HN := Lib.hid hn
    unfold raiseS
    rw [if_pos HN.out]
    have hm : s.durable < n ∨ n ≤ s.durable := by omega
    have HM : Hid (max s.durable n = if s.durable < n then n else s.durable) := Lib.hid (by omega)
    go_enter Try.func42, Try.ntmps42
    go_wp2_with (go_at_call 21; go_must (refine (may_true _).mono ?_; rintro e w' ⟨rfl, rfl⟩))
    · go_end0
      refine ⟨rfl, ?_, Keep.setCell (bs := (· = g)) (Keep.refl _ w) (p := ⟨g, 2, none⟩) (Or.inl rfl) _⟩
      have hm := HM.out
      rw [if_pos (by assumption)] at hm
      rw [hm]
      exact blk_set H.out 2 _
    · go_end0
      refine ⟨rfl, ?_, Keep.setCell (bs := (· = g)) (Keep.refl _ w) (p := ⟨g, 2, none⟩) (Or.inl rfl) _⟩
      have hm := HM.out
      rw [if_neg (by omega)] at hm
      rw [hm]
      exact blk_set H.out 2 _
  · have HN := Lib.hid hn
    go_enter Try.func42, Try.ntmps42
    go_wp2_with (go_at_call 21; go_must (refine (may_false _).mono ?_; rintro e w' ⟨rfl, rfl⟩))
    unfold raiseS
    rw [if_neg (by have := HN.out; omega)]
    exact bodyPost_panic rfl ⟨rfl, Keep.refl _ w⟩

def syncS (s : S) (err lsn : Int) : Option S :=
  if lsn = 0 then
    if err = 0 then if (!s.failed && !s.closed) = true ∧ s.next ≤ s.limit then some s else none
    else if err = 40 then some { s with failed := true } else none
  else none

set_option maxHeartbeats 2000000 in
theorem sync_any (g : Nat) (s : S) (rv : Value) (err lsn : Int) (dv : Value) (w : World) (h : At w g s rv) :
    Calls Try.prog 38 #[.pointer (some ⟨g, 0, none⟩), .agg #[.int .i64 err, .int .i64 lsn, dv]] w (Res g rv (syncS s err lsn) w) := by
  have c3 := blk_cell h 3
  have c4 := blk_cell h 4
  have f6 := blk_free h 6
  have c6 := blk_cell h 6
  have H := Lib.hid h
  simp [cs] at c3 c4 c6
  clear h
  unfold syncS
  by_cases h1 : lsn = 0
  · rw [if_pos h1]
    by_cases h2 : err = 0
    · rw [if_pos h2]
      subst h1 h2
      have hz := lt_of_block H.out
      have d3 := past hz c3 (.cells #[.int .i64 0, .int .i64 0, dv] 34)
      have d4 := past hz c4 (.cells #[.int .i64 0, .int .i64 0, dv] 34)
      have HS := Lib.hid (sane_any g s rv (w.alloc (.cells #[.int .i64 0, .int .i64 0, dv] 34)) (blk_alloc H.out _))
      have HK : Hid (At (w.alloc (.cells #[.int .i64 0, .int .i64 0, dv] 34)) g s rv ∧ Keep (· = g) w (w.alloc (.cells #[.int .i64 0, .int .i64 0, dv] 34))) := Lib.hid ⟨blk_alloc H.out _, (Keep.refl _ w).alloc _⟩
      by_cases h3 : (!s.failed && !s.closed) = true
      · rw [if_pos h3] at HS
        by_cases h4 : s.next ≤ s.limit
        · rw [if_pos ⟨h3, h4⟩]
          clear h3
          go_enter Try.func38, Try.ntmps38
          go_wp2_with (first | (go_at_call 21; go_must (refine (may_true _).mono ?_; rintro e w' ⟨rfl, rfl⟩)) | (go_at_call 34; go_must (refine HS.out.mono ?_; rintro e w' ⟨rfl, rfl⟩)))
          go_quiet ((go_at_call 21; exact Calls.quiet_of_same ((may_true _).mono fun _ _ ⟨he, hw⟩ => ⟨he, hw.symm⟩)))
          go_end0
          exact ⟨rfl, HK.out.1, HK.out.2.drewN _⟩
        · rw [if_neg (fun h => h4 h.2)]
          clear h3
          go_enter Try.func38, Try.ntmps38
          go_wp2_with (first | (go_at_call 21; go_must (refine (may_true _).mono ?_; rintro e w' ⟨rfl, rfl⟩)) | (go_at_call 34; go_must (refine HS.out.mono ?_; rintro e w' ⟨rfl, rfl⟩)))
          clear HS
          generalize w.alloc (.cells #[.int .i64 0, .int .i64 0, dv] 34) = w2 at *
          have e3 : ({ w2 with drawn := w2.drawn + 1 } : World).cell? ⟨g, 3, none⟩ = some (.int .i64 s.next) := d3
          have e4 : ({ w2 with drawn := w2.drawn + 1 } : World).cell? ⟨g, 4, none⟩ = some (.int .i64 s.limit) := d4
          go_still_tail 11, (by kernel_rfl)
          change wpList _ _ _ _ _ (World.drew w2)
          go_wp2_with (go_at_call 21; go_must (refine (may_dec (by omega) _).mono ?_; rintro e w' ⟨rfl, rfl⟩))
          exact bodyPost_panic rfl ⟨rfl, HK.out.2.drew⟩
      · rw [if_neg (fun h => h3 h.1)]
        rw [if_neg h3] at HS
        clear h3
        go_enter Try.func38, Try.ntmps38
        go_wp2_with (first | (go_at_call 21; go_must (refine (may_true _).mono ?_; rintro e w' ⟨rfl, rfl⟩)) | (go_at_call 34; go_must (refine HS.out.mono ?_; rintro e w' ⟨rfl, rfl⟩)))
        exact bodyPost_panic rfl ⟨rfl, HK.out.2⟩
    · rw [if_neg h2]
      subst h1
      by_cases h5 : err = 40
      · rw [if_pos h5]
        subst h5
        have c6' := past (lt_of_block H.out) c6 (.cells #[.int .i64 40, .int .i64 0, dv] 34)
        have f6' : (w.alloc (.cells #[.int .i64 40, .int .i64 0, dv] 34)).frozen? ⟨g, 6, none⟩ = false := blk_free (blk_alloc H.out _) 6
        go_enter Try.func38, Try.ntmps38
        go_wp2_with (first | (go_at_call 21; go_must (refine (may_true _).mono ?_; rintro e w' ⟨rfl, rfl⟩)))
        go_end0
        exact ⟨rfl, blk_set (blk_alloc H.out _) 6 _, Keep.setCell (bs := (· = g)) ((Keep.refl _ w).alloc _) (p := ⟨g, 6, none⟩) (Or.inl rfl) _⟩
      · rw [if_neg h5]
        go_enter Try.func38, Try.ntmps38
        go_wp2_with (first | (go_at_call 21; go_must (first | (refine (may_true _).mono ?_; rintro e w' ⟨rfl, rfl⟩) | (refine (may_false _).mono ?_; rintro e w' ⟨rfl, rfl⟩))))
        exact bodyPost_panic rfl ⟨rfl, (Keep.refl _ w).alloc _⟩
  · rw [if_neg h1]
    have hb1 : (lsn == 0) = false := by simpa using h1
    go_enter Try.func38, Try.ntmps38
    go_wp2_with (first | (go_at_call 21; go_must (refine (may_false _).mono ?_; rintro e w' ⟨rfl, rfl⟩)))
    exact bodyPost_panic rfl ⟨rfl, (Keep.refl _ w).alloc _⟩

def closeS (s : S) (err lsn : Int) : Option S := (syncS s err lsn).map fun s' => { s' with closed := true }

set_option maxHeartbeats 2000000 in
theorem close_any (g : Nat) (s : S) (rv : Value) (err lsn : Int) (dv : Value) (w : World) (h : At w g s rv) :
    Calls Try.prog 39 #[.pointer (some ⟨g, 0, none⟩), .agg #[.int .i64 err, .int .i64 lsn, dv]] w (Res g rv (closeS s err lsn) w) := by
  have HS := Lib.hid (sync_any g s rv err lsn dv (w.alloc (.cells #[.int .i64 err, .int .i64 lsn, dv] 34)) (blk_alloc h _))
  have HK := Lib.hid ((Keep.refl (· = g) w).alloc (.cells #[.int .i64 err, .int .i64 lsn, dv] 34))
  clear h
  unfold closeS
  rcases hq : syncS s err lsn with _ | s'
  · rw [hq] at HS
    clear hq
    go_enter Try.func39, Try.ntmps39
    go_wp2_with (go_at_call 38; go_must (refine HS.out.mono ?_; rintro e w' ⟨rfl, hk⟩))
    exact bodyPost_panic rfl ⟨rfl, HK.out.trans hk⟩
  · rw [hq] at HS
    clear hq
    go_enter Try.func39, Try.ntmps39
    go_wp2_with fail
    refine HS.out.mono ?_
    rintro e w' ⟨rfl, hat, hk⟩
    have c7 := blk_cell hat 7
    have f7 := blk_free hat 7
    have H7 := Lib.hid (And.intro hat hk)
    simp [cs] at c7
    clear hat hk
    go_wp2_with fail
    go_end0
    exact ⟨rfl, blk_set H7.out.1 7 _, Keep.setCell (bs := (· = g)) (HK.out.trans H7.out.2) (p := ⟨g, 7, none⟩) (Or.inl rfl) _⟩

def frontS (s : S) (lsn : Int) : Option S := if lsn ≤ s.next then (raiseS s lsn).map fun s' => { s' with first := lsn } else none

set_option maxHeartbeats 2000000 in
theorem front_any (g : Nat) (s : S) (rv : Value) (n : Int) (w : World) (h : At w g s rv) :
    Calls Try.prog 35 #[.pointer (some ⟨g, 0, none⟩), .int .i64 n] w (Res g rv (frontS s n) w) := by
  have c3 := blk_cell h 3
  simp [cs] at c3
  have HS := Lib.hid (raise_any g s rv n w h)
  clear h
  unfold frontS
  by_cases hn : n ≤ s.next
  · rw [if_pos hn]
    rcases hq : raiseS s n with _ | s'
    · rw [hq] at HS
      clear hq
      go_enter Try.func35, Try.ntmps35
      go_wp2_with (first | (go_at_call 21; go_must (refine (may_true _).mono ?_; rintro e w' ⟨rfl, rfl⟩)) | (go_at_call 42; go_must (refine HS.out.mono ?_; rintro e w' ⟨rfl, hk⟩)))
      exact bodyPost_panic rfl ⟨rfl, hk⟩
    · rw [hq] at HS
      clear hq
      go_enter Try.func35, Try.ntmps35
      go_wp2_with (go_at_call 21; go_must (refine (may_true _).mono ?_; rintro e w' ⟨rfl, rfl⟩))
      refine HS.out.mono ?_
      rintro e w' ⟨rfl, hat, hk⟩
      have c1 := blk_cell hat 1
      have f1 := blk_free hat 1
      have H7 := Lib.hid (And.intro hat hk)
      simp [cs] at c1
      clear hat hk
      go_wp2_with fail
      go_end0
      exact ⟨rfl, blk_set H7.out.1 1 _, Keep.setCell (bs := (· = g)) H7.out.2 (p := ⟨g, 1, none⟩) (Or.inl rfl) _⟩
  · rw [if_neg hn]
    go_enter Try.func35, Try.ntmps35
    go_wp2_with (go_at_call 21; go_must (refine (may_false _).mono ?_; rintro e w' ⟨rfl, rfl⟩))
    exact bodyPost_panic rfl ⟨rfl, Keep.refl _ w⟩

end Md
end Go.Proofs.Ytjiehgfamlidnaa
