/- The model package: what Apply and Half do to a copy. By an AI agent. -/
import Derived.Test.YtjiehgfamlidnaaModG
namespace Go.Proofs.Ytjiehgfamlidnaa
open Go.ChangeShapes Go.WideShapes Go.ChangeAt Go.RowKit
set_option linter.unusedVariables false
namespace Md

def applyS (s : S) (bs : List (List Nat)) (kind cl : Int) (D : List Nat) (err lsn : Int) (R : List Nat) : Option (S × List (List Nat)) :=
  if err = 41 then if s.closed = true ∧ lsn = 0 ∧ R.length = 0 then some (s, bs) else none
  else if s.closed = true then none else ansS s bs kind cl D err lsn R

theorem ResR.pre0 {base g : Nat} {rv : Value} {o : Option (S × List (List Nat))} {w w2 : World} {e : Ending} {w' : World} (k : Keep (fun _ => False) w w2) (h : ResR base g rv o w2 e w') : ResR base g rv o w e w' := h.pre (k.mono fun _ _ h => h.elim)

set_option maxRecDepth 100000 in
set_option maxHeartbeats 8000000 in
theorem apply1_any (base g br bc : Nat) (s : S) (rv : Value) (bs : List (List Nat)) (xs : List Value) (kind cl err lsn : Int) (od : Option Addr) (cd : Nat) (D : List Nat) (ord : Option Addr) (crd : Nat) (R : List Nat) (w : World) (h : At w g s rv) (hr : Recs w base g rv bs xs)
    (hbase : base ≤ g) (hI : Inv s bs.length) (hD : Bys w od D) (hc : od = none → cd = 0) (hv : ∀ i, D.getD i 0 < 256) (hn : bs.length ≤ 1000000) (hR : Bys w ord R) (hrv : ∀ i, R.getD i 0 < 256)
    (hk : kind = 1 ∨ kind = 2 ∨ kind = 3 ∨ kind = 4 ∨ kind = 5 ∨ kind = 6 ∨ kind = 7)
    (hbr : w.heap[br]? = some (.cells #[.int .i64 err, .int .i64 lsn, .slice ord R.length crd] 34 (0, 0))) (hbc : w.heap[bc]? = some (.cells #[.int .i64 kind, .int .i64 cl, .slice od D.length cd] 32 (0, 0))) :
    Calls Try.prog 23 #[.pointer (some ⟨g, 0, none⟩), .pointer (some ⟨br, 0, none⟩), .pointer (some ⟨bc, 0, none⟩)] w (ResR base g rv (applyS s bs kind cl D err lsn R) w) := by
  have HC := Lib.hid (ans_any base g s rv bs xs kind cl err lsn od cd D ord crd R w h hr hbase hI hD hc hv hn hR hrv hk)
  have H := Lib.hid (And.intro h hr)
  have c7 := blk_cell h 7
  have r0 := blk_cell hbr 0
  have r1 := blk_cell hbr 1
  have r2 := blk_cell hbr 2
  have q0 := blk_cell hbc 0
  have q1 := blk_cell hbc 1
  have q2 := blk_cell hbc 2
  simp [cs] at c7
  simp at r0 r1 r2 q0 q1 q2
  clear h hr hD hc hv hn hR hrv hk hI
  unfold applyS
  by_cases h41 : err = 41
  · rw [if_pos h41]
    subst h41
    clear HC
    rcases hcl : s.closed with _ | _
    · rw [hcl] at c7
      rw [if_neg (by intro h; cases h.1)]
      clear hcl
      generalize hrl : R.length = rl at *
      generalize hdl : D.length = dl at *
      clear hrl hdl
      go_enter Try.func23, Try.ntmps23
      go_wp2_with (go_at_call 21; go_must (first | (refine (may_true _).mono ?_; rintro e w' ⟨rfl, rfl⟩) | (refine (may_false _).mono ?_; rintro e w' ⟨rfl, rfl⟩) | (refine (may_dec (by omega) _).mono ?_; rintro e w' ⟨rfl, rfl⟩)))
      exact bodyPost_panic rfl ⟨rfl, Keep.refl _ w⟩
    · rw [hcl] at c7
      clear hcl
      by_cases hl : lsn = 0
      · by_cases hz : R.length = 0
        · rw [if_pos ⟨rfl, hl, hz⟩]
          subst hl
          have bz : ((R.length : Int) == 0) = true := by rw [beq_iff_eq]; omega
          clear hz
          generalize hrl : R.length = rl at *
          generalize hdl : D.length = dl at *
          clear hrl hdl
          go_enter Try.func23, Try.ntmps23
          go_wp2_with (go_at_call 21; go_must (first | (refine (may_true _).mono ?_; rintro e w' ⟨rfl, rfl⟩) | (refine (may_false _).mono ?_; rintro e w' ⟨rfl, rfl⟩) | (refine (may_dec (by omega) _).mono ?_; rintro e w' ⟨rfl, rfl⟩)))
          go_end0
          exact ⟨rfl, ⟨rv, xs, H.out.1, H.out.2⟩, Keep.refl _ w⟩
        · rw [if_neg (fun h => hz h.2.2)]
          subst hl
          have bz : ((R.length : Int) == 0) = false := by rw [beq_eq_false_iff_ne]; omega
          clear hz
          generalize hrl : R.length = rl at *
          generalize hdl : D.length = dl at *
          clear hrl hdl
          go_enter Try.func23, Try.ntmps23
          go_wp2_with (go_at_call 21; go_must (first | (refine (may_true _).mono ?_; rintro e w' ⟨rfl, rfl⟩) | (refine (may_false _).mono ?_; rintro e w' ⟨rfl, rfl⟩) | (refine (may_dec (by omega) _).mono ?_; rintro e w' ⟨rfl, rfl⟩)))
          exact bodyPost_panic rfl ⟨rfl, Keep.refl _ w⟩
      · rw [if_neg (fun h => hl h.2.1)]
        have bl : (lsn == 0) = false := by simpa using hl
        generalize hrl : R.length = rl at *
        generalize hdl : D.length = dl at *
        clear hrl hdl
        go_enter Try.func23, Try.ntmps23
        go_wp2_with (go_at_call 21; go_must (first | (refine (may_true _).mono ?_; rintro e w' ⟨rfl, rfl⟩) | (refine (may_false _).mono ?_; rintro e w' ⟨rfl, rfl⟩) | (refine (may_dec (by omega) _).mono ?_; rintro e w' ⟨rfl, rfl⟩)))
        exact bodyPost_panic rfl ⟨rfl, Keep.refl _ w⟩
  · rw [if_neg h41]
    have b41 : (err == 41) = false := by simpa using h41
    clear h41
    rcases hcl : s.closed with _ | _
    · rw [hcl] at c7
      rw [if_neg (by intro h; cases h)]
      clear hcl
      generalize ansS s bs kind cl D err lsn R = o at *
      generalize hrl : R.length = rl at *
      generalize hdl : D.length = dl at *
      clear hrl hdl
      go_enter Try.func23, Try.ntmps23
      go_wp2_with (go_at_call 21; go_must (first | (refine (may_true _).mono ?_; rintro e w' ⟨rfl, rfl⟩) | (refine (may_false _).mono ?_; rintro e w' ⟨rfl, rfl⟩) | (refine (may_dec (by omega) _).mono ?_; rintro e w' ⟨rfl, rfl⟩)))
      refine HC.out.mono ?_
      intro e w' h
      cases o with
      | none =>
        obtain ⟨rfl, hk⟩ := h
        exact bodyPost_panic rfl ⟨rfl, hk⟩
      | some sb =>
        obtain ⟨rfl, hx, hk⟩ := h
        have HX := Lib.hid (And.intro hx hk)
        clear hx hk
        go_wp2_with fail
        go_end0
        exact ⟨rfl, HX.out.1, HX.out.2⟩
    · rw [hcl] at c7
      rw [if_pos rfl]
      clear hcl HC
      generalize hrl : R.length = rl at *
      generalize hdl : D.length = dl at *
      clear hrl hdl
      go_enter Try.func23, Try.ntmps23
      go_wp2_with (go_at_call 21; go_must (first | (refine (may_true _).mono ?_; rintro e w' ⟨rfl, rfl⟩) | (refine (may_false _).mono ?_; rintro e w' ⟨rfl, rfl⟩) | (refine (may_dec (by omega) _).mono ?_; rintro e w' ⟨rfl, rfl⟩)))
      exact bodyPost_panic rfl ⟨rfl, Keep.refl _ w⟩

def halfS (s : S) (bs : List (List Nat)) (kind cl : Int) (D : List Nat) : Option (S × List (List Nat)) :=
  if kind = 1 ∨ kind = 2 then (addS s s.next D.length).map fun s' => (s', bs ++ [D])
  else if kind = 6 then if s.closed = true then none else (truncS s cl 0 0).map fun s' => (s', bs)
  else if kind = 7 then if s.closed = true then none else some ({ s with closed := true }, bs)
  else none

set_option maxRecDepth 100000 in
set_option maxHeartbeats 8000000 in
theorem half1_any (base g bc : Nat) (s : S) (rv : Value) (bs : List (List Nat)) (xs : List Value) (kind cl : Int) (od : Option Addr) (cd : Nat) (D : List Nat) (w : World) (h : At w g s rv) (hr : Recs w base g rv bs xs)
    (hbase : base ≤ g) (hI : Inv s bs.length) (hD : Bys w od D) (hc : od = none → cd = 0) (hv : ∀ i, D.getD i 0 < 256) (hn : bs.length ≤ 1000000)
    (hk : kind = 1 ∨ kind = 2 ∨ kind = 3 ∨ kind = 4 ∨ kind = 5 ∨ kind = 6 ∨ kind = 7)
    (hbc : w.heap[bc]? = some (.cells #[.int .i64 kind, .int .i64 cl, .slice od D.length cd] 32 (0, 0))) :
    Calls Try.prog 19 #[.pointer (some ⟨g, 0, none⟩), .pointer (some ⟨bc, 0, none⟩)] w (ResR base g rv (halfS s bs kind cl D) w) := by
  have hnx : 0 ≤ s.next := by have := hI.base; have := hI.recs; omega
  have HA := Lib.hid (add_any base g s rv bs xs s.next od cd D w.drew h ⟨hr.row, hr.apart, hr.each, hr.small⟩ hbase hD hc hv hn hnx)
  have HT := Lib.hid ((trunc_any g s rv kind cl 0 0 (.slice od D.length cd) (.slice none 0 0) w h).mono fun e w' h => h.toR hr)
  have H := Lib.hid (And.intro h hr)
  have c3 := blk_cell h 3
  have c7 := blk_cell h 7
  have f7 := blk_free h 7
  have q0 := blk_cell hbc 0
  have q1 := blk_cell hbc 1
  have q2 := blk_cell hbc 2
  simp [cs] at c3 c7
  simp at q0 q1 q2
  clear h hr hD hc hv hn hI hnx
  unfold halfS
  rcases hk with rfl | rfl | rfl | rfl | rfl | rfl | rfl
  · rw [if_pos (by omega)]
    clear HT
    rw [show addS s s.next D.length = addS s s.next D.length from rfl]
    generalize hdl : D.length = dl at *
    clear hdl
    rcases hq : addS s s.next dl with _ | s'
    all_goals
      rw [hq] at HA
      clear hq
      go_enter Try.func19, Try.ntmps19
      go_wp2_with fail
      refine wp_region_still_tail 8 (by kernel_rfl) (by kernel_rfl) ?_
      simp only [List.take_succ_cons, List.take_zero, List.drop_succ_cons, List.drop_zero]
      refine still_of_quiet (C := fun w' => w' = World.drew w) rfl (fun _ h => h) _ _ ?_
      repeat (first | go_big_quiet_skip | (go_big_quiet_want; go_big_quiet_op; go_big_quiet_on))
      refine wpQuiet_nil ?_
      change wpList _ _ _ _ _ (World.drew w)
      go_wp2_with fail
      refine HA.out.mono ?_
    · rintro e w' ⟨rfl, hk⟩
      exact bodyPost_panic rfl ⟨rfl, (Keep.refl _ w).drew.trans hk⟩
    · rintro e w' ⟨rfl, hx, hk⟩
      have HX := Lib.hid (And.intro hx hk)
      clear hx hk
      go_wp2_with fail
      go_end0
      exact ⟨rfl, HX.out.1, (Keep.refl _ w).drew.trans HX.out.2⟩
  · rw [if_pos (by omega)]
    clear HT
    rw [show addS s s.next D.length = addS s s.next D.length from rfl]
    generalize hdl : D.length = dl at *
    clear hdl
    rcases hq : addS s s.next dl with _ | s'
    all_goals
      rw [hq] at HA
      clear hq
      go_enter Try.func19, Try.ntmps19
      go_wp2_with fail
      refine wp_region_still_tail 8 (by kernel_rfl) (by kernel_rfl) ?_
      simp only [List.take_succ_cons, List.take_zero, List.drop_succ_cons, List.drop_zero]
      refine still_of_quiet (C := fun w' => w' = World.drew w) rfl (fun _ h => h) _ _ ?_
      repeat (first | go_big_quiet_skip | (go_big_quiet_want; go_big_quiet_op; go_big_quiet_on))
      refine wpQuiet_nil ?_
      change wpList _ _ _ _ _ (World.drew w)
      go_wp2_with fail
      refine HA.out.mono ?_
    · rintro e w' ⟨rfl, hk⟩
      exact bodyPost_panic rfl ⟨rfl, (Keep.refl _ w).drew.trans hk⟩
    · rintro e w' ⟨rfl, hx, hk⟩
      have HX := Lib.hid (And.intro hx hk)
      clear hx hk
      go_wp2_with fail
      go_end0
      exact ⟨rfl, HX.out.1, (Keep.refl _ w).drew.trans HX.out.2⟩
  · rw [if_neg (by omega), if_neg (by omega), if_neg (by omega)]
    clear HA HT
    generalize hdl : D.length = dl at *
    clear hdl
    go_enter Try.func19, Try.ntmps19
    go_wp2_with (go_at_call 21; go_must (first | (refine (may_true _).mono ?_; rintro e w' ⟨rfl, rfl⟩) | (refine (may_false _).mono ?_; rintro e w' ⟨rfl, rfl⟩) | (refine (may_dec (by omega) _).mono ?_; rintro e w' ⟨rfl, rfl⟩)))
    exact bodyPost_panic rfl ⟨rfl, Keep.refl _ w⟩
  · rw [if_neg (by omega), if_neg (by omega), if_neg (by omega)]
    clear HA HT
    generalize hdl : D.length = dl at *
    clear hdl
    go_enter Try.func19, Try.ntmps19
    go_wp2_with (go_at_call 21; go_must (first | (refine (may_true _).mono ?_; rintro e w' ⟨rfl, rfl⟩) | (refine (may_false _).mono ?_; rintro e w' ⟨rfl, rfl⟩) | (refine (may_dec (by omega) _).mono ?_; rintro e w' ⟨rfl, rfl⟩)))
    exact bodyPost_panic rfl ⟨rfl, Keep.refl _ w⟩
  · rw [if_neg (by omega), if_neg (by omega), if_neg (by omega)]
    clear HA HT
    generalize hdl : D.length = dl at *
    clear hdl
    go_enter Try.func19, Try.ntmps19
    go_wp2_with (go_at_call 21; go_must (first | (refine (may_true _).mono ?_; rintro e w' ⟨rfl, rfl⟩) | (refine (may_false _).mono ?_; rintro e w' ⟨rfl, rfl⟩) | (refine (may_dec (by omega) _).mono ?_; rintro e w' ⟨rfl, rfl⟩)))
    exact bodyPost_panic rfl ⟨rfl, Keep.refl _ w⟩
  · rw [if_neg (by omega), if_pos rfl]
    clear HA
    rcases hcl : s.closed with _ | _
    · rw [if_neg (by intro h; cases h)]
      rw [hcl] at c7
      clear hcl
      generalize truncS s cl 0 0 = o at *
      generalize hdl : D.length = dl at *
      clear hdl
      go_enter Try.func19, Try.ntmps19
      go_wp2_with (go_at_call 21; go_must (first | (refine (may_true _).mono ?_; rintro e w' ⟨rfl, rfl⟩) | (refine (may_false _).mono ?_; rintro e w' ⟨rfl, rfl⟩) | (refine (may_dec (by omega) _).mono ?_; rintro e w' ⟨rfl, rfl⟩)))
      refine HT.out.mono ?_
      intro e w' h
      cases o with
      | none =>
        obtain ⟨rfl, hk⟩ := h
        exact bodyPost_panic rfl ⟨rfl, hk⟩
      | some sb =>
        obtain ⟨rfl, hx, hk⟩ := h
        have HX := Lib.hid (And.intro hx hk)
        clear hx hk
        go_wp2_with fail
        go_end0
        exact ⟨rfl, HX.out.1, HX.out.2⟩
    · rw [if_pos rfl]
      rw [hcl] at c7
      clear hcl HT
      generalize hdl : D.length = dl at *
      clear hdl
      go_enter Try.func19, Try.ntmps19
      go_wp2_with (go_at_call 21; go_must (first | (refine (may_true _).mono ?_; rintro e w' ⟨rfl, rfl⟩) | (refine (may_false _).mono ?_; rintro e w' ⟨rfl, rfl⟩) | (refine (may_dec (by omega) _).mono ?_; rintro e w' ⟨rfl, rfl⟩)))
      exact bodyPost_panic rfl ⟨rfl, Keep.refl _ w⟩
  · rw [if_neg (by omega), if_neg (by omega), if_pos rfl]
    clear HA HT
    rcases hcl : s.closed with _ | _
    · rw [if_neg (by intro h; cases h)]
      rw [hcl] at c7
      clear hcl
      generalize hdl : D.length = dl at *
      clear hdl
      go_enter Try.func19, Try.ntmps19
      go_wp2_with (go_at_call 21; go_must (first | (refine (may_true _).mono ?_; rintro e w' ⟨rfl, rfl⟩) | (refine (may_false _).mono ?_; rintro e w' ⟨rfl, rfl⟩) | (refine (may_dec (by omega) _).mono ?_; rintro e w' ⟨rfl, rfl⟩)))
      go_end0
      exact ⟨rfl, ⟨rv, xs, blk_set H.out.1 7 _, H.out.2.keep (Keep.setCell (bs := (· = g)) (Keep.refl _ w) (p := ⟨g, 7, none⟩) (Or.inl rfl) _)⟩, Keep.setCell (bs := fun b => b = g ∨ rv.ownBlock = some b) (Keep.refl _ w) (p := ⟨g, 7, none⟩) (Or.inl (Or.inl rfl)) _⟩
    · rw [if_pos rfl]
      rw [hcl] at c7
      clear hcl
      generalize hdl : D.length = dl at *
      clear hdl
      go_enter Try.func19, Try.ntmps19
      go_wp2_with (go_at_call 21; go_must (first | (refine (may_true _).mono ?_; rintro e w' ⟨rfl, rfl⟩) | (refine (may_false _).mono ?_; rintro e w' ⟨rfl, rfl⟩) | (refine (may_dec (by omega) _).mono ?_; rintro e w' ⟨rfl, rfl⟩)))
      exact bodyPost_panic rfl ⟨rfl, Keep.refl _ w⟩
end Md
end Go.Proofs.Ytjiehgfamlidnaa
