/- The model package: used; what a call of a log that is not closed answered. By an AI agent. -/
import Derived.Test.YtjiehgfamlidnaaModF
namespace Go.Proofs.Ytjiehgfamlidnaa
open Go.ChangeShapes Go.WideShapes Go.ChangeAt Go.RowKit
set_option linter.unusedVariables false
namespace Md

def usedC (kind cl : Int) (n : Nat) : Bool :=
  if kind = 1 ∨ kind = 2 then decide (cl = 0)
  else if kind = 3 ∨ kind = 7 then decide (cl = 0) && decide (n = 0)
  else if kind = 4 ∨ kind = 5 ∨ kind = 6 then decide (n = 0) else false

theorem used_one {kind cl : Int} {n : Nat} (h : usedC kind cl n = true) : kind = 1 ∨ kind = 2 ∨ kind = 3 ∨ kind = 4 ∨ kind = 5 ∨ kind = 6 ∨ kind = 7 := by
  unfold usedC at h
  split at h
  · omega
  split at h
  · omega
  split at h
  · omega
  · cases h

set_option maxRecDepth 100000 in
set_option maxHeartbeats 4000000 in
theorem used_any (kind cl : Int) (od : Option Addr) (n cd : Nat) (w : World) :
    Calls Try.prog 17 #[.agg #[.int .i64 kind, .int .i64 cl, .slice od n cd]] w fun e w' => e = .returned (.bool (usedC kind cl n)) ∧ Keep (fun _ => False) w w' := by
  have HK := Lib.hid ((Keep.refl (fun _ => False) w).alloc (.cells #[.int .i64 kind, .int .i64 cl, .slice od n cd] 32))
  unfold usedC
  have hcl : (cl == 0) = true ∨ (cl == 0) = false := by cases cl == 0 <;> simp
  have hcl' : ((cl == 0) = true) = (cl = 0) := by simp
  have hn' : n = 0 ∨ ¬ n = 0 := by omega
  by_cases hno : kind = 1 ∨ kind = 2 ∨ kind = 3 ∨ kind = 4 ∨ kind = 5 ∨ kind = 6 ∨ kind = 7
  · rcases hno with rfl | rfl | rfl | rfl | rfl | rfl | rfl
    · rw [if_pos (by omega)]
      have e1 : decide (cl = 0) = (cl == 0) := by rw [Bool.eq_iff_iff]; simp
      have e2 : decide (n = 0) = ((n : Int) == 0) := by rw [Bool.eq_iff_iff]; simp
      rw [e1]
      clear e1 e2 hcl'
      go_enter Try.func17, Try.ntmps17
      go_wp2_with fail
      go_ret
      exact ⟨rfl, HK.out⟩
    · rw [if_pos (by omega)]
      have e1 : decide (cl = 0) = (cl == 0) := by rw [Bool.eq_iff_iff]; simp
      have e2 : decide (n = 0) = ((n : Int) == 0) := by rw [Bool.eq_iff_iff]; simp
      rw [e1]
      clear e1 e2 hcl'
      go_enter Try.func17, Try.ntmps17
      go_wp2_with fail
      go_ret
      exact ⟨rfl, HK.out⟩
    · rw [if_neg (by omega), if_pos (by omega)]
      have e1 : decide (cl = 0) = (cl == 0) := by rw [Bool.eq_iff_iff]; simp
      have e2 : decide (n = 0) = ((n : Int) == 0) := by rw [Bool.eq_iff_iff]; simp
      rw [e1, e2]
      clear e1 e2 hcl'
      rcases hcl with hcl | hcl
      · rw [hcl]
        go_enter Try.func17, Try.ntmps17
        go_wp2_with fail
        go_ret
        exact ⟨by simp, HK.out⟩
      · rw [hcl]
        go_enter Try.func17, Try.ntmps17
        go_wp2_with fail
        go_ret
        exact ⟨by simp, HK.out⟩
    · rw [if_neg (by omega), if_neg (by omega), if_pos (by omega)]
      have e1 : decide (cl = 0) = (cl == 0) := by rw [Bool.eq_iff_iff]; simp
      have e2 : decide (n = 0) = ((n : Int) == 0) := by rw [Bool.eq_iff_iff]; simp
      rw [e2]
      clear e1 e2 hcl'
      go_enter Try.func17, Try.ntmps17
      go_wp2_with fail
      go_ret
      exact ⟨rfl, HK.out⟩
    · rw [if_neg (by omega), if_neg (by omega), if_pos (by omega)]
      have e1 : decide (cl = 0) = (cl == 0) := by rw [Bool.eq_iff_iff]; simp
      have e2 : decide (n = 0) = ((n : Int) == 0) := by rw [Bool.eq_iff_iff]; simp
      rw [e2]
      clear e1 e2 hcl'
      go_enter Try.func17, Try.ntmps17
      go_wp2_with fail
      go_ret
      exact ⟨rfl, HK.out⟩
    · rw [if_neg (by omega), if_neg (by omega), if_pos (by omega)]
      have e1 : decide (cl = 0) = (cl == 0) := by rw [Bool.eq_iff_iff]; simp
      have e2 : decide (n = 0) = ((n : Int) == 0) := by rw [Bool.eq_iff_iff]; simp
      rw [e2]
      clear e1 e2 hcl'
      go_enter Try.func17, Try.ntmps17
      go_wp2_with fail
      go_ret
      exact ⟨rfl, HK.out⟩
    · rw [if_neg (by omega), if_pos (by omega)]
      have e1 : decide (cl = 0) = (cl == 0) := by rw [Bool.eq_iff_iff]; simp
      have e2 : decide (n = 0) = ((n : Int) == 0) := by rw [Bool.eq_iff_iff]; simp
      rw [e1, e2]
      clear e1 e2 hcl'
      rcases hcl with hcl | hcl
      · rw [hcl]
        go_enter Try.func17, Try.ntmps17
        go_wp2_with fail
        go_ret
        exact ⟨by simp, HK.out⟩
      · rw [hcl]
        go_enter Try.func17, Try.ntmps17
        go_wp2_with fail
        go_ret
        exact ⟨by simp, HK.out⟩
  · rw [if_neg (by omega), if_neg (by omega), if_neg (by omega)]
    have b1 : (kind == 1) = false := by rw [beq_eq_false_iff_ne]; omega
    have b2 : (kind == 2) = false := by rw [beq_eq_false_iff_ne]; omega
    have b3 : (kind == 3) = false := by rw [beq_eq_false_iff_ne]; omega
    have b4 : (kind == 4) = false := by rw [beq_eq_false_iff_ne]; omega
    have b5 : (kind == 5) = false := by rw [beq_eq_false_iff_ne]; omega
    have b6 : (kind == 6) = false := by rw [beq_eq_false_iff_ne]; omega
    have b7 : (kind == 7) = false := by rw [beq_eq_false_iff_ne]; omega
    clear hno
    go_enter Try.func17, Try.ntmps17
    go_wp2_with fail
    go_ret
    exact ⟨rfl, HK.out⟩

/-- What a call answered: the numbers and the records then. -/
def ansS (s : S) (bs : List (List Nat)) (kind cl : Int) (D : List Nat) (err lsn : Int) (R : List Nat) : Option (S × List (List Nat)) :=
  if R.length = 0 ∨ ((kind = 4 ∨ kind = 5) ∧ err = 0) then
    if kind = 4 ∨ kind = 5 then (readS s bs kind cl err lsn R).map fun s' => (s', bs)
    else if kind = 1 ∨ kind = 2 then recsOf bs D (appS s kind err lsn D.length)
    else if kind = 6 then (truncS s cl err lsn).map fun s' => (s', bs)
    else if kind = 3 then (syncS s err lsn).map fun s' => (s', bs)
    else (closeS s err lsn).map fun s' => (s', bs)
  else none

theorem Res.toR {base g : Nat} {rv : Value} {o : Option S} {bs : List (List Nat)} {xs : List Value} {w : World} {e : Ending} {w' : World} (hr : Recs w base g rv bs xs) (h : Res g rv o w e w') : ResR base g rv (o.map fun s' => (s', bs)) w e w' := by
  cases o with
  | none => exact ⟨h.1, h.2.mono fun _ _ h => Or.inl h⟩
  | some s => exact ⟨h.1, ⟨rv, xs, h.2.1, hr.keep h.2.2⟩, h.2.2.mono fun _ _ h => Or.inl h⟩
theorem ResR.pre {base g : Nat} {rv : Value} {o : Option (S × List (List Nat))} {w w2 : World} {e : Ending} {w' : World} (k : Keep (fun b => b = g ∨ rv.ownBlock = some b) w w2) (h : ResR base g rv o w2 e w') : ResR base g rv o w e w' := by
  cases o with
  | none => exact ⟨h.1, k.trans h.2⟩
  | some s => exact ⟨h.1, h.2.1, k.trans h.2.2⟩

set_option maxRecDepth 100000 in
set_option maxHeartbeats 8000000 in
theorem ans_any (base g : Nat) (s : S) (rv : Value) (bs : List (List Nat)) (xs : List Value) (kind cl err lsn : Int) (od : Option Addr) (cd : Nat) (D : List Nat) (ord : Option Addr) (crd : Nat) (R : List Nat) (w : World) (h : At w g s rv) (hr : Recs w base g rv bs xs)
    (hbase : base ≤ g) (hI : Inv s bs.length) (hD : Bys w od D) (hc : od = none → cd = 0) (hv : ∀ i, D.getD i 0 < 256) (hn : bs.length ≤ 1000000) (hR : Bys w ord R) (hrv : ∀ i, R.getD i 0 < 256)
    (hk : kind = 1 ∨ kind = 2 ∨ kind = 3 ∨ kind = 4 ∨ kind = 5 ∨ kind = 6 ∨ kind = 7) :
    Calls Try.prog 24 #[.pointer (some ⟨g, 0, none⟩), .agg #[.int .i64 kind, .int .i64 cl, .slice od D.length cd], .agg #[.int .i64 err, .int .i64 lsn, .slice ord R.length crd]] w (ResR base g rv (ansS s bs kind cl D err lsn R) w) := by
  have k2 := (((Keep.refl (fun _ => False) w).alloc (.cells #[.int .i64 kind, .int .i64 cl, .slice od D.length cd] 32)).alloc (.cells #[.int .i64 err, .int .i64 lsn, .slice ord R.length crd] 34))
  have h2 : At ((w.alloc (.cells #[.int .i64 kind, .int .i64 cl, .slice od D.length cd] 32)).alloc (.cells #[.int .i64 err, .int .i64 lsn, .slice ord R.length crd] 34)) g s rv := blk_alloc (blk_alloc h _) _
  have b2 : Keep (fun b => b = g ∨ rv.ownBlock = some b) w ((w.alloc (.cells #[.int .i64 kind, .int .i64 cl, .slice od D.length cd] 32)).alloc (.cells #[.int .i64 err, .int .i64 lsn, .slice ord R.length crd] 34)) := k2.mono (fun _ _ h => h.elim)
  have r2 : Recs ((w.alloc (.cells #[.int .i64 kind, .int .i64 cl, .slice od D.length cd] 32)).alloc (.cells #[.int .i64 err, .int .i64 lsn, .slice ord R.length crd] 34)) base g rv bs xs := hr.keep (k2.mono (fun _ _ h => h.elim))
  have d2 : Bys ((w.alloc (.cells #[.int .i64 kind, .int .i64 cl, .slice od D.length cd] 32)).alloc (.cells #[.int .i64 err, .int .i64 lsn, .slice ord R.length crd] 34)) od D := bys_keep hD k2.none
  have d3 : Bys ((w.alloc (.cells #[.int .i64 kind, .int .i64 cl, .slice od D.length cd] 32)).alloc (.cells #[.int .i64 err, .int .i64 lsn, .slice ord R.length crd] 34)) ord R := bys_keep hR k2.none
  have hnx : 0 ≤ s.next := by have := hI.base; have := hI.recs; omega
  refine Calls.mono (R := ResR base g rv (ansS s bs kind cl D err lsn R) ((w.alloc (.cells #[.int .i64 kind, .int .i64 cl, .slice od D.length cd] 32)).alloc (.cells #[.int .i64 err, .int .i64 lsn, .slice ord R.length crd] 34))) ?_ (fun e w' h => h.pre b2)
  clear h hr hD hR k2
  rcases hk with rfl | rfl | rfl | rfl | rfl | rfl | rfl
  · by_cases hz : R.length = 0
    · have e1 : ansS s bs 1 cl D err lsn R = (recsOf bs D (appS s 1 err lsn D.length)) := by unfold ansS; rw [if_pos (Or.inl hz), if_neg (by omega), if_pos (by omega)]
      rw [e1]
      have hc0 := app_any base g s rv bs xs 1 cl err lsn od cd D (.slice ord R.length crd) ((w.alloc (.cells #[.int .i64 1, .int .i64 cl, .slice od D.length cd] 32)).alloc (.cells #[.int .i64 err, .int .i64 lsn, .slice ord R.length crd] 34)) h2 r2 hbase d2 hc hv hn hnx
      clear e1
      have bz : ((R.length : Int) == 0) = true := by rw [beq_iff_eq]; omega
      clear hz
      have HC := Lib.hid hc0
      clear hc0 h2 b2 r2 d2 d3 hI hv hrv hc hnx hn
      generalize (recsOf bs D (appS s 1 err lsn D.length)) = o at *
      generalize hrl : R.length = rl at *
      generalize hdl : D.length = dl at *
      clear hrl hdl
      go_enter Try.func24, Try.ntmps24
      go_wp2_with (go_at_call 21; go_must (first | (refine (may_true _).mono ?_; rintro e w' ⟨rfl, rfl⟩) | (refine (may_false _).mono ?_; rintro e w' ⟨rfl, rfl⟩) | (refine (may_dec (by omega) _).mono ?_; rintro e w' ⟨rfl, rfl⟩)))
      refine HC.out.mono ?_
      intro e w' h
      cases o with
      | none =>
        obtain ⟨rfl, hk⟩ := h
        exact bodyPost_panic rfl ⟨rfl, hk⟩
      | some sb =>
        obtain ⟨rfl, hx, hk⟩ := h
        have HX := Lib.hid (And.intro hx hk)
        clear hx hk
        go_wp2_with fail
        go_end0
        exact ⟨rfl, HX.out.1, HX.out.2⟩
    · have e1 : ansS s bs 1 cl D err lsn R = none := by unfold ansS; rw [if_neg (by omega)]
      rw [e1]
      clear e1
      have bz : ((R.length : Int) == 0) = false := by rw [beq_eq_false_iff_ne]; omega
      have HW := Lib.hid (Keep.refl (fun b => b = g ∨ rv.ownBlock = some b) ((w.alloc (.cells #[.int .i64 1, .int .i64 cl, .slice od D.length cd] 32)).alloc (.cells #[.int .i64 err, .int .i64 lsn, .slice ord R.length crd] 34)))
      clear hz h2 b2 r2 d2 d3 hI hv hrv hc hnx hn
      generalize hrl : R.length = rl at *
      generalize hdl : D.length = dl at *
      clear hrl hdl
      go_enter Try.func24, Try.ntmps24
      go_wp2_with (go_at_call 21; go_must (first | (refine (may_true _).mono ?_; rintro e w' ⟨rfl, rfl⟩) | (refine (may_false _).mono ?_; rintro e w' ⟨rfl, rfl⟩) | (refine (may_dec (by omega) _).mono ?_; rintro e w' ⟨rfl, rfl⟩)))
      exact bodyPost_panic rfl ⟨rfl, HW.out⟩
  · by_cases hz : R.length = 0
    · have e1 : ansS s bs 2 cl D err lsn R = (recsOf bs D (appS s 2 err lsn D.length)) := by unfold ansS; rw [if_pos (Or.inl hz), if_neg (by omega), if_pos (by omega)]
      rw [e1]
      have hc0 := app_any base g s rv bs xs 2 cl err lsn od cd D (.slice ord R.length crd) ((w.alloc (.cells #[.int .i64 2, .int .i64 cl, .slice od D.length cd] 32)).alloc (.cells #[.int .i64 err, .int .i64 lsn, .slice ord R.length crd] 34)) h2 r2 hbase d2 hc hv hn hnx
      clear e1
      have bz : ((R.length : Int) == 0) = true := by rw [beq_iff_eq]; omega
      clear hz
      have HC := Lib.hid hc0
      clear hc0 h2 b2 r2 d2 d3 hI hv hrv hc hnx hn
      generalize (recsOf bs D (appS s 2 err lsn D.length)) = o at *
      generalize hrl : R.length = rl at *
      generalize hdl : D.length = dl at *
      clear hrl hdl
      go_enter Try.func24, Try.ntmps24
      go_wp2_with (go_at_call 21; go_must (first | (refine (may_true _).mono ?_; rintro e w' ⟨rfl, rfl⟩) | (refine (may_false _).mono ?_; rintro e w' ⟨rfl, rfl⟩) | (refine (may_dec (by omega) _).mono ?_; rintro e w' ⟨rfl, rfl⟩)))
      refine HC.out.mono ?_
      intro e w' h
      cases o with
      | none =>
        obtain ⟨rfl, hk⟩ := h
        exact bodyPost_panic rfl ⟨rfl, hk⟩
      | some sb =>
        obtain ⟨rfl, hx, hk⟩ := h
        have HX := Lib.hid (And.intro hx hk)
        clear hx hk
        go_wp2_with fail
        go_end0
        exact ⟨rfl, HX.out.1, HX.out.2⟩
    · have e1 : ansS s bs 2 cl D err lsn R = none := by unfold ansS; rw [if_neg (by omega)]
      rw [e1]
      clear e1
      have bz : ((R.length : Int) == 0) = false := by rw [beq_eq_false_iff_ne]; omega
      have HW := Lib.hid (Keep.refl (fun b => b = g ∨ rv.ownBlock = some b) ((w.alloc (.cells #[.int .i64 2, .int .i64 cl, .slice od D.length cd] 32)).alloc (.cells #[.int .i64 err, .int .i64 lsn, .slice ord R.length crd] 34)))
      clear hz h2 b2 r2 d2 d3 hI hv hrv hc hnx hn
      generalize hrl : R.length = rl at *
      generalize hdl : D.length = dl at *
      clear hrl hdl
      go_enter Try.func24, Try.ntmps24
      go_wp2_with (go_at_call 21; go_must (first | (refine (may_true _).mono ?_; rintro e w' ⟨rfl, rfl⟩) | (refine (may_false _).mono ?_; rintro e w' ⟨rfl, rfl⟩) | (refine (may_dec (by omega) _).mono ?_; rintro e w' ⟨rfl, rfl⟩)))
      exact bodyPost_panic rfl ⟨rfl, HW.out⟩
  · by_cases hz : R.length = 0
    · have e1 : ansS s bs 3 cl D err lsn R = ((syncS s err lsn).map fun s' => (s', bs)) := by unfold ansS; rw [if_pos (Or.inl hz), if_neg (by omega), if_neg (by omega), if_neg (by omega), if_pos rfl]
      rw [e1]
      have hc0 := (sync_any g s rv err lsn (.slice ord R.length crd) ((w.alloc (.cells #[.int .i64 3, .int .i64 cl, .slice od D.length cd] 32)).alloc (.cells #[.int .i64 err, .int .i64 lsn, .slice ord R.length crd] 34)) h2).mono fun e w' h => h.toR r2
      clear e1
      have bz : ((R.length : Int) == 0) = true := by rw [beq_iff_eq]; omega
      clear hz
      have HC := Lib.hid hc0
      clear hc0 h2 b2 r2 d2 d3 hI hv hrv hc hnx hn
      generalize ((syncS s err lsn).map fun s' => (s', bs)) = o at *
      generalize hrl : R.length = rl at *
      generalize hdl : D.length = dl at *
      clear hrl hdl
      go_enter Try.func24, Try.ntmps24
      go_wp2_with (go_at_call 21; go_must (first | (refine (may_true _).mono ?_; rintro e w' ⟨rfl, rfl⟩) | (refine (may_false _).mono ?_; rintro e w' ⟨rfl, rfl⟩) | (refine (may_dec (by omega) _).mono ?_; rintro e w' ⟨rfl, rfl⟩)))
      refine HC.out.mono ?_
      intro e w' h
      cases o with
      | none =>
        obtain ⟨rfl, hk⟩ := h
        exact bodyPost_panic rfl ⟨rfl, hk⟩
      | some sb =>
        obtain ⟨rfl, hx, hk⟩ := h
        have HX := Lib.hid (And.intro hx hk)
        clear hx hk
        go_wp2_with fail
        go_end0
        exact ⟨rfl, HX.out.1, HX.out.2⟩
    · have e1 : ansS s bs 3 cl D err lsn R = none := by unfold ansS; rw [if_neg (by omega)]
      rw [e1]
      clear e1
      have bz : ((R.length : Int) == 0) = false := by rw [beq_eq_false_iff_ne]; omega
      have HW := Lib.hid (Keep.refl (fun b => b = g ∨ rv.ownBlock = some b) ((w.alloc (.cells #[.int .i64 3, .int .i64 cl, .slice od D.length cd] 32)).alloc (.cells #[.int .i64 err, .int .i64 lsn, .slice ord R.length crd] 34)))
      clear hz h2 b2 r2 d2 d3 hI hv hrv hc hnx hn
      generalize hrl : R.length = rl at *
      generalize hdl : D.length = dl at *
      clear hrl hdl
      go_enter Try.func24, Try.ntmps24
      go_wp2_with (go_at_call 21; go_must (first | (refine (may_true _).mono ?_; rintro e w' ⟨rfl, rfl⟩) | (refine (may_false _).mono ?_; rintro e w' ⟨rfl, rfl⟩) | (refine (may_dec (by omega) _).mono ?_; rintro e w' ⟨rfl, rfl⟩)))
      exact bodyPost_panic rfl ⟨rfl, HW.out⟩
  · by_cases hz : R.length = 0
    · have e1 : ansS s bs 4 cl D err lsn R = ((readS s bs 4 cl err lsn R).map fun s' => (s', bs)) := by unfold ansS; rw [if_pos (Or.inl hz), if_pos (by omega)]
      rw [e1]
      have hc0 := (read_any base g s rv bs xs 4 cl err lsn (.slice od D.length cd) ord crd R ((w.alloc (.cells #[.int .i64 4, .int .i64 cl, .slice od D.length cd] 32)).alloc (.cells #[.int .i64 err, .int .i64 lsn, .slice ord R.length crd] 34)) h2 r2 hI d3 hrv).mono fun e w' h => h.toR r2
      clear e1
      have bz : ((R.length : Int) == 0) = true := by rw [beq_iff_eq]; omega
      clear hz
      have HC := Lib.hid hc0
      clear hc0 h2 b2 r2 d2 d3 hI hv hrv hc hnx hn
      generalize ((readS s bs 4 cl err lsn R).map fun s' => (s', bs)) = o at *
      generalize hrl : R.length = rl at *
      generalize hdl : D.length = dl at *
      clear hrl hdl
      go_enter Try.func24, Try.ntmps24
      go_wp2_with (go_at_call 21; go_must (first | (refine (may_true _).mono ?_; rintro e w' ⟨rfl, rfl⟩) | (refine (may_false _).mono ?_; rintro e w' ⟨rfl, rfl⟩) | (refine (may_dec (by omega) _).mono ?_; rintro e w' ⟨rfl, rfl⟩)))
      refine HC.out.mono ?_
      intro e w' h
      cases o with
      | none =>
        obtain ⟨rfl, hk⟩ := h
        exact bodyPost_panic rfl ⟨rfl, hk⟩
      | some sb =>
        obtain ⟨rfl, hx, hk⟩ := h
        have HX := Lib.hid (And.intro hx hk)
        clear hx hk
        go_wp2_with fail
        go_end0
        exact ⟨rfl, HX.out.1, HX.out.2⟩
    · have bz : ((R.length : Int) == 0) = false := by rw [beq_eq_false_iff_ne]; omega
      by_cases h0 : err = 0
      · subst h0
        have e1 : ansS s bs 4 cl D 0 lsn R = ((readS s bs 4 cl 0 lsn R).map fun s' => (s', bs)) := by unfold ansS; rw [if_pos (by omega), if_pos (by omega)]
        rw [e1]
        have hc0 := (read_any base g s rv bs xs 4 cl 0 lsn (.slice od D.length cd) ord crd R ((w.alloc (.cells #[.int .i64 4, .int .i64 cl, .slice od D.length cd] 32)).alloc (.cells #[.int .i64 0, .int .i64 lsn, .slice ord R.length crd] 34)) h2 r2 hI d3 hrv).mono fun e w' h => h.toR r2
        clear e1 hz
        have HC := Lib.hid hc0
        clear hc0 h2 b2 r2 d2 d3 hI hv hrv hc hnx hn
        generalize ((readS s bs 4 cl 0 lsn R).map fun s' => (s', bs)) = o at *
        generalize hrl : R.length = rl at *
        generalize hdl : D.length = dl at *
        clear hrl hdl
        go_enter Try.func24, Try.ntmps24
        go_wp2_with (go_at_call 21; go_must (first | (refine (may_true _).mono ?_; rintro e w' ⟨rfl, rfl⟩) | (refine (may_false _).mono ?_; rintro e w' ⟨rfl, rfl⟩) | (refine (may_dec (by omega) _).mono ?_; rintro e w' ⟨rfl, rfl⟩)))
        refine HC.out.mono ?_
        intro e w' h
        cases o with
        | none =>
          obtain ⟨rfl, hk⟩ := h
          exact bodyPost_panic rfl ⟨rfl, hk⟩
        | some sb =>
          obtain ⟨rfl, hx, hk⟩ := h
          have HX := Lib.hid (And.intro hx hk)
          clear hx hk
          go_wp2_with fail
          go_end0
          exact ⟨rfl, HX.out.1, HX.out.2⟩
      · have e1 : ansS s bs 4 cl D err lsn R = none := by unfold ansS; rw [if_neg (by omega)]
        rw [e1]
        clear e1
        have b0 : (err == 0) = false := by simpa using h0
        have HW := Lib.hid (Keep.refl (fun b => b = g ∨ rv.ownBlock = some b) ((w.alloc (.cells #[.int .i64 4, .int .i64 cl, .slice od D.length cd] 32)).alloc (.cells #[.int .i64 err, .int .i64 lsn, .slice ord R.length crd] 34)))
        clear hz h2 b2 r2 d2 d3 hI hv hrv hc hnx hn h0
        generalize hrl : R.length = rl at *
        generalize hdl : D.length = dl at *
        clear hrl hdl
        go_enter Try.func24, Try.ntmps24
        go_wp2_with (go_at_call 21; go_must (first | (refine (may_true _).mono ?_; rintro e w' ⟨rfl, rfl⟩) | (refine (may_false _).mono ?_; rintro e w' ⟨rfl, rfl⟩) | (refine (may_dec (by omega) _).mono ?_; rintro e w' ⟨rfl, rfl⟩)))
        exact bodyPost_panic rfl ⟨rfl, HW.out⟩
  · by_cases hz : R.length = 0
    · have e1 : ansS s bs 5 cl D err lsn R = ((readS s bs 5 cl err lsn R).map fun s' => (s', bs)) := by unfold ansS; rw [if_pos (Or.inl hz), if_pos (by omega)]
      rw [e1]
      have hc0 := (read_any base g s rv bs xs 5 cl err lsn (.slice od D.length cd) ord crd R ((w.alloc (.cells #[.int .i64 5, .int .i64 cl, .slice od D.length cd] 32)).alloc (.cells #[.int .i64 err, .int .i64 lsn, .slice ord R.length crd] 34)) h2 r2 hI d3 hrv).mono fun e w' h => h.toR r2
      clear e1
      have bz : ((R.length : Int) == 0) = true := by rw [beq_iff_eq]; omega
      clear hz
      have HC := Lib.hid hc0
      clear hc0 h2 b2 r2 d2 d3 hI hv hrv hc hnx hn
      generalize ((readS s bs 5 cl err lsn R).map fun s' => (s', bs)) = o at *
      generalize hrl : R.length = rl at *
      generalize hdl : D.length = dl at *
      clear hrl hdl
      go_enter Try.func24, Try.ntmps24
      go_wp2_with (go_at_call 21; go_must (first | (refine (may_true _).mono ?_; rintro e w' ⟨rfl, rfl⟩) | (refine (may_false _).mono ?_; rintro e w' ⟨rfl, rfl⟩) | (refine (may_dec (by omega) _).mono ?_; rintro e w' ⟨rfl, rfl⟩)))
      refine HC.out.mono ?_
      intro e w' h
      cases o with
      | none =>
        obtain ⟨rfl, hk⟩ := h
        exact bodyPost_panic rfl ⟨rfl, hk⟩
      | some sb =>
        obtain ⟨rfl, hx, hk⟩ := h
        have HX := Lib.hid (And.intro hx hk)
        clear hx hk
        go_wp2_with fail
        go_end0
        exact ⟨rfl, HX.out.1, HX.out.2⟩
    · have bz : ((R.length : Int) == 0) = false := by rw [beq_eq_false_iff_ne]; omega
      by_cases h0 : err = 0
      · subst h0
        have e1 : ansS s bs 5 cl D 0 lsn R = ((readS s bs 5 cl 0 lsn R).map fun s' => (s', bs)) := by unfold ansS; rw [if_pos (by omega), if_pos (by omega)]
        rw [e1]
        have hc0 := (read_any base g s rv bs xs 5 cl 0 lsn (.slice od D.length cd) ord crd R ((w.alloc (.cells #[.int .i64 5, .int .i64 cl, .slice od D.length cd] 32)).alloc (.cells #[.int .i64 0, .int .i64 lsn, .slice ord R.length crd] 34)) h2 r2 hI d3 hrv).mono fun e w' h => h.toR r2
        clear e1 hz
        have HC := Lib.hid hc0
        clear hc0 h2 b2 r2 d2 d3 hI hv hrv hc hnx hn
        generalize ((readS s bs 5 cl 0 lsn R).map fun s' => (s', bs)) = o at *
        generalize hrl : R.length = rl at *
        generalize hdl : D.length = dl at *
        clear hrl hdl
        go_enter Try.func24, Try.ntmps24
        go_wp2_with (go_at_call 21; go_must (first | (refine (may_true _).mono ?_; rintro e w' ⟨rfl, rfl⟩) | (refine (may_false _).mono ?_; rintro e w' ⟨rfl, rfl⟩) | (refine (may_dec (by omega) _).mono ?_; rintro e w' ⟨rfl, rfl⟩)))
        refine HC.out.mono ?_
        intro e w' h
        cases o with
        | none =>
          obtain ⟨rfl, hk⟩ := h
          exact bodyPost_panic rfl ⟨rfl, hk⟩
        | some sb =>
          obtain ⟨rfl, hx, hk⟩ := h
          have HX := Lib.hid (And.intro hx hk)
          clear hx hk
          go_wp2_with fail
          go_end0
          exact ⟨rfl, HX.out.1, HX.out.2⟩
      · have e1 : ansS s bs 5 cl D err lsn R = none := by unfold ansS; rw [if_neg (by omega)]
        rw [e1]
        clear e1
        have b0 : (err == 0) = false := by simpa using h0
        have HW := Lib.hid (Keep.refl (fun b => b = g ∨ rv.ownBlock = some b) ((w.alloc (.cells #[.int .i64 5, .int .i64 cl, .slice od D.length cd] 32)).alloc (.cells #[.int .i64 err, .int .i64 lsn, .slice ord R.length crd] 34)))
        clear hz h2 b2 r2 d2 d3 hI hv hrv hc hnx hn h0
        generalize hrl : R.length = rl at *
        generalize hdl : D.length = dl at *
        clear hrl hdl
        go_enter Try.func24, Try.ntmps24
        go_wp2_with (go_at_call 21; go_must (first | (refine (may_true _).mono ?_; rintro e w' ⟨rfl, rfl⟩) | (refine (may_false _).mono ?_; rintro e w' ⟨rfl, rfl⟩) | (refine (may_dec (by omega) _).mono ?_; rintro e w' ⟨rfl, rfl⟩)))
        exact bodyPost_panic rfl ⟨rfl, HW.out⟩
  · by_cases hz : R.length = 0
    · have e1 : ansS s bs 6 cl D err lsn R = ((truncS s cl err lsn).map fun s' => (s', bs)) := by unfold ansS; rw [if_pos (Or.inl hz), if_neg (by omega), if_neg (by omega), if_pos rfl]
      rw [e1]
      have hc0 := (trunc_any g s rv 6 cl err lsn (.slice od D.length cd) (.slice ord R.length crd) ((w.alloc (.cells #[.int .i64 6, .int .i64 cl, .slice od D.length cd] 32)).alloc (.cells #[.int .i64 err, .int .i64 lsn, .slice ord R.length crd] 34)) h2).mono fun e w' h => h.toR r2
      clear e1
      have bz : ((R.length : Int) == 0) = true := by rw [beq_iff_eq]; omega
      clear hz
      have HC := Lib.hid hc0
      clear hc0 h2 b2 r2 d2 d3 hI hv hrv hc hnx hn
      generalize ((truncS s cl err lsn).map fun s' => (s', bs)) = o at *
      generalize hrl : R.length = rl at *
      generalize hdl : D.length = dl at *
      clear hrl hdl
      go_enter Try.func24, Try.ntmps24
      go_wp2_with (go_at_call 21; go_must (first | (refine (may_true _).mono ?_; rintro e w' ⟨rfl, rfl⟩) | (refine (may_false _).mono ?_; rintro e w' ⟨rfl, rfl⟩) | (refine (may_dec (by omega) _).mono ?_; rintro e w' ⟨rfl, rfl⟩)))
      refine HC.out.mono ?_
      intro e w' h
      cases o with
      | none =>
        obtain ⟨rfl, hk⟩ := h
        exact bodyPost_panic rfl ⟨rfl, hk⟩
      | some sb =>
        obtain ⟨rfl, hx, hk⟩ := h
        have HX := Lib.hid (And.intro hx hk)
        clear hx hk
        go_wp2_with fail
        go_end0
        exact ⟨rfl, HX.out.1, HX.out.2⟩
    · have e1 : ansS s bs 6 cl D err lsn R = none := by unfold ansS; rw [if_neg (by omega)]
      rw [e1]
      clear e1
      have bz : ((R.length : Int) == 0) = false := by rw [beq_eq_false_iff_ne]; omega
      have HW := Lib.hid (Keep.refl (fun b => b = g ∨ rv.ownBlock = some b) ((w.alloc (.cells #[.int .i64 6, .int .i64 cl, .slice od D.length cd] 32)).alloc (.cells #[.int .i64 err, .int .i64 lsn, .slice ord R.length crd] 34)))
      clear hz h2 b2 r2 d2 d3 hI hv hrv hc hnx hn
      generalize hrl : R.length = rl at *
      generalize hdl : D.length = dl at *
      clear hrl hdl
      go_enter Try.func24, Try.ntmps24
      go_wp2_with (go_at_call 21; go_must (first | (refine (may_true _).mono ?_; rintro e w' ⟨rfl, rfl⟩) | (refine (may_false _).mono ?_; rintro e w' ⟨rfl, rfl⟩) | (refine (may_dec (by omega) _).mono ?_; rintro e w' ⟨rfl, rfl⟩)))
      exact bodyPost_panic rfl ⟨rfl, HW.out⟩
  · by_cases hz : R.length = 0
    · have e1 : ansS s bs 7 cl D err lsn R = ((closeS s err lsn).map fun s' => (s', bs)) := by unfold ansS; rw [if_pos (Or.inl hz), if_neg (by omega), if_neg (by omega), if_neg (by omega), if_neg (by omega)]
      rw [e1]
      have hc0 := (close_any g s rv err lsn (.slice ord R.length crd) ((w.alloc (.cells #[.int .i64 7, .int .i64 cl, .slice od D.length cd] 32)).alloc (.cells #[.int .i64 err, .int .i64 lsn, .slice ord R.length crd] 34)) h2).mono fun e w' h => h.toR r2
      clear e1
      have bz : ((R.length : Int) == 0) = true := by rw [beq_iff_eq]; omega
      clear hz
      have HC := Lib.hid hc0
      clear hc0 h2 b2 r2 d2 d3 hI hv hrv hc hnx hn
      generalize ((closeS s err lsn).map fun s' => (s', bs)) = o at *
      generalize hrl : R.length = rl at *
      generalize hdl : D.length = dl at *
      clear hrl hdl
      go_enter Try.func24, Try.ntmps24
      go_wp2_with (go_at_call 21; go_must (first | (refine (may_true _).mono ?_; rintro e w' ⟨rfl, rfl⟩) | (refine (may_false _).mono ?_; rintro e w' ⟨rfl, rfl⟩) | (refine (may_dec (by omega) _).mono ?_; rintro e w' ⟨rfl, rfl⟩)))
      refine HC.out.mono ?_
      intro e w' h
      cases o with
      | none =>
        obtain ⟨rfl, hk⟩ := h
        exact bodyPost_panic rfl ⟨rfl, hk⟩
      | some sb =>
        obtain ⟨rfl, hx, hk⟩ := h
        have HX := Lib.hid (And.intro hx hk)
        clear hx hk
        go_wp2_with fail
        go_end0
        exact ⟨rfl, HX.out.1, HX.out.2⟩
    · have e1 : ansS s bs 7 cl D err lsn R = none := by unfold ansS; rw [if_neg (by omega)]
      rw [e1]
      clear e1
      have bz : ((R.length : Int) == 0) = false := by rw [beq_eq_false_iff_ne]; omega
      have HW := Lib.hid (Keep.refl (fun b => b = g ∨ rv.ownBlock = some b) ((w.alloc (.cells #[.int .i64 7, .int .i64 cl, .slice od D.length cd] 32)).alloc (.cells #[.int .i64 err, .int .i64 lsn, .slice ord R.length crd] 34)))
      clear hz h2 b2 r2 d2 d3 hI hv hrv hc hnx hn
      generalize hrl : R.length = rl at *
      generalize hdl : D.length = dl at *
      clear hrl hdl
      go_enter Try.func24, Try.ntmps24
      go_wp2_with (go_at_call 21; go_must (first | (refine (may_true _).mono ?_; rintro e w' ⟨rfl, rfl⟩) | (refine (may_false _).mono ?_; rintro e w' ⟨rfl, rfl⟩) | (refine (may_dec (by omega) _).mono ?_; rintro e w' ⟨rfl, rfl⟩)))
      exact bodyPost_panic rfl ⟨rfl, HW.out⟩
end Md
end Go.Proofs.Ytjiehgfamlidnaa
