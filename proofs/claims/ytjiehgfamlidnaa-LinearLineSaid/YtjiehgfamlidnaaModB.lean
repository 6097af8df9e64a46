/- The model package: Truncate's answer. By an AI agent. -/
import Derived.Test.YtjiehgfamlidnaaModA
namespace Go.Proofs.Ytjiehgfamlidnaa
open Go.ChangeShapes Go.WideShapes Go.ChangeAt Go.RowKit
set_option linter.unusedVariables false
namespace Md

def truncS (s : S) (cl err lsn : Int) : Option S :=
  if err = 40 then
    if lsn = 0 then some { s with failed := true }
    else if lsn = cl ∧ s.first < cl then (frontS s cl).map fun s' => { s' with failed := true } else none
  else if (!s.failed && !s.closed) = true then
    if lsn = 0 then
      if err = 0 then if s.first < cl then frontS s cl else some s
      else if err = 8 then if s.durable < cl ∧ s.first < cl then some s else none
      else if err = 9 then some s else none
    else none
  else none

set_option maxRecDepth 100000 in
set_option maxHeartbeats 4000000 in
theorem trunc_any (g : Nat) (s : S) (rv : Value) (kind cl err lsn : Int) (cd dv : Value) (w : World) (h : At w g s rv) :
    Calls Try.prog 22 #[.pointer (some ⟨g, 0, none⟩), .agg #[.int .i64 kind, .int .i64 cl, cd], .agg #[.int .i64 err, .int .i64 lsn, dv]] w (Res g rv (truncS s cl err lsn) w) := by
  have h2 : At ((w.alloc (.cells #[.int .i64 kind, .int .i64 cl, cd] 32)).alloc (.cells #[.int .i64 err, .int .i64 lsn, dv] 34)) g s rv := blk_alloc (blk_alloc h _) _
  have HK := Lib.hid (And.intro h2 (((Keep.refl (· = g) w).alloc (.cells #[.int .i64 kind, .int .i64 cl, cd] 32)).alloc (.cells #[.int .i64 err, .int .i64 lsn, dv] 34)))
  have c1 := blk_cell h2 1
  have c2 := blk_cell h2 2
  have c6 := blk_cell h2 6
  have f6 := blk_free h2 6
  simp [cs] at c1 c2 c6
  have HN := Lib.hid (sane_any g s rv ((w.alloc (.cells #[.int .i64 kind, .int .i64 cl, cd] 32)).alloc (.cells #[.int .i64 err, .int .i64 lsn, dv] 34)) h2)
  have HF := Lib.hid (front_any g s rv cl ((w.alloc (.cells #[.int .i64 kind, .int .i64 cl, cd] 32)).alloc (.cells #[.int .i64 err, .int .i64 lsn, dv] 34)) h2)
  clear h h2
  unfold truncS
  by_cases h40 : err = 40
  · rw [if_pos h40]
    subst h40
    by_cases hl : lsn = 0
    · rw [if_pos hl]
      subst hl
      go_enter Try.func22, Try.ntmps22
      go_wp2_with (first | (go_at_call 21; go_must (first | (refine (may_true _).mono ?_; rintro e w' ⟨rfl, rfl⟩) | (refine (may_false _).mono ?_; rintro e w' ⟨rfl, rfl⟩) | (refine (may_dec (by omega) _).mono ?_; rintro e w' ⟨rfl, rfl⟩))) | (go_at_call 34; go_must (refine HN.out.mono ?_; rintro e w' ⟨rfl, rfl⟩)))
      go_end0
      exact ⟨rfl, blk_set HK.out.1 6 _, Keep.setCell (bs := (· = g)) HK.out.2 (p := ⟨g, 6, none⟩) (Or.inl rfl) _⟩
    · rw [if_neg hl]
      have b1 : (lsn == 0) = false := by simpa using hl
      have b1' : (lsn != 0) = true := by simpa using hl
      by_cases h3 : lsn = cl ∧ s.first < cl
      · rw [if_pos h3]
        obtain ⟨h3, h4⟩ := h3
        subst h3
        rcases hq : frontS s lsn with _ | s'
        · rw [hq] at HF
          clear hq
          go_enter Try.func22, Try.ntmps22
          go_wp2_with (first | (go_at_call 21; go_must (first | (refine (may_true _).mono ?_; rintro e w' ⟨rfl, rfl⟩) | (refine (may_false _).mono ?_; rintro e w' ⟨rfl, rfl⟩) | (refine (may_dec (by omega) _).mono ?_; rintro e w' ⟨rfl, rfl⟩))) | (go_at_call 34; go_must (refine HN.out.mono ?_; rintro e w' ⟨rfl, rfl⟩)))
          refine HF.out.mono ?_
          rintro e w' ⟨rfl, hk⟩
          exact bodyPost_panic rfl ⟨rfl, HK.out.2.trans hk⟩
        · rw [hq] at HF
          clear hq
          go_enter Try.func22, Try.ntmps22
          go_wp2_with (first | (go_at_call 21; go_must (first | (refine (may_true _).mono ?_; rintro e w' ⟨rfl, rfl⟩) | (refine (may_false _).mono ?_; rintro e w' ⟨rfl, rfl⟩) | (refine (may_dec (by omega) _).mono ?_; rintro e w' ⟨rfl, rfl⟩))) | (go_at_call 34; go_must (refine HN.out.mono ?_; rintro e w' ⟨rfl, rfl⟩)))
          refine HF.out.mono ?_
          rintro e w' ⟨rfl, hat, hk⟩
          have k6 := blk_cell hat 6
          have g6 := blk_free hat 6
          have H7 := Lib.hid (And.intro hat hk)
          simp [cs] at k6
          clear hat hk
          go_wp2_with fail
          go_end0
          exact ⟨rfl, blk_set H7.out.1 6 _, Keep.setCell (bs := (· = g)) (HK.out.2.trans H7.out.2) (p := ⟨g, 6, none⟩) (Or.inl rfl) _⟩
      · rw [if_neg h3]
        by_cases h5 : lsn = cl
        · have h6 : ¬ s.first < cl := fun h => h3 ⟨h5, h⟩
          subst h5
          clear h3
          go_enter Try.func22, Try.ntmps22
          go_wp2_with (first | (go_at_call 21; go_must (first | (refine (may_true _).mono ?_; rintro e w' ⟨rfl, rfl⟩) | (refine (may_false _).mono ?_; rintro e w' ⟨rfl, rfl⟩) | (refine (may_dec (by omega) _).mono ?_; rintro e w' ⟨rfl, rfl⟩))) | (go_at_call 34; go_must (refine HN.out.mono ?_; rintro e w' ⟨rfl, rfl⟩)))
          exact bodyPost_panic rfl ⟨rfl, HK.out.2⟩
        · have b2 : (lsn == cl) = false := by simpa using h5
          clear h3
          go_enter Try.func22, Try.ntmps22
          go_wp2_with (first | (go_at_call 21; go_must (first | (refine (may_true _).mono ?_; rintro e w' ⟨rfl, rfl⟩) | (refine (may_false _).mono ?_; rintro e w' ⟨rfl, rfl⟩) | (refine (may_dec (by omega) _).mono ?_; rintro e w' ⟨rfl, rfl⟩))) | (go_at_call 34; go_must (refine HN.out.mono ?_; rintro e w' ⟨rfl, rfl⟩)))
          exact bodyPost_panic rfl ⟨rfl, HK.out.2⟩
  · rw [if_neg h40]
    have b0 : (err == 40) = false := by simpa using h40
    by_cases hs : (!s.failed && !s.closed) = true
    · rw [if_pos hs] at HN
      rw [if_pos hs]
      clear hs
      by_cases hl : lsn = 0
      · rw [if_pos hl]
        subst hl
        by_cases h0 : err = 0
        · rw [if_pos h0]
          subst h0
          by_cases h4 : s.first < cl
          · rw [if_pos h4]
            rcases hq : frontS s cl with _ | s'
            · rw [hq] at HF
              clear hq
              go_enter Try.func22, Try.ntmps22
              go_wp2_with (first | (go_at_call 21; go_must (first | (refine (may_true _).mono ?_; rintro e w' ⟨rfl, rfl⟩) | (refine (may_false _).mono ?_; rintro e w' ⟨rfl, rfl⟩) | (refine (may_dec (by omega) _).mono ?_; rintro e w' ⟨rfl, rfl⟩))) | (go_at_call 34; go_must (refine HN.out.mono ?_; rintro e w' ⟨rfl, rfl⟩)))
              refine HF.out.mono ?_
              rintro e w' ⟨rfl, hk⟩
              exact bodyPost_panic rfl ⟨rfl, HK.out.2.trans hk⟩
            · rw [hq] at HF
              clear hq
              go_enter Try.func22, Try.ntmps22
              go_wp2_with (first | (go_at_call 21; go_must (first | (refine (may_true _).mono ?_; rintro e w' ⟨rfl, rfl⟩) | (refine (may_false _).mono ?_; rintro e w' ⟨rfl, rfl⟩) | (refine (may_dec (by omega) _).mono ?_; rintro e w' ⟨rfl, rfl⟩))) | (go_at_call 34; go_must (refine HN.out.mono ?_; rintro e w' ⟨rfl, rfl⟩)))
              refine HF.out.mono ?_
              rintro e w' ⟨rfl, hat, hk⟩
              have H7 := Lib.hid (And.intro hat hk)
              clear hat hk
              go_wp2_with fail
              go_end0
              exact ⟨rfl, H7.out.1, HK.out.2.trans H7.out.2⟩
          · rw [if_neg h4]
            go_enter Try.func22, Try.ntmps22
            go_wp2_with (first | (go_at_call 21; go_must (first | (refine (may_true _).mono ?_; rintro e w' ⟨rfl, rfl⟩) | (refine (may_false _).mono ?_; rintro e w' ⟨rfl, rfl⟩) | (refine (may_dec (by omega) _).mono ?_; rintro e w' ⟨rfl, rfl⟩))) | (go_at_call 34; go_must (refine HN.out.mono ?_; rintro e w' ⟨rfl, rfl⟩)))
            go_end0
            exact ⟨rfl, HK.out.1, HK.out.2⟩
        · rw [if_neg h0]
          have b3 : (err == 0) = false := by simpa using h0
          by_cases h8 : err = 8
          · rw [if_pos h8]
            subst h8
            by_cases h3 : s.durable < cl ∧ s.first < cl
            · rw [if_pos h3]
              obtain ⟨h3, h4⟩ := h3
              go_enter Try.func22, Try.ntmps22
              go_wp2_with (first | (go_at_call 21; go_must (first | (refine (may_true _).mono ?_; rintro e w' ⟨rfl, rfl⟩) | (refine (may_false _).mono ?_; rintro e w' ⟨rfl, rfl⟩) | (refine (may_dec (by omega) _).mono ?_; rintro e w' ⟨rfl, rfl⟩))) | (go_at_call 34; go_must (refine HN.out.mono ?_; rintro e w' ⟨rfl, rfl⟩)))
              go_end0
              exact ⟨rfl, HK.out.1, HK.out.2⟩
            · rw [if_neg h3]
              by_cases h5 : s.durable < cl
              · have h6 : ¬ s.first < cl := fun h => h3 ⟨h5, h⟩
                clear h3
                go_enter Try.func22, Try.ntmps22
                go_wp2_with (first | (go_at_call 21; go_must (first | (refine (may_true _).mono ?_; rintro e w' ⟨rfl, rfl⟩) | (refine (may_false _).mono ?_; rintro e w' ⟨rfl, rfl⟩) | (refine (may_dec (by omega) _).mono ?_; rintro e w' ⟨rfl, rfl⟩))) | (go_at_call 34; go_must (refine HN.out.mono ?_; rintro e w' ⟨rfl, rfl⟩)))
                exact bodyPost_panic rfl ⟨rfl, HK.out.2⟩
              · clear h3
                go_enter Try.func22, Try.ntmps22
                go_wp2_with (first | (go_at_call 21; go_must (first | (refine (may_true _).mono ?_; rintro e w' ⟨rfl, rfl⟩) | (refine (may_false _).mono ?_; rintro e w' ⟨rfl, rfl⟩) | (refine (may_dec (by omega) _).mono ?_; rintro e w' ⟨rfl, rfl⟩))) | (go_at_call 34; go_must (refine HN.out.mono ?_; rintro e w' ⟨rfl, rfl⟩)))
                exact bodyPost_panic rfl ⟨rfl, HK.out.2⟩
          · rw [if_neg h8]
            have b4 : (err == 8) = false := by simpa using h8
            by_cases h9 : err = 9
            · rw [if_pos h9]
              subst h9
              go_enter Try.func22, Try.ntmps22
              go_wp2_with (first | (go_at_call 21; go_must (first | (refine (may_true _).mono ?_; rintro e w' ⟨rfl, rfl⟩) | (refine (may_false _).mono ?_; rintro e w' ⟨rfl, rfl⟩) | (refine (may_dec (by omega) _).mono ?_; rintro e w' ⟨rfl, rfl⟩))) | (go_at_call 34; go_must (refine HN.out.mono ?_; rintro e w' ⟨rfl, rfl⟩)))
              go_end0
              exact ⟨rfl, HK.out.1, HK.out.2⟩
            · rw [if_neg h9]
              have b5 : (err == 9) = false := by simpa using h9
              go_enter Try.func22, Try.ntmps22
              go_wp2_with (first | (go_at_call 21; go_must (first | (refine (may_true _).mono ?_; rintro e w' ⟨rfl, rfl⟩) | (refine (may_false _).mono ?_; rintro e w' ⟨rfl, rfl⟩) | (refine (may_dec (by omega) _).mono ?_; rintro e w' ⟨rfl, rfl⟩))) | (go_at_call 34; go_must (refine HN.out.mono ?_; rintro e w' ⟨rfl, rfl⟩)))
              exact bodyPost_panic rfl ⟨rfl, HK.out.2⟩
      · rw [if_neg hl]
        have b1 : (lsn == 0) = false := by simpa using hl
        go_enter Try.func22, Try.ntmps22
        go_wp2_with (first | (go_at_call 21; go_must (first | (refine (may_true _).mono ?_; rintro e w' ⟨rfl, rfl⟩) | (refine (may_false _).mono ?_; rintro e w' ⟨rfl, rfl⟩) | (refine (may_dec (by omega) _).mono ?_; rintro e w' ⟨rfl, rfl⟩))) | (go_at_call 34; go_must (refine HN.out.mono ?_; rintro e w' ⟨rfl, rfl⟩)))
        exact bodyPost_panic rfl ⟨rfl, HK.out.2⟩
    · rw [if_neg hs] at HN
      rw [if_neg hs]
      clear hs
      go_enter Try.func22, Try.ntmps22
      go_wp2_with (first | (go_at_call 21; go_must (first | (refine (may_true _).mono ?_; rintro e w' ⟨rfl, rfl⟩) | (refine (may_false _).mono ?_; rintro e w' ⟨rfl, rfl⟩) | (refine (may_dec (by omega) _).mono ?_; rintro e w' ⟨rfl, rfl⟩))) | (go_at_call 34; go_must (refine HN.out.mono ?_; rintro e w' ⟨rfl, rfl⟩)))
      exact bodyPost_panic rfl ⟨rfl, HK.out.2⟩

end Md
end Go.Proofs.Ytjiehgfamlidnaa
