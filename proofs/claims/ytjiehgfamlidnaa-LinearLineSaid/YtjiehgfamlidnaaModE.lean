/- The model package: Append's answer. By an AI agent. -/
import Derived.Test.YtjiehgfamlidnaaModD
namespace Go.Proofs.Ytjiehgfamlidnaa
open Go.ChangeShapes Go.WideShapes Go.ChangeAt Go.RowKit
set_option linter.unusedVariables false
namespace Md

/-- An Append's answer, or an Async's: the numbers; whether a record is added. -/
def appS (s : S) (kind err lsn : Int) (n : Nat) : Option (S × Bool) :=
  if err = 0 then if kind = 2 ∨ lsn < s.limit then (addS s lsn n).map fun s' => (s', true) else none
  else if err = 40 then
    if lsn = 0 then some ({ s with failed := true }, false)
    else match addS s lsn n with
      | some s' => if s'.durable ≤ min s'.limit lsn then some ({ s' with limit := min s'.limit lsn }, true) else none
      | none => none
  else if err = 3 ∨ err = 44 ∨ err = 9 then
    if (!s.failed && !s.closed) = true then if lsn = 0 ∧ (err ≠ 44 ∨ s.next = 9223372036854775807) then some (s, false) else none else none
  else none

/-- The records then. -/
def recsOf (bs : List (List Nat)) (D : List Nat) (o : Option (S × Bool)) : Option (S × List (List Nat)) := o.map fun p => (p.1, if p.2 then bs ++ [D] else bs)

set_option maxRecDepth 100000 in
set_option maxHeartbeats 8000000 in
theorem app_any (base g : Nat) (s : S) (rv : Value) (bs : List (List Nat)) (xs : List Value) (kind cl err lsn : Int) (od : Option Addr) (cd : Nat) (D : List Nat) (dv : Value) (w : World) (h : At w g s rv) (hr : Recs w base g rv bs xs)
    (hbase : base ≤ g) (hD : Bys w od D) (hc : od = none → cd = 0) (hv : ∀ i, D.getD i 0 < 256) (hn : bs.length ≤ 1000000) (hnx : 0 ≤ s.next) :
    Calls Try.prog 37 #[.pointer (some ⟨g, 0, none⟩), .agg #[.int .i64 kind, .int .i64 cl, .slice od D.length cd], .agg #[.int .i64 err, .int .i64 lsn, dv]] w (ResR base g rv (recsOf bs D (appS s kind err lsn D.length)) w) := by
  have k2 := (((Keep.refl (fun _ => False) w).alloc (.cells #[.int .i64 kind, .int .i64 cl, .slice od D.length cd] 32)).alloc (.cells #[.int .i64 err, .int .i64 lsn, dv] 34))
  have h2 : At ((w.alloc (.cells #[.int .i64 kind, .int .i64 cl, .slice od D.length cd] 32)).alloc (.cells #[.int .i64 err, .int .i64 lsn, dv] 34)) g s rv := blk_alloc (blk_alloc h _) _
  have hz := lt_of_block h
  have hob : ∀ k, rv.ownBlock = some k → k < w.heap.size := fun k hk => (hr.row.lt k hk).2
  have b2 : Keep (fun b => b = g ∨ rv.ownBlock = some b) w ((w.alloc (.cells #[.int .i64 kind, .int .i64 cl, .slice od D.length cd] 32)).alloc (.cells #[.int .i64 err, .int .i64 lsn, dv] 34)) := k2.mono (fun _ _ h => h.elim)
  have r2 : Recs ((w.alloc (.cells #[.int .i64 kind, .int .i64 cl, .slice od D.length cd] 32)).alloc (.cells #[.int .i64 err, .int .i64 lsn, dv] 34)) base g rv bs xs := hr.keep (k2.mono (fun _ _ h => h.elim))
  have d2 : Bys ((w.alloc (.cells #[.int .i64 kind, .int .i64 cl, .slice od D.length cd] 32)).alloc (.cells #[.int .i64 err, .int .i64 lsn, dv] 34)) od D := bys_keep hD k2.none
  have HN := Lib.hid (sane_any g s rv ((w.alloc (.cells #[.int .i64 kind, .int .i64 cl, .slice od D.length cd] 32)).alloc (.cells #[.int .i64 err, .int .i64 lsn, dv] 34)) h2)
  have HA := Lib.hid fun q => add_any base g s rv bs xs lsn od cd D (((w.alloc (.cells #[.int .i64 kind, .int .i64 cl, .slice od D.length cd] 32)).alloc (.cells #[.int .i64 err, .int .i64 lsn, dv] 34)).drewN q) h2 ⟨r2.row, r2.apart, r2.each, r2.small⟩ hbase d2 hc hv hn hnx
  have HK := Lib.hid (And.intro h2 (And.intro b2 (And.intro r2 (And.intro h (And.intro hr hob)))))
  have q0 : ((w.alloc (.cells #[.int .i64 kind, .int .i64 cl, .slice od D.length cd] 32)).alloc (.cells #[.int .i64 err, .int .i64 lsn, dv] 34)).cell? ⟨w.heap.size, 0, none⟩ = some (.int .i64 kind) := past (b := w.heap.size) (i := 0) (by simp) (blk_cell (blk_new w (.cells #[.int .i64 kind, .int .i64 cl, .slice od D.length cd] 32)) 0) (.cells #[.int .i64 err, .int .i64 lsn, dv] 34)
  have q1 : ((w.alloc (.cells #[.int .i64 kind, .int .i64 cl, .slice od D.length cd] 32)).alloc (.cells #[.int .i64 err, .int .i64 lsn, dv] 34)).cell? ⟨w.heap.size + 1, 1, none⟩ = some (.int .i64 lsn) := blk_cell (blk_new_at (w.alloc (.cells #[.int .i64 kind, .int .i64 cl, .slice od D.length cd] 32)) (.cells #[.int .i64 err, .int .i64 lsn, dv] 34) (n := w.heap.size + 1) (by simp)) 1
  have HQ := Lib.hid (And.intro q0 q1)
  have c2 := blk_cell h2 2
  have c3 := blk_cell h2 3
  have c4 := blk_cell h2 4
  have c6 := blk_cell h2 6
  have f6 := blk_free h2 6
  have z2 : ((w.alloc (.cells #[.int .i64 kind, .int .i64 cl, .slice od D.length cd] 32)).alloc (.cells #[.int .i64 err, .int .i64 lsn, dv] 34)).heap.size = w.heap.size + 2 := by simp
  simp [cs] at c2 c3 c4 c6
  have HZ := Lib.hid (And.intro hz z2)
  clear k2 h2 b2 r2 d2 h hr hD hc hv q0 q1 hob z2
  generalize hdl : D.length = dl at *
  have HDL := Lib.hid hdl
  clear hdl
  unfold appS
  by_cases h0 : err = 0
  · rw [if_pos h0]
    subst h0
    by_cases h1 : kind = 2
    · rw [if_pos (Or.inl h1)]
      subst h1
      rcases hq : addS s lsn dl with _ | s'
      · rw [hq] at HA
        clear hq
        go_enter Try.func37, Try.ntmps37
        go_wp2_with fail
        go_quiet ((go_at_call 21; exact Calls.quiet_of_same ((may_true _).mono fun _ _ ⟨he, hw⟩ => ⟨he, hw.symm⟩)))
        go_wp2_with fail
        refine (HA.out _).mono ?_
        rintro e w' ⟨rfl, hk⟩
        exact bodyPost_panic rfl ⟨rfl, (HK.out.2.1.drewN _).trans hk⟩
      · rw [hq] at HA
        clear hq
        go_enter Try.func37, Try.ntmps37
        go_wp2_with fail
        go_quiet ((go_at_call 21; exact Calls.quiet_of_same ((may_true _).mono fun _ _ ⟨he, hw⟩ => ⟨he, hw.symm⟩)))
        go_wp2_with fail
        refine (HA.out _).mono ?_
        rintro e w' ⟨rfl, hx, hk⟩
        have HX := Lib.hid (And.intro hx hk)
        clear hx hk
        go_wp2_with fail
        go_end0
        exact ⟨rfl, HX.out.1, (HK.out.2.1.drewN _).trans HX.out.2⟩
    · have b1 : (kind == 2) = false := by simpa using h1
      by_cases h3 : lsn < s.limit
      · rw [if_pos (Or.inr h3)]
        rcases hq : addS s lsn dl with _ | s'
        · rw [hq] at HA
          clear hq
          go_enter Try.func37, Try.ntmps37
          go_wp2_with fail
          go_quiet ((go_at_call 21; exact Calls.quiet_of_same ((may_true _).mono fun _ _ ⟨he, hw⟩ => ⟨he, hw.symm⟩)))
          go_wp2_with fail
          refine (HA.out _).mono ?_
          rintro e w' ⟨rfl, hk⟩
          exact bodyPost_panic rfl ⟨rfl, (HK.out.2.1.drewN _).trans hk⟩
        · rw [hq] at HA
          clear hq
          go_enter Try.func37, Try.ntmps37
          go_wp2_with fail
          go_quiet ((go_at_call 21; exact Calls.quiet_of_same ((may_true _).mono fun _ _ ⟨he, hw⟩ => ⟨he, hw.symm⟩)))
          go_wp2_with fail
          refine (HA.out _).mono ?_
          rintro e w' ⟨rfl, hx, hk⟩
          have HX := Lib.hid (And.intro hx hk)
          clear hx hk
          go_wp2_with fail
          go_end0
          exact ⟨rfl, HX.out.1, (HK.out.2.1.drewN _).trans HX.out.2⟩
      · rw [if_neg (fun h => h.elim h1 h3)]
        go_enter Try.func37, Try.ntmps37
        go_wp2_with fail
        clear HN HA
        generalize ((w.alloc (.cells #[.int .i64 kind, .int .i64 cl, .slice od dl cd] 32)).alloc (.cells #[.int .i64 0, .int .i64 lsn, dv] 34)) = w2 at *
        have q0 := HQ.out.1
        have q1 := HQ.out.2
        have e4 : ({ w2 with drawn := w2.drawn + 1 } : World).cell? ⟨g, 4, none⟩ = some (.int .i64 s.limit) := c4
        have e0 : ({ w2 with drawn := w2.drawn + 1 } : World).cell? ⟨w.heap.size, 0, none⟩ = some (.int .i64 kind) := q0
        have e1 : ({ w2 with drawn := w2.drawn + 1 } : World).cell? ⟨w.heap.size + 1, 1, none⟩ = some (.int .i64 lsn) := q1
        go_still_tail 13, (by kernel_rfl)
        change wpList _ _ _ _ _ (World.drew w2)
        go_wp2_with (go_at_call 21; go_must (first | (refine (may_true _).mono ?_; rintro e w' ⟨rfl, rfl⟩) | (refine (may_false _).mono ?_; rintro e w' ⟨rfl, rfl⟩) | (refine (may_dec (by omega) _).mono ?_; rintro e w' ⟨rfl, rfl⟩)))
        exact bodyPost_panic rfl ⟨rfl, HK.out.2.1.drew⟩
  · rw [if_neg h0]
    have b0 : (err == 0) = false := by simpa using h0
    by_cases h4 : err = 40
    · rw [if_pos h4]
      subst h4
      by_cases hl : lsn = 0
      · rw [if_pos hl]
        subst hl
        go_enter Try.func37, Try.ntmps37
        go_wp2_with fail
        go_end0
        have kk := ((Keep.setCell (bs := (· = g)) (Keep.refl _ w) (p := ⟨g, 6, none⟩) (Or.inl rfl) (.bool true)).alloc (.cells #[.int .i64 kind, .int .i64 cl, .slice od dl cd] 32)).alloc (.cells #[.int .i64 40, .int .i64 0, dv] 34)
        exact ⟨rfl, ⟨rv, xs, blk_alloc (blk_alloc (blk_set HK.out.2.2.2.1 6 _) _) _, HK.out.2.2.2.2.1.keep kk⟩, kk.mono (fun _ _ h => Or.inl h)⟩
      · rw [if_neg hl]
        have b1 : (lsn == 0) = false := by simpa using hl
        have HA0 := Lib.hid (HA.out 0)
        rcases hq : addS s lsn dl with _ | s'
        · rw [hq] at HA0
          clear hq HA
          go_enter Try.func37, Try.ntmps37
          go_wp2_with fail
          refine HA0.out.mono ?_
          rintro e w' ⟨rfl, hk⟩
          exact bodyPost_panic rfl ⟨rfl, HK.out.2.1.trans hk⟩
        · rw [hq] at HA0
          clear hq HA
          simp only
          have hm1 : s'.limit ≤ lsn ∨ lsn < s'.limit := by omega
          have HM := Lib.hid hm1
          clear hm1
          by_cases hm : s'.durable ≤ min s'.limit lsn
          · rw [if_pos hm]
            have hm2 : s'.durable ≤ s'.limit ∧ s'.durable ≤ lsn := by omega
            obtain ⟨hm2, hm3⟩ := hm2
            clear hm
            go_enter Try.func37, Try.ntmps37
            go_wp2_with fail
            refine HA0.out.mono ?_
            rintro e w3 ⟨rfl, ⟨rv', xs', hat, hrec⟩, hk⟩
            have q1 := HQ.out.2
            replace q1 := (hk.cell (p := ⟨w.heap.size + 1, 1, none⟩) (Nat.lt_of_lt_of_eq (Nat.lt_succ_self (w.heap.size + 1)) HZ.out.2.symm) (by
              intro hb
              rcases hb with hb | hb
              · have := HZ.out.1; simp only at hb; omega
              · have := HK.out.2.2.2.2.2 _ hb; simp only at this; omega)).trans q1
            have p2 := blk_cell hat 2
            have p4 := blk_cell hat 4
            have l4 := blk_free hat 4
            simp [cs] at p2 p4
            have H3 := Lib.hid (And.intro hat (And.intro hrec (HK.out.2.1.trans hk)))
            clear hat hrec hk
            rcases HM.out with hlim | hlim
            · go_wp2_with fail
              go_region
              have hat4 : At (w3.setCell ⟨g, 4, none⟩ (.int .i64 s'.limit)).drew g { s' with limit := s'.limit } rv' := blk_set H3.out.1 4 _
              have rec4 : Recs (w3.setCell ⟨g, 4, none⟩ (.int .i64 s'.limit)).drew base g rv' (bs ++ [D]) xs' := H3.out.2.1.keep (Keep.setCell (bs := (· = g)) (Keep.refl _ w3) (p := ⟨g, 4, none⟩) (Or.inl rfl) _).drew
              have kee4 : Keep (fun b => b = g ∨ rv.ownBlock = some b) w (w3.setCell ⟨g, 4, none⟩ (.int .i64 s'.limit)).drew := (Keep.setCell (bs := fun b => b = g ∨ rv.ownBlock = some b) H3.out.2.2 (p := ⟨g, 4, none⟩) (Or.inl (Or.inl rfl)) _).drew
              clear p2 p4 l4 q1
              generalize (w3.setCell ⟨g, 4, none⟩ (.int .i64 s'.limit)).drew = w4 at *
              have p2 := blk_cell hat4 2
              have p4 := blk_cell hat4 4
              simp [cs] at p2 p4
              have hmin : min s'.limit lsn = s'.limit := by omega
              have H4 := Lib.hid (And.intro hat4 (And.intro rec4 (And.intro kee4 hmin)))
              clear hat4 rec4 kee4 hmin
              go_wp2_with fail
              go_quiet ((go_at_call 21; exact Calls.quiet_of_same ((may_true _).mono fun _ _ ⟨he, hw⟩ => ⟨he, hw.symm⟩)))
              go_end0
              refine ⟨rfl, ⟨rv', xs', ?_, ?_⟩, H4.out.2.2.1.drewN _⟩
              · show At w4 g { s' with limit := min s'.limit lsn } rv'
                rw [H4.out.2.2.2]; exact H4.out.1
              · exact ⟨H4.out.2.1.row, H4.out.2.1.apart, H4.out.2.1.each, H4.out.2.1.small⟩
            · go_wp2_with fail
              go_region
              have hat4 : At (w3.setCell ⟨g, 4, none⟩ (.int .i64 lsn)).drew g { s' with limit := lsn } rv' := blk_set H3.out.1 4 _
              have rec4 : Recs (w3.setCell ⟨g, 4, none⟩ (.int .i64 lsn)).drew base g rv' (bs ++ [D]) xs' := H3.out.2.1.keep (Keep.setCell (bs := (· = g)) (Keep.refl _ w3) (p := ⟨g, 4, none⟩) (Or.inl rfl) _).drew
              have kee4 : Keep (fun b => b = g ∨ rv.ownBlock = some b) w (w3.setCell ⟨g, 4, none⟩ (.int .i64 lsn)).drew := (Keep.setCell (bs := fun b => b = g ∨ rv.ownBlock = some b) H3.out.2.2 (p := ⟨g, 4, none⟩) (Or.inl (Or.inl rfl)) _).drew
              clear p2 p4 l4 q1
              generalize (w3.setCell ⟨g, 4, none⟩ (.int .i64 lsn)).drew = w4 at *
              have p2 := blk_cell hat4 2
              have p4 := blk_cell hat4 4
              simp [cs] at p2 p4
              have hmin : min s'.limit lsn = lsn := by omega
              have H4 := Lib.hid (And.intro hat4 (And.intro rec4 (And.intro kee4 hmin)))
              clear hat4 rec4 kee4 hmin
              go_wp2_with fail
              go_quiet ((go_at_call 21; exact Calls.quiet_of_same ((may_true _).mono fun _ _ ⟨he, hw⟩ => ⟨he, hw.symm⟩)))
              go_end0
              refine ⟨rfl, ⟨rv', xs', ?_, ?_⟩, H4.out.2.2.1.drewN _⟩
              · show At w4 g { s' with limit := min s'.limit lsn } rv'
                rw [H4.out.2.2.2]; exact H4.out.1
              · exact ⟨H4.out.2.1.row, H4.out.2.1.apart, H4.out.2.1.each, H4.out.2.1.small⟩
          · rw [if_neg hm]
            have hm2 : ¬ (s'.durable ≤ s'.limit ∧ s'.durable ≤ lsn) := by omega
            have HM2 := Lib.hid hm2
            clear hm hm2
            go_enter Try.func37, Try.ntmps37
            go_wp2_with fail
            refine HA0.out.mono ?_
            rintro e w3 ⟨rfl, ⟨rv', xs', hat, hrec⟩, hk⟩
            have q1 := HQ.out.2
            replace q1 := (hk.cell (p := ⟨w.heap.size + 1, 1, none⟩) (Nat.lt_of_lt_of_eq (Nat.lt_succ_self (w.heap.size + 1)) HZ.out.2.symm) (by
              intro hb
              rcases hb with hb | hb
              · have := HZ.out.1; simp only at hb; omega
              · have := HK.out.2.2.2.2.2 _ hb; simp only at this; omega)).trans q1
            have p2 := blk_cell hat 2
            have p4 := blk_cell hat 4
            have l4 := blk_free hat 4
            simp [cs] at p2 p4
            have H3 := Lib.hid (And.intro hat (And.intro hrec (HK.out.2.1.trans hk)))
            clear hat hrec hk
            rcases HM.out with hlim | hlim
            · go_wp2_with fail
              go_region
              have hat4 : At (w3.setCell ⟨g, 4, none⟩ (.int .i64 s'.limit)).drew g { s' with limit := s'.limit } rv' := blk_set H3.out.1 4 _
              have rec4 : Recs (w3.setCell ⟨g, 4, none⟩ (.int .i64 s'.limit)).drew base g rv' (bs ++ [D]) xs' := H3.out.2.1.keep (Keep.setCell (bs := (· = g)) (Keep.refl _ w3) (p := ⟨g, 4, none⟩) (Or.inl rfl) _).drew
              have kee4 : Keep (fun b => b = g ∨ rv.ownBlock = some b) w (w3.setCell ⟨g, 4, none⟩ (.int .i64 s'.limit)).drew := (Keep.setCell (bs := fun b => b = g ∨ rv.ownBlock = some b) H3.out.2.2 (p := ⟨g, 4, none⟩) (Or.inl (Or.inl rfl)) _).drew
              clear p2 p4 l4 q1
              generalize (w3.setCell ⟨g, 4, none⟩ (.int .i64 s'.limit)).drew = w4 at *
              have p2 := blk_cell hat4 2
              have p4 := blk_cell hat4 4
              simp [cs] at p2 p4
              have hmin : min s'.limit lsn = s'.limit := by omega
              have H4 := Lib.hid (And.intro hat4 (And.intro rec4 (And.intro kee4 hmin)))
              clear hat4 rec4 kee4 hmin
              go_wp2_with fail
              have hng : ¬ s'.durable ≤ s'.limit := by have := HM2.out; omega
              have e2 : ({ w4 with drawn := w4.drawn + 1 } : World).cell? ⟨g, 2, none⟩ = some (.int .i64 s'.durable) := p2
              have e4 : ({ w4 with drawn := w4.drawn + 1 } : World).cell? ⟨g, 4, none⟩ = some (.int .i64 s'.limit) := p4
              go_still_tail 11, (by kernel_rfl)
              change wpList _ _ _ _ _ (World.drew w4)
              go_wp2_with (go_at_call 21; go_must (first | (refine (may_true _).mono ?_; rintro e w' ⟨rfl, rfl⟩) | (refine (may_false _).mono ?_; rintro e w' ⟨rfl, rfl⟩) | (refine (may_dec (by omega) _).mono ?_; rintro e w' ⟨rfl, rfl⟩)))
              exact bodyPost_panic rfl ⟨rfl, H4.out.2.2.1.drew⟩
            · go_wp2_with fail
              go_region
              have hat4 : At (w3.setCell ⟨g, 4, none⟩ (.int .i64 lsn)).drew g { s' with limit := lsn } rv' := blk_set H3.out.1 4 _
              have rec4 : Recs (w3.setCell ⟨g, 4, none⟩ (.int .i64 lsn)).drew base g rv' (bs ++ [D]) xs' := H3.out.2.1.keep (Keep.setCell (bs := (· = g)) (Keep.refl _ w3) (p := ⟨g, 4, none⟩) (Or.inl rfl) _).drew
              have kee4 : Keep (fun b => b = g ∨ rv.ownBlock = some b) w (w3.setCell ⟨g, 4, none⟩ (.int .i64 lsn)).drew := (Keep.setCell (bs := fun b => b = g ∨ rv.ownBlock = some b) H3.out.2.2 (p := ⟨g, 4, none⟩) (Or.inl (Or.inl rfl)) _).drew
              clear p2 p4 l4 q1
              generalize (w3.setCell ⟨g, 4, none⟩ (.int .i64 lsn)).drew = w4 at *
              have p2 := blk_cell hat4 2
              have p4 := blk_cell hat4 4
              simp [cs] at p2 p4
              have hmin : min s'.limit lsn = lsn := by omega
              have H4 := Lib.hid (And.intro hat4 (And.intro rec4 (And.intro kee4 hmin)))
              clear hat4 rec4 kee4 hmin
              go_wp2_with fail
              have hng : ¬ s'.durable ≤ lsn := by have := HM2.out; omega
              have e2 : ({ w4 with drawn := w4.drawn + 1 } : World).cell? ⟨g, 2, none⟩ = some (.int .i64 s'.durable) := p2
              have e4 : ({ w4 with drawn := w4.drawn + 1 } : World).cell? ⟨g, 4, none⟩ = some (.int .i64 lsn) := p4
              go_still_tail 11, (by kernel_rfl)
              change wpList _ _ _ _ _ (World.drew w4)
              go_wp2_with (go_at_call 21; go_must (first | (refine (may_true _).mono ?_; rintro e w' ⟨rfl, rfl⟩) | (refine (may_false _).mono ?_; rintro e w' ⟨rfl, rfl⟩) | (refine (may_dec (by omega) _).mono ?_; rintro e w' ⟨rfl, rfl⟩)))
              exact bodyPost_panic rfl ⟨rfl, H4.out.2.2.1.drew⟩
    · rw [if_neg h4]
      have b4 : (err == 40) = false := by simpa using h4
      by_cases h9 : err = 3 ∨ err = 44 ∨ err = 9
      · rw [if_pos h9]
        have hx : ∀ E : Int, E = 3 ∨ E = 44 ∨ E = 9 → (E = 0) = False ∧ (E = 40) = False := by
          intro E h
          constructor <;> (rw [eq_iff_iff]; constructor; (intro h'; omega); (intro h'; exact h'.elim))
        by_cases hs : (!s.failed && !s.closed) = true
        · rw [if_pos hs] at HN
          rw [if_pos hs]
          clear hs
          by_cases hl : lsn = 0
          · subst hl
            rcases h9 with rfl | rfl | rfl
            · rw [if_pos ⟨rfl, Or.inl (by omega)⟩]
              go_enter Try.func37, Try.ntmps37
              go_wp2_with (first | (go_at_call 34; go_must (refine HN.out.mono ?_; rintro e w' ⟨rfl, rfl⟩)) | (go_at_call 21; go_must (first | (refine (may_true _).mono ?_; rintro e w' ⟨rfl, rfl⟩) | (refine (may_false _).mono ?_; rintro e w' ⟨rfl, rfl⟩) | (refine (may_dec (by omega) _).mono ?_; rintro e w' ⟨rfl, rfl⟩))))
              go_end0
              exact ⟨rfl, ⟨rv, xs, HK.out.1, HK.out.2.2.1⟩, HK.out.2.1⟩
            · by_cases hm : s.next = 9223372036854775807
              · rw [if_pos ⟨rfl, Or.inr hm⟩]
                have bm : (s.next == 9223372036854775807) = true := by simpa using hm
                have HM := Lib.hid hm
                clear hm
                go_enter Try.func37, Try.ntmps37
                go_wp2_with (first | (go_at_call 34; go_must (refine HN.out.mono ?_; rintro e w' ⟨rfl, rfl⟩)) | (go_at_call 21; go_must (first | (refine (may_true _).mono ?_; rintro e w' ⟨rfl, rfl⟩) | (refine (may_false _).mono ?_; rintro e w' ⟨rfl, rfl⟩) | (refine (may_dec (by omega) _).mono ?_; rintro e w' ⟨rfl, rfl⟩))))
                go_end0
                exact ⟨rfl, ⟨rv, xs, HK.out.1, HK.out.2.2.1⟩, HK.out.2.1⟩
              · rw [if_neg (fun h => h.2.elim (fun h => h rfl) hm)]
                have bm : (s.next == 9223372036854775807) = false := by simpa using hm
                clear hm
                go_enter Try.func37, Try.ntmps37
                go_wp2_with (first | (go_at_call 34; go_must (refine HN.out.mono ?_; rintro e w' ⟨rfl, rfl⟩)) | (go_at_call 21; go_must (first | (refine (may_true _).mono ?_; rintro e w' ⟨rfl, rfl⟩) | (refine (may_false _).mono ?_; rintro e w' ⟨rfl, rfl⟩) | (refine (may_dec (by omega) _).mono ?_; rintro e w' ⟨rfl, rfl⟩))))
                exact bodyPost_panic rfl ⟨rfl, HK.out.2.1⟩
            · rw [if_pos ⟨rfl, Or.inl (by omega)⟩]
              go_enter Try.func37, Try.ntmps37
              go_wp2_with (first | (go_at_call 34; go_must (refine HN.out.mono ?_; rintro e w' ⟨rfl, rfl⟩)) | (go_at_call 21; go_must (first | (refine (may_true _).mono ?_; rintro e w' ⟨rfl, rfl⟩) | (refine (may_false _).mono ?_; rintro e w' ⟨rfl, rfl⟩) | (refine (may_dec (by omega) _).mono ?_; rintro e w' ⟨rfl, rfl⟩))))
              go_end0
              exact ⟨rfl, ⟨rv, xs, HK.out.1, HK.out.2.2.1⟩, HK.out.2.1⟩
          · rw [if_neg (fun h => hl h.1)]
            have b1 : (lsn == 0) = false := by simpa using hl
            rcases h9 with rfl | rfl | rfl <;> (
              go_enter Try.func37, Try.ntmps37
              go_wp2_with (first | (go_at_call 34; go_must (refine HN.out.mono ?_; rintro e w' ⟨rfl, rfl⟩)) | (go_at_call 21; go_must (first | (refine (may_true _).mono ?_; rintro e w' ⟨rfl, rfl⟩) | (refine (may_false _).mono ?_; rintro e w' ⟨rfl, rfl⟩) | (refine (may_dec (by omega) _).mono ?_; rintro e w' ⟨rfl, rfl⟩))))
              exact bodyPost_panic rfl ⟨rfl, HK.out.2.1⟩)
        · rw [if_neg hs] at HN
          rw [if_neg hs]
          clear hs
          rcases h9 with rfl | rfl | rfl <;> (
            go_enter Try.func37, Try.ntmps37
            go_wp2_with (first | (go_at_call 34; go_must (refine HN.out.mono ?_; rintro e w' ⟨rfl, rfl⟩)) | (go_at_call 21; go_must (first | (refine (may_true _).mono ?_; rintro e w' ⟨rfl, rfl⟩) | (refine (may_false _).mono ?_; rintro e w' ⟨rfl, rfl⟩) | (refine (may_dec (by omega) _).mono ?_; rintro e w' ⟨rfl, rfl⟩))))
            exact bodyPost_panic rfl ⟨rfl, HK.out.2.1⟩)
      · rw [if_neg h9]
        have b3 : (err == 3) = false := by rw [beq_eq_false_iff_ne]; intro h; exact h9 (Or.inl h)
        have b44 : (err == 44) = false := by rw [beq_eq_false_iff_ne]; intro h; exact h9 (Or.inr (Or.inl h))
        have b9 : (err == 9) = false := by rw [beq_eq_false_iff_ne]; intro h; exact h9 (Or.inr (Or.inr h))
        clear h9
        go_enter Try.func37, Try.ntmps37
        go_wp2_with (go_at_call 21; go_must (first | (refine (may_true _).mono ?_; rintro e w' ⟨rfl, rfl⟩) | (refine (may_false _).mono ?_; rintro e w' ⟨rfl, rfl⟩) | (refine (may_dec (by omega) _).mono ?_; rintro e w' ⟨rfl, rfl⟩)))
        exact bodyPost_panic rfl ⟨rfl, HK.out.2.1⟩
end Md
end Go.Proofs.Ytjiehgfamlidnaa
