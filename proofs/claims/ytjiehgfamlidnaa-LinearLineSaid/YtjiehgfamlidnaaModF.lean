/- The model package: a record; a Read's answer. By an AI agent. -/
import Derived.Test.YtjiehgfamlidnaaModE
namespace Go.Proofs.Ytjiehgfamlidnaa
open Go.ChangeShapes Go.WideShapes Go.ChangeAt Go.RowKit
set_option linter.unusedVariables false
namespace Md

theorem still_of_quiet {P : Program} {ops : Array Oper} {w : World} {C : World → Prop} (hC : C w) (hone : ∀ w', C w' → w' = w) {Q : Act → Prop} : ∀ (l : List Oper) (a : Act), wpQuiet P ops C Q l a → wpStill P ops w Q l a := by
  intro l
  induction l with
  | nil => exact fun a h => h
  | cons o rest ih =>
    intro a h
    unfold wpQuiet at h
    unfold wpStill
    split
    · rename_i hw
      rw [if_pos hw] at h
      obtain ⟨v, hv, hn⟩ := h
      have h1 := hv w hC
      unfold Oper.quietAt at h1
      unfold Oper.still
      generalize (execOp a.eval o).run P w = r at *
      cases r with
      | ok n w' =>
        cases n <;> simp only [Oper.quietUpon] at h1 <;> simp only [Oper.stillUpon]
        case value u =>
          obtain ⟨e1, rfl⟩ := h1
          exact ⟨e1, ih _ hn⟩
        case skip =>
          obtain ⟨e1, rfl⟩ := h1
          exact ⟨e1, ih _ hn⟩
        case enter f args =>
          obtain ⟨e1, h2⟩ := h1
          exact ⟨e1, v, h2.mono fun e w'' ⟨he, hc⟩ => ⟨he, hone _ hc⟩, ih _ hn⟩
      | halt x w' => simp only [Oper.quietUpon] at h1
    · rename_i hw
      rw [if_neg hw] at h
      exact ih _ h

set_option maxRecDepth 100000 in
set_option maxHeartbeats 4000000 in
theorem record_any (base g : Nat) (s : S) (rv : Value) (bs : List (List Nat)) (xs : List Value) (n : Nat) (o : Option Addr) (c : Nat) (w : World) (h : At w g s rv) (hr : Recs w base g rv bs xs)
    (hn : n < bs.length) (hx : xs[n]? = some (.slice o (bs.getD n []).length c)) (hb : 0 ≤ s.base) (hl : s.base + n < 9223372036854775808) :
    Calls Try.prog 43 #[.pointer (some ⟨g, 0, none⟩), .int .i64 (s.base + n)] w fun e w' => e = .returned (.slice o (bs.getD n []).length c) ∧ w = w' := by
  obtain ⟨b, cap, rfl, hb1, hb2⟩ := World.ownsRow.form hr.row (by omega)
  have c0 := blk_cell h 0
  have c5 := blk_cell h 5
  simp [cs] at c0 c5
  have hc := hr.row.cellAt n (by omega)
  rw [hx] at hc
  clear h hr hx
  generalize (bs.getD n []).length = l at *
  generalize bs.length = m at *
  have e1 : s.base + (n : Int) - s.base = (n : Int) := by omega
  go_enter Try.func43, Try.ntmps43
  go_wp2_with (go_at_call 21; go_must (refine (may_true _).mono ?_; rintro e w' ⟨rfl, rfl⟩))
  go_ret
  exact ⟨rfl, rfl⟩

/-- A Read's answer, or a Next's. -/
def readS (s : S) (bs : List (List Nat)) (kind cl err lsn : Int) (R : List Nat) : Option S :=
  if err = 0 then
    if lsn = cl ∧ s.first ≤ cl ∧ cl < s.next ∧ R = bs.getD (cl - s.base).toNat [] then raiseS s (cl + 1) else none
  else if lsn = 0 then
    if err = 43 then if cl < s.first then some s else none
    else if err = 22 then if s.first ≤ cl ∧ cl < s.next then some s else none
    else if err = 42 ∧ kind = 4 then if s.durable ≤ cl ∧ s.first ≤ cl then some s else none
    else if err = 40 ∧ kind = 5 then if s.durable ≤ cl then some { s with failed := true } else none
    else none
  else none

/-- What holds of a state between calls. -/
structure Inv (s : S) (n : Nat) : Prop where
  base : 0 ≤ s.base
  first : s.base ≤ s.first
  dur : s.first ≤ s.durable
  next : s.durable ≤ s.next
  limit : s.durable ≤ s.limit
  recs : s.next = s.base + n
  top : s.next ≤ 9223372036854775807
  ltop : s.limit ≤ 9223372036854775807

set_option maxRecDepth 100000 in
set_option maxHeartbeats 8000000 in
theorem read_ok (base g : Nat) (s : S) (rv : Value) (bs : List (List Nat)) (xs : List Value) (kind cl err lsn : Int) (cd : Value) (ord : Option Addr) (crd : Nat) (R : List Nat) (w : World) (h : At w g s rv) (hr : Recs w base g rv bs xs)
    (hI : Inv s bs.length) (hR : Bys w ord R) (hv : ∀ i, R.getD i 0 < 256) (he0 : err = 0) :
    Calls Try.prog 36 #[.pointer (some ⟨g, 0, none⟩), .agg #[.int .i64 kind, .int .i64 cl, cd], .agg #[.int .i64 err, .int .i64 lsn, .slice ord R.length crd]] w (Res g rv (readS s bs kind cl err lsn R) w) := by
  have k2 := (((Keep.refl (fun _ => False) w).alloc (.cells #[.int .i64 kind, .int .i64 cl, cd] 32)).alloc (.cells #[.int .i64 err, .int .i64 lsn, .slice ord R.length crd] 34))
  have h2 : At ((w.alloc (.cells #[.int .i64 kind, .int .i64 cl, cd] 32)).alloc (.cells #[.int .i64 err, .int .i64 lsn, .slice ord R.length crd] 34)) g s rv := blk_alloc (blk_alloc h _) _
  have b2 : Keep (· = g) w ((w.alloc (.cells #[.int .i64 kind, .int .i64 cl, cd] 32)).alloc (.cells #[.int .i64 err, .int .i64 lsn, .slice ord R.length crd] 34)) := k2.mono (fun _ _ h => h.elim)
  have r2 : Recs ((w.alloc (.cells #[.int .i64 kind, .int .i64 cl, cd] 32)).alloc (.cells #[.int .i64 err, .int .i64 lsn, .slice ord R.length crd] 34)) base g rv bs xs := hr.keep (k2.mono (fun _ _ h => h.elim))
  have d2 : Bys ((w.alloc (.cells #[.int .i64 kind, .int .i64 cl, cd] 32)).alloc (.cells #[.int .i64 err, .int .i64 lsn, .slice ord R.length crd] 34)) ord R := bys_keep hR k2.none
  have HA := Lib.hid fun q => raise_any g s rv (cl + 1) (((w.alloc (.cells #[.int .i64 kind, .int .i64 cl, cd] 32)).alloc (.cells #[.int .i64 err, .int .i64 lsn, .slice ord R.length crd] 34)).drewN q) h2
  have HK := Lib.hid (And.intro h2 (And.intro b2 (And.intro r2 (And.intro d2 (And.intro hv h)))))
  have q0 : ((w.alloc (.cells #[.int .i64 kind, .int .i64 cl, cd] 32)).alloc (.cells #[.int .i64 err, .int .i64 lsn, .slice ord R.length crd] 34)).cell? ⟨w.heap.size, 0, none⟩ = some (.int .i64 kind) := past (b := w.heap.size) (i := 0) (by simp) (blk_cell (blk_new w (.cells #[.int .i64 kind, .int .i64 cl, cd] 32)) 0) (.cells #[.int .i64 err, .int .i64 lsn, .slice ord R.length crd] 34)
  have q1 : ((w.alloc (.cells #[.int .i64 kind, .int .i64 cl, cd] 32)).alloc (.cells #[.int .i64 err, .int .i64 lsn, .slice ord R.length crd] 34)).cell? ⟨w.heap.size + 1, 1, none⟩ = some (.int .i64 lsn) := blk_cell (blk_new_at (w.alloc (.cells #[.int .i64 kind, .int .i64 cl, cd] 32)) (.cells #[.int .i64 err, .int .i64 lsn, .slice ord R.length crd] 34) (n := w.heap.size + 1) (by simp)) 1
  have q2 : ((w.alloc (.cells #[.int .i64 kind, .int .i64 cl, cd] 32)).alloc (.cells #[.int .i64 err, .int .i64 lsn, .slice ord R.length crd] 34)).cell? ⟨w.heap.size + 1, 2, none⟩ = some (.slice ord R.length crd) := blk_cell (blk_new_at (w.alloc (.cells #[.int .i64 kind, .int .i64 cl, cd] 32)) (.cells #[.int .i64 err, .int .i64 lsn, .slice ord R.length crd] 34) (n := w.heap.size + 1) (by simp)) 2
  have HQ := Lib.hid (And.intro q0 (And.intro q1 q2))
  have c0 := blk_cell h2 0
  have c1 := blk_cell h2 1
  have c2 := blk_cell h2 2
  have c3 := blk_cell h2 3
  have c6 := blk_cell h2 6
  have f6 := blk_free h2 6
  simp [cs] at c0 c1 c2 c3 c6
  have HI := Lib.hid hI
  clear k2 h2 b2 r2 d2 h hr hR hv q0 q1 q2 hI
  unfold readS
  by_cases he : err = 0
  · rw [if_pos he]
    subst he
    by_cases hl : lsn = cl
    · subst hl
      by_cases hf : s.first ≤ lsn
      · by_cases hn : lsn < s.next
        · have hI := HI.out
          have hk : ∃ n : Nat, n < bs.length ∧ lsn = s.base + n := ⟨(lsn - s.base).toNat, by have := hI.recs; have := hI.first; omega, by have := hI.first; omega⟩
          obtain ⟨n, hnn, hln⟩ := hk
          have hto : (lsn - s.base).toNat = n := by omega
          obtain ⟨o, c, hx, hby, hc0, hap⟩ := HK.out.2.2.1.each n hnn
          have HR0 := Lib.hid fun q => record_any base g s rv bs xs n o c (((w.alloc (.cells #[.int .i64 kind, .int .i64 lsn, cd] 32)).alloc (.cells #[.int .i64 0, .int .i64 lsn, .slice ord R.length crd] 34)).drewN q) HK.out.1 ⟨HK.out.2.2.1.row, HK.out.2.2.1.apart, HK.out.2.2.1.each, HK.out.2.2.1.small⟩ hnn hx hI.base (by have := hI.top; omega)
          have HE0 := Lib.hid fun q => equal_any ord o crd c R (bs.getD n []) (((w.alloc (.cells #[.int .i64 kind, .int .i64 lsn, cd] 32)).alloc (.cells #[.int .i64 0, .int .i64 lsn, .slice ord R.length crd] 34)).drewN q) HK.out.2.2.2.1 hby HK.out.2.2.2.2.1 (HK.out.2.2.1.small n)
          have htop := hI.top
          have hb1 := hI.base
          rw [hto]
          generalize hbn : bs.getD n [] = B at *
          rw [← hln] at HR0
          have hl1 : 0 ≤ lsn := by have := hI.first; omega
          have hl2 : lsn < 9223372036854775807 := by omega
          clear hx hby hc0 hap hI hnn hbn hto hln
          by_cases hE : R = B
          · rw [if_pos ⟨rfl, hf, hn, hE⟩]
            rw [decide_eq_true hE] at HE0
            have HEB := Lib.hid hE
            clear hE
            generalize hrl : R.length = rl at *
            generalize hbl : B.length = bl at *
            rcases hq : raiseS s (lsn + 1) with _ | s'
            · rw [hq] at HA
              clear hq hrl hbl
              go_enter Try.func36, Try.ntmps36
              go_wp2_with fail
              go_quiet ((first
                | (go_at_call 43; exact Calls.quiet_of_same ((HR0.out _).mono fun _ _ ⟨he, hw⟩ => ⟨he, hw.symm⟩))
                | (go_at_call 25; exact Calls.quiet_of_same ((HE0.out _).mono fun _ _ ⟨he, hw⟩ => ⟨he, hw.symm⟩))
                | (go_at_call 21; exact Calls.quiet_of_same ((may_true _).mono fun _ _ ⟨he, hw⟩ => ⟨he, hw.symm⟩))))
              go_wp2_with fail
              refine (HA.out _).mono ?_
              rintro e w' ⟨rfl, hk⟩
              exact bodyPost_panic rfl ⟨rfl, (HK.out.2.1.drewN _).trans hk⟩
            · rw [hq] at HA
              clear hq hrl hbl
              go_enter Try.func36, Try.ntmps36
              go_wp2_with fail
              go_quiet ((first
                | (go_at_call 43; exact Calls.quiet_of_same ((HR0.out _).mono fun _ _ ⟨he, hw⟩ => ⟨he, hw.symm⟩))
                | (go_at_call 25; exact Calls.quiet_of_same ((HE0.out _).mono fun _ _ ⟨he, hw⟩ => ⟨he, hw.symm⟩))
                | (go_at_call 21; exact Calls.quiet_of_same ((may_true _).mono fun _ _ ⟨he, hw⟩ => ⟨he, hw.symm⟩))))
              go_wp2_with fail
              refine (HA.out _).mono ?_
              rintro e w' ⟨rfl, hat, hk⟩
              have HX := Lib.hid (And.intro hat hk)
              clear hat hk
              go_wp2_with fail
              go_end0
              exact ⟨rfl, HX.out.1, (HK.out.2.1.drewN _).trans HX.out.2⟩
          · rw [if_neg (fun h => hE h.2.2.2)]
            rw [decide_eq_false hE] at HE0
            clear hE
            generalize hrl : R.length = rl at *
            generalize hbl : B.length = bl at *
            clear hrl hbl
            go_enter Try.func36, Try.ntmps36
            go_wp2_with fail
            generalize ((w.alloc (.cells #[.int .i64 kind, .int .i64 lsn, cd] 32)).alloc (.cells #[.int .i64 0, .int .i64 lsn, .slice ord rl crd] 34)) = w2 at *
            have e0 : ({ w2 with drawn := w2.drawn + 1 } : World).cell? ⟨g, 0, none⟩ = some (.int .i64 s.base) := c0
            have e1 : ({ w2 with drawn := w2.drawn + 1 } : World).cell? ⟨g, 1, none⟩ = some (.int .i64 s.first) := c1
            have e3 : ({ w2 with drawn := w2.drawn + 1 } : World).cell? ⟨g, 3, none⟩ = some (.int .i64 s.next) := c3
            have q1 := HQ.out.2.1
            have q2 := HQ.out.2.2
            have e6 : ({ w2 with drawn := w2.drawn + 1 } : World).cell? ⟨w.heap.size + 1, 1, none⟩ = some (.int .i64 lsn) := q1
            have e7 : ({ w2 with drawn := w2.drawn + 1 } : World).cell? ⟨w.heap.size + 1, 2, none⟩ = some (.slice ord rl crd) := q2
            have HR1 := HR0.out 1
            have HE1 := HE0.out 1
            have HRE := Lib.hid (And.intro HR1 HE1)
            clear HR0 HE0 HR1 HE1
            refine wp_region_still_tail 30 (by kernel_rfl) (by kernel_rfl) ?_
            simp only [List.take_succ_cons, List.take_zero, List.drop_succ_cons, List.drop_zero]
            repeat still_step
            refine wpStill_step (fun K hK => ?_)
            go_simp
            refine ⟨_, HRE.out.1.mono fun _ _ ⟨he, hw⟩ => ⟨he, hw.symm⟩, hK _ ?_⟩
            clear hK K
            refine wpStill_step (fun K hK => ?_)
            go_simp
            refine ⟨_, HRE.out.2.mono fun _ _ ⟨he, hw⟩ => ⟨he, hw.symm⟩, hK _ ?_⟩
            clear hK K
            repeat still_step
            refine wpStill_nil ?_
            change wpList _ _ _ _ _ (World.drew w2)
            go_wp2_with (go_at_call 21; go_must (first | (refine (may_false _).mono ?_; rintro e w' ⟨rfl, rfl⟩) | (refine (may_dec (by omega) _).mono ?_; rintro e w' ⟨rfl, rfl⟩)))
            exact bodyPost_panic rfl ⟨rfl, HK.out.2.1.drew⟩
        · rw [if_neg (fun h => hn h.2.2.1)]
          have dn : decide (lsn < s.next) = false := decide_eq_false hn
          clear hn
          generalize hrl : R.length = rl at *
          clear hrl HA
          go_enter Try.func36, Try.ntmps36
          go_wp2_with fail
          generalize ((w.alloc (.cells #[.int .i64 kind, .int .i64 lsn, cd] 32)).alloc (.cells #[.int .i64 0, .int .i64 lsn, .slice ord rl crd] 34)) = w2 at *
          have e0 : ({ w2 with drawn := w2.drawn + 1 } : World).cell? ⟨g, 0, none⟩ = some (.int .i64 s.base) := c0
          have e1 : ({ w2 with drawn := w2.drawn + 1 } : World).cell? ⟨g, 1, none⟩ = some (.int .i64 s.first) := c1
          have e3 : ({ w2 with drawn := w2.drawn + 1 } : World).cell? ⟨g, 3, none⟩ = some (.int .i64 s.next) := c3
          have q1 := HQ.out.2.1
          have q2 := HQ.out.2.2
          have e6 : ({ w2 with drawn := w2.drawn + 1 } : World).cell? ⟨w.heap.size + 1, 1, none⟩ = some (.int .i64 lsn) := q1
          have e7 : ({ w2 with drawn := w2.drawn + 1 } : World).cell? ⟨w.heap.size + 1, 2, none⟩ = some (.slice ord rl crd) := q2
          clear c6 f6
          refine wp_region_still_tail 30 (by kernel_rfl) (by kernel_rfl) ?_
          simp only [List.take_succ_cons, List.take_zero, List.drop_succ_cons, List.drop_zero]
          refine still_of_quiet (C := fun w' => w' = World.drew w2) rfl (fun _ h => h) _ _ ?_
          repeat (first | go_big_quiet_skip | (go_big_quiet_want; go_big_quiet_op; go_big_quiet_on))
          refine wpQuiet_nil ?_
          change wpList _ _ _ _ _ (World.drew w2)
          go_wp2_with (go_at_call 21; go_must (first | (refine (may_false _).mono ?_; rintro e w' ⟨rfl, rfl⟩) | (refine (may_dec (by omega) _).mono ?_; rintro e w' ⟨rfl, rfl⟩)))
          exact bodyPost_panic rfl ⟨rfl, HK.out.2.1.drew⟩
      · rw [if_neg (fun h => hf h.2.1)]
        have dn : decide (s.first ≤ lsn) = false := decide_eq_false hf
        clear hf
        generalize hrl : R.length = rl at *
        clear hrl HA
        go_enter Try.func36, Try.ntmps36
        go_wp2_with fail
        generalize ((w.alloc (.cells #[.int .i64 kind, .int .i64 lsn, cd] 32)).alloc (.cells #[.int .i64 0, .int .i64 lsn, .slice ord rl crd] 34)) = w2 at *
        have e0 : ({ w2 with drawn := w2.drawn + 1 } : World).cell? ⟨g, 0, none⟩ = some (.int .i64 s.base) := c0
        have e1 : ({ w2 with drawn := w2.drawn + 1 } : World).cell? ⟨g, 1, none⟩ = some (.int .i64 s.first) := c1
        have e3 : ({ w2 with drawn := w2.drawn + 1 } : World).cell? ⟨g, 3, none⟩ = some (.int .i64 s.next) := c3
        have q1 := HQ.out.2.1
        have q2 := HQ.out.2.2
        have e6 : ({ w2 with drawn := w2.drawn + 1 } : World).cell? ⟨w.heap.size + 1, 1, none⟩ = some (.int .i64 lsn) := q1
        have e7 : ({ w2 with drawn := w2.drawn + 1 } : World).cell? ⟨w.heap.size + 1, 2, none⟩ = some (.slice ord rl crd) := q2
        clear c6 f6
        refine wp_region_still_tail 30 (by kernel_rfl) (by kernel_rfl) ?_
        simp only [List.take_succ_cons, List.take_zero, List.drop_succ_cons, List.drop_zero]
        refine still_of_quiet (C := fun w' => w' = World.drew w2) rfl (fun _ h => h) _ _ ?_
        repeat (first | go_big_quiet_skip | (go_big_quiet_want; go_big_quiet_op; go_big_quiet_on))
        refine wpQuiet_nil ?_
        change wpList _ _ _ _ _ (World.drew w2)
        go_wp2_with (go_at_call 21; go_must (first | (refine (may_false _).mono ?_; rintro e w' ⟨rfl, rfl⟩) | (refine (may_dec (by omega) _).mono ?_; rintro e w' ⟨rfl, rfl⟩)))
        exact bodyPost_panic rfl ⟨rfl, HK.out.2.1.drew⟩
    · rw [if_neg (fun h => hl h.1)]
      have bl : (lsn == cl) = false := by simpa using hl
      generalize hrl : R.length = rl at *
      clear hrl HA
      go_enter Try.func36, Try.ntmps36
      go_wp2_with fail
      generalize ((w.alloc (.cells #[.int .i64 kind, .int .i64 cl, cd] 32)).alloc (.cells #[.int .i64 0, .int .i64 lsn, .slice ord rl crd] 34)) = w2 at *
      have e0 : ({ w2 with drawn := w2.drawn + 1 } : World).cell? ⟨g, 0, none⟩ = some (.int .i64 s.base) := c0
      have e1 : ({ w2 with drawn := w2.drawn + 1 } : World).cell? ⟨g, 1, none⟩ = some (.int .i64 s.first) := c1
      have e3 : ({ w2 with drawn := w2.drawn + 1 } : World).cell? ⟨g, 3, none⟩ = some (.int .i64 s.next) := c3
      have q1 := HQ.out.2.1
      have q2 := HQ.out.2.2
      have e6 : ({ w2 with drawn := w2.drawn + 1 } : World).cell? ⟨w.heap.size + 1, 1, none⟩ = some (.int .i64 lsn) := q1
      have e7 : ({ w2 with drawn := w2.drawn + 1 } : World).cell? ⟨w.heap.size + 1, 2, none⟩ = some (.slice ord rl crd) := q2
      clear c6 f6
      refine wp_region_still_tail 30 (by kernel_rfl) (by kernel_rfl) ?_
      simp only [List.take_succ_cons, List.take_zero, List.drop_succ_cons, List.drop_zero]
      refine still_of_quiet (C := fun w' => w' = World.drew w2) rfl (fun _ h => h) _ _ ?_
      repeat (first | go_big_quiet_skip | (go_big_quiet_want; go_big_quiet_op; go_big_quiet_on))
      refine wpQuiet_nil ?_
      change wpList _ _ _ _ _ (World.drew w2)
      go_wp2_with (go_at_call 21; go_must (first | (refine (may_false _).mono ?_; rintro e w' ⟨rfl, rfl⟩) | (refine (may_dec (by omega) _).mono ?_; rintro e w' ⟨rfl, rfl⟩)))
      exact bodyPost_panic rfl ⟨rfl, HK.out.2.1.drew⟩
  · exact absurd he0 he

set_option maxRecDepth 100000 in
set_option maxHeartbeats 8000000 in
theorem read_err (base g : Nat) (s : S) (rv : Value) (bs : List (List Nat)) (xs : List Value) (kind cl err lsn : Int) (cd : Value) (ord : Option Addr) (crd : Nat) (R : List Nat) (w : World) (h : At w g s rv) (hr : Recs w base g rv bs xs)
    (hI : Inv s bs.length) (hR : Bys w ord R) (hv : ∀ i, R.getD i 0 < 256) (he : ¬ err = 0) :
    Calls Try.prog 36 #[.pointer (some ⟨g, 0, none⟩), .agg #[.int .i64 kind, .int .i64 cl, cd], .agg #[.int .i64 err, .int .i64 lsn, .slice ord R.length crd]] w (Res g rv (readS s bs kind cl err lsn R) w) := by
  have k2 := (((Keep.refl (fun _ => False) w).alloc (.cells #[.int .i64 kind, .int .i64 cl, cd] 32)).alloc (.cells #[.int .i64 err, .int .i64 lsn, .slice ord R.length crd] 34))
  have h2 : At ((w.alloc (.cells #[.int .i64 kind, .int .i64 cl, cd] 32)).alloc (.cells #[.int .i64 err, .int .i64 lsn, .slice ord R.length crd] 34)) g s rv := blk_alloc (blk_alloc h _) _
  have b2 : Keep (· = g) w ((w.alloc (.cells #[.int .i64 kind, .int .i64 cl, cd] 32)).alloc (.cells #[.int .i64 err, .int .i64 lsn, .slice ord R.length crd] 34)) := k2.mono (fun _ _ h => h.elim)
  have r2 : Recs ((w.alloc (.cells #[.int .i64 kind, .int .i64 cl, cd] 32)).alloc (.cells #[.int .i64 err, .int .i64 lsn, .slice ord R.length crd] 34)) base g rv bs xs := hr.keep (k2.mono (fun _ _ h => h.elim))
  have d2 : Bys ((w.alloc (.cells #[.int .i64 kind, .int .i64 cl, cd] 32)).alloc (.cells #[.int .i64 err, .int .i64 lsn, .slice ord R.length crd] 34)) ord R := bys_keep hR k2.none
  have HA := Lib.hid fun q => raise_any g s rv (cl + 1) (((w.alloc (.cells #[.int .i64 kind, .int .i64 cl, cd] 32)).alloc (.cells #[.int .i64 err, .int .i64 lsn, .slice ord R.length crd] 34)).drewN q) h2
  have HK := Lib.hid (And.intro h2 (And.intro b2 (And.intro r2 (And.intro d2 (And.intro hv h)))))
  have q0 : ((w.alloc (.cells #[.int .i64 kind, .int .i64 cl, cd] 32)).alloc (.cells #[.int .i64 err, .int .i64 lsn, .slice ord R.length crd] 34)).cell? ⟨w.heap.size, 0, none⟩ = some (.int .i64 kind) := past (b := w.heap.size) (i := 0) (by simp) (blk_cell (blk_new w (.cells #[.int .i64 kind, .int .i64 cl, cd] 32)) 0) (.cells #[.int .i64 err, .int .i64 lsn, .slice ord R.length crd] 34)
  have q1 : ((w.alloc (.cells #[.int .i64 kind, .int .i64 cl, cd] 32)).alloc (.cells #[.int .i64 err, .int .i64 lsn, .slice ord R.length crd] 34)).cell? ⟨w.heap.size + 1, 1, none⟩ = some (.int .i64 lsn) := blk_cell (blk_new_at (w.alloc (.cells #[.int .i64 kind, .int .i64 cl, cd] 32)) (.cells #[.int .i64 err, .int .i64 lsn, .slice ord R.length crd] 34) (n := w.heap.size + 1) (by simp)) 1
  have q2 : ((w.alloc (.cells #[.int .i64 kind, .int .i64 cl, cd] 32)).alloc (.cells #[.int .i64 err, .int .i64 lsn, .slice ord R.length crd] 34)).cell? ⟨w.heap.size + 1, 2, none⟩ = some (.slice ord R.length crd) := blk_cell (blk_new_at (w.alloc (.cells #[.int .i64 kind, .int .i64 cl, cd] 32)) (.cells #[.int .i64 err, .int .i64 lsn, .slice ord R.length crd] 34) (n := w.heap.size + 1) (by simp)) 2
  have HQ := Lib.hid (And.intro q0 (And.intro q1 q2))
  have c0 := blk_cell h2 0
  have c1 := blk_cell h2 1
  have c2 := blk_cell h2 2
  have c3 := blk_cell h2 3
  have c6 := blk_cell h2 6
  have f6 := blk_free h2 6
  simp [cs] at c0 c1 c2 c3 c6
  have HI := Lib.hid hI
  clear k2 h2 b2 r2 d2 h hr hR hv q0 q1 q2 hI
  unfold readS
  rw [if_neg he]
  have b0 : (err == 0) = false := by simpa using he
  generalize hrl : R.length = rl at *
  clear hrl HA
  by_cases hl : lsn = 0
  · rw [if_pos hl]
    subst hl
    by_cases h43 : err = 43
    · rw [if_pos h43]
      subst h43
      by_cases hc : cl < s.first
      · rw [if_pos hc]
        go_enter Try.func36, Try.ntmps36
        go_wp2_with (go_at_call 21; go_must (first | (refine (may_true _).mono ?_; rintro e w' ⟨rfl, rfl⟩) | (refine (may_false _).mono ?_; rintro e w' ⟨rfl, rfl⟩) | (refine (may_dec (by omega) _).mono ?_; rintro e w' ⟨rfl, rfl⟩)))
        go_end0
        exact ⟨rfl, HK.out.1, HK.out.2.1⟩
      · rw [if_neg hc]
        go_enter Try.func36, Try.ntmps36
        go_wp2_with (go_at_call 21; go_must (first | (refine (may_true _).mono ?_; rintro e w' ⟨rfl, rfl⟩) | (refine (may_false _).mono ?_; rintro e w' ⟨rfl, rfl⟩) | (refine (may_dec (by omega) _).mono ?_; rintro e w' ⟨rfl, rfl⟩)))
        exact bodyPost_panic rfl ⟨rfl, HK.out.2.1⟩
    · rw [if_neg h43]
      have b43 : (err == 43) = false := by simpa using h43
      by_cases h22 : err = 22
      · rw [if_pos h22]
        subst h22
        by_cases hc : s.first ≤ cl
        · by_cases hd : cl < s.next
          · rw [if_pos ⟨hc, hd⟩]
            go_enter Try.func36, Try.ntmps36
            go_wp2_with (go_at_call 21; go_must (first | (refine (may_true _).mono ?_; rintro e w' ⟨rfl, rfl⟩) | (refine (may_false _).mono ?_; rintro e w' ⟨rfl, rfl⟩) | (refine (may_dec (by omega) _).mono ?_; rintro e w' ⟨rfl, rfl⟩)))
            go_end0
            exact ⟨rfl, HK.out.1, HK.out.2.1⟩
          · rw [if_neg (fun h => hd h.2)]
            go_enter Try.func36, Try.ntmps36
            go_wp2_with (go_at_call 21; go_must (first | (refine (may_true _).mono ?_; rintro e w' ⟨rfl, rfl⟩) | (refine (may_false _).mono ?_; rintro e w' ⟨rfl, rfl⟩) | (refine (may_dec (by omega) _).mono ?_; rintro e w' ⟨rfl, rfl⟩)))
            exact bodyPost_panic rfl ⟨rfl, HK.out.2.1⟩
        · rw [if_neg (fun h => hc h.1)]
          go_enter Try.func36, Try.ntmps36
          go_wp2_with (go_at_call 21; go_must (first | (refine (may_true _).mono ?_; rintro e w' ⟨rfl, rfl⟩) | (refine (may_false _).mono ?_; rintro e w' ⟨rfl, rfl⟩) | (refine (may_dec (by omega) _).mono ?_; rintro e w' ⟨rfl, rfl⟩)))
          exact bodyPost_panic rfl ⟨rfl, HK.out.2.1⟩
      · rw [if_neg h22]
        have b22 : (err == 22) = false := by simpa using h22
        by_cases h42 : err = 42 ∧ kind = 4
        · rw [if_pos h42]
          obtain ⟨rfl, rfl⟩ := h42
          by_cases hc : s.durable ≤ cl
          · by_cases hd : s.first ≤ cl
            · rw [if_pos ⟨hc, hd⟩]
              go_enter Try.func36, Try.ntmps36
              go_wp2_with (go_at_call 21; go_must (first | (refine (may_true _).mono ?_; rintro e w' ⟨rfl, rfl⟩) | (refine (may_false _).mono ?_; rintro e w' ⟨rfl, rfl⟩) | (refine (may_dec (by omega) _).mono ?_; rintro e w' ⟨rfl, rfl⟩)))
              go_end0
              exact ⟨rfl, HK.out.1, HK.out.2.1⟩
            · rw [if_neg (fun h => hd h.2)]
              go_enter Try.func36, Try.ntmps36
              go_wp2_with (go_at_call 21; go_must (first | (refine (may_true _).mono ?_; rintro e w' ⟨rfl, rfl⟩) | (refine (may_false _).mono ?_; rintro e w' ⟨rfl, rfl⟩) | (refine (may_dec (by omega) _).mono ?_; rintro e w' ⟨rfl, rfl⟩)))
              exact bodyPost_panic rfl ⟨rfl, HK.out.2.1⟩
          · rw [if_neg (fun h => hc h.1)]
            go_enter Try.func36, Try.ntmps36
            go_wp2_with (go_at_call 21; go_must (first | (refine (may_true _).mono ?_; rintro e w' ⟨rfl, rfl⟩) | (refine (may_false _).mono ?_; rintro e w' ⟨rfl, rfl⟩) | (refine (may_dec (by omega) _).mono ?_; rintro e w' ⟨rfl, rfl⟩)))
            exact bodyPost_panic rfl ⟨rfl, HK.out.2.1⟩
        · rw [if_neg h42]
          by_cases h40 : err = 40 ∧ kind = 5
          · rw [if_pos h40]
            obtain ⟨rfl, rfl⟩ := h40
            by_cases hc : s.durable ≤ cl
            · rw [if_pos hc]
              go_enter Try.func36, Try.ntmps36
              go_wp2_with (go_at_call 21; go_must (first | (refine (may_true _).mono ?_; rintro e w' ⟨rfl, rfl⟩) | (refine (may_false _).mono ?_; rintro e w' ⟨rfl, rfl⟩) | (refine (may_dec (by omega) _).mono ?_; rintro e w' ⟨rfl, rfl⟩)))
              go_end0
              exact ⟨rfl, blk_set HK.out.1 6 _, Keep.setCell (bs := (· = g)) HK.out.2.1 (p := ⟨g, 6, none⟩) (Or.inl rfl) _⟩
            · rw [if_neg hc]
              go_enter Try.func36, Try.ntmps36
              go_wp2_with (go_at_call 21; go_must (first | (refine (may_true _).mono ?_; rintro e w' ⟨rfl, rfl⟩) | (refine (may_false _).mono ?_; rintro e w' ⟨rfl, rfl⟩) | (refine (may_dec (by omega) _).mono ?_; rintro e w' ⟨rfl, rfl⟩)))
              exact bodyPost_panic rfl ⟨rfl, HK.out.2.1⟩
          · rw [if_neg h40]
            by_cases e42 : err = 42
            · subst e42
              have bk : (kind == 4) = false := by rw [beq_eq_false_iff_ne]; intro h; exact h42 ⟨rfl, h⟩
              clear h42 h40
              go_enter Try.func36, Try.ntmps36
              go_wp2_with (go_at_call 21; go_must (first | (refine (may_true _).mono ?_; rintro e w' ⟨rfl, rfl⟩) | (refine (may_false _).mono ?_; rintro e w' ⟨rfl, rfl⟩) | (refine (may_dec (by omega) _).mono ?_; rintro e w' ⟨rfl, rfl⟩)))
              exact bodyPost_panic rfl ⟨rfl, HK.out.2.1⟩
            · have b42 : (err == 42) = false := by simpa using e42
              by_cases e40 : err = 40
              · subst e40
                have bk : (kind == 5) = false := by rw [beq_eq_false_iff_ne]; intro h; exact h40 ⟨rfl, h⟩
                clear h42 h40
                go_enter Try.func36, Try.ntmps36
                go_wp2_with (go_at_call 21; go_must (first | (refine (may_true _).mono ?_; rintro e w' ⟨rfl, rfl⟩) | (refine (may_false _).mono ?_; rintro e w' ⟨rfl, rfl⟩) | (refine (may_dec (by omega) _).mono ?_; rintro e w' ⟨rfl, rfl⟩)))
                exact bodyPost_panic rfl ⟨rfl, HK.out.2.1⟩
              · have b40 : (err == 40) = false := by simpa using e40
                clear h42 h40
                go_enter Try.func36, Try.ntmps36
                go_wp2_with (go_at_call 21; go_must (first | (refine (may_true _).mono ?_; rintro e w' ⟨rfl, rfl⟩) | (refine (may_false _).mono ?_; rintro e w' ⟨rfl, rfl⟩) | (refine (may_dec (by omega) _).mono ?_; rintro e w' ⟨rfl, rfl⟩)))
                exact bodyPost_panic rfl ⟨rfl, HK.out.2.1⟩
  · rw [if_neg hl]
    have bl : (lsn == 0) = false := by simpa using hl
    go_enter Try.func36, Try.ntmps36
    go_wp2_with (go_at_call 21; go_must (first | (refine (may_true _).mono ?_; rintro e w' ⟨rfl, rfl⟩) | (refine (may_false _).mono ?_; rintro e w' ⟨rfl, rfl⟩) | (refine (may_dec (by omega) _).mono ?_; rintro e w' ⟨rfl, rfl⟩)))
    exact bodyPost_panic rfl ⟨rfl, HK.out.2.1⟩

theorem read_any (base g : Nat) (s : S) (rv : Value) (bs : List (List Nat)) (xs : List Value) (kind cl err lsn : Int) (cd : Value) (ord : Option Addr) (crd : Nat) (R : List Nat) (w : World) (h : At w g s rv) (hr : Recs w base g rv bs xs)
    (hI : Inv s bs.length) (hR : Bys w ord R) (hv : ∀ i, R.getD i 0 < 256) :
    Calls Try.prog 36 #[.pointer (some ⟨g, 0, none⟩), .agg #[.int .i64 kind, .int .i64 cl, cd], .agg #[.int .i64 err, .int .i64 lsn, .slice ord R.length crd]] w (Res g rv (readS s bs kind cl err lsn R) w) := by
  by_cases he : err = 0
  · exact read_ok base g s rv bs xs kind cl err lsn cd ord crd R w h hr hI hR hv he
  · exact read_err base g s rv bs xs kind cl err lsn cd ord crd R w h hr hI hR hv he
end Md
end Go.Proofs.Ytjiehgfamlidnaa
