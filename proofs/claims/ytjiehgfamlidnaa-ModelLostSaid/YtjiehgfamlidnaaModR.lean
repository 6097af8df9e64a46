/- ModelOrder: of each state that comes: the order. By an AI agent. -/
import Derived.Test.YtjiehgfamlidnaaModQ
namespace Go.Proofs.Ytjiehgfamlidnaa.modelOrder
open Go.ChangeShapes Go.WideShapes Go.ChangeAt Go.RowKit
open Md
set_option linter.unusedVariables false

/-- What is said to have been done, one behind the other. -/
def Ops (n : Nat) (o : Option Addr) (w : World) : Prop :=
  ∀ i, i < n → ∃ ab ao, o = some ⟨ab, ao, none⟩ ∧ ∃ (kind cl err lsn : Int) (od : Option Addr) (D : List Nat) (cd : Nat) (ord : Option Addr) (R : List Nat) (crd : Nat) (half stay : Bool),
    w.cell? ⟨ab, ao + i * 8, none⟩ = some (.int .i64 kind) ∧ w.cell? ⟨ab, ao + i * 8 + 1, none⟩ = some (.int .i64 cl) ∧ w.cell? ⟨ab, ao + i * 8 + 2, none⟩ = some (.slice od D.length cd) ∧
    w.cell? ⟨ab, ao + i * 8 + 3, none⟩ = some (.int .i64 err) ∧ w.cell? ⟨ab, ao + i * 8 + 4, none⟩ = some (.int .i64 lsn) ∧ w.cell? ⟨ab, ao + i * 8 + 5, none⟩ = some (.slice ord R.length crd) ∧
    w.cell? ⟨ab, ao + i * 8 + 6, none⟩ = some (.bool half) ∧ w.cell? ⟨ab, ao + i * 8 + 7, none⟩ = some (.bool stay) ∧
    Bys w od D ∧ (od = none → cd = 0) ∧ (∀ i, D.getD i 0 < 256) ∧ Bys w ord R ∧ ∀ i, R.getD i 0 < 256

/-- The state that is held: in its variable; its records lie further up. -/
def Held (wr : World) (bm : Nat) (b : Int) (k : Nat) : Prop :=
  ∃ s o cap bs base g xs, wr.heap[bm]? = some (.cells (cs s (.slice o bs.length cap)) 26 (0, 0)) ∧ Recs wr base g (.slice o bs.length cap) bs xs ∧ bm < base ∧ Inv s bs.length ∧ s.base = b ∧ bs.length ≤ k ∧ ∀ i, (bs.getD i []).length ≤ 4096

theorem list_of_still {P : Program} {ops : Array Oper} {w : World} {Q : Act → Prop} {Q' : Exit → Act → World → Prop} (hq : ∀ a, Q a → Q' .normal a w) : ∀ (l : List Oper) (a : Act), wpStill P ops w Q l a → wpList P ops Q' l a w := by
  intro l
  induction l with
  | nil => exact fun a h => hq a h
  | cons o rest ih =>
    intro a h
    unfold wpStill at h
    unfold wpList
    split
    · rename_i hw
      rw [if_pos hw] at h
      exact Or.inl (Oper.wp_of_still (fun a h => ih a h) h)
    · rename_i hw
      rw [if_neg hw] at h
      exact ih _ h

set_option maxRecDepth 100000 in
set_option maxHeartbeats 16000000 in
theorem walk (b : Int) (o : Option Addr) (n cap : Nat) (w : World) (hO : Ops n o w) (hn : n ≤ 9223372036854775807) (hb : b ≤ 9223372036854775807) :
    Calls Try.prog 3 #[.int .i64 b, .slice o n cap] w fun e w' => e = .returned (.bool true) ∧ Below w.heap.size w w' := by
  have HO := Lib.hid hO
  clear hO
  go_enter Try.func3, Try.ntmps3
  go_wp2_with fail
  refine (begun_any w).mono ?_
  rintro e w1 ⟨rfl, hb1⟩
  have HB1 := Lib.hid hb1
  have HN := Lib.hid (new_any b w1)
  clear hb1
  go_wp2_with fail
  refine HN.out.mono ?_
  rintro e w2 ⟨rfl, hb2⟩
  have HB2 := Lib.hid (HB1.out.trans (hb2.mono HB1.out.size))
  clear hb2 HN
  by_cases hlt : b < 1
  · rw [if_pos hlt, if_pos hlt]
    unfold cs zS
    go_wp2_with fail
    go_ret
    exact ⟨rfl, HB2.out.alloc HB2.out.size _⟩
  · rw [if_neg hlt, if_neg hlt]
    unfold cs newS
    go_wp2_with fail
    go_loopg [7] n (fun g i wr => ∃ k : Nat, g + k = n ∧ i = .int .i64 (k : Int) ∧ Hid (Held wr w2.heap.size b k ∧ Below w.heap.size w wr ∧ w2.heap.size < wr.heap.size))
    case atStart =>
      refine ⟨0, by omega, rfl, ⟨newS b, none, 0, [], w2.heap.size + 1, 0, [], blk_new w2 _, recs_nil _ _ _, by omega, new_inv (by omega) hb, rfl, by simp, fun i => by simp⟩, HB2.out.alloc HB2.out.size _, by simp⟩
    case round =>
      obtain ⟨k, hgk, rfl, HK⟩ := hrel
      by_cases hk : k < n
      · by_cases h80 : k < 80
        · obtain ⟨⟨s, om, cm, bs, base, g, xs, hm, hrec, hbm, hI, hsb, hlen, hsh⟩, hbel, hbz⟩ := HK.out
          obtain ⟨ab, ao, rfl, kind, cl, err, lsn, od, D, cd, ord, R, crd, half, stay, q0, q1, q2, q3, q4, q5, q6, q7, hD, hc, hv, hR, hrv⟩ := HO.out k hk
          replace q0 := (hbel.cell (cell_in q0)).trans q0
          replace q1 := (hbel.cell (cell_in q1)).trans q1
          replace q2 := (hbel.cell (cell_in q2)).trans q2
          replace q3 := (hbel.cell (cell_in q3)).trans q3
          replace q4 := (hbel.cell (cell_in q4)).trans q4
          replace q5 := (hbel.cell (cell_in q5)).trans q5
          replace q6 := (hbel.cell (cell_in q6)).trans q6
          replace q7 := (hbel.cell (cell_in q7)).trans q7
          have hDr := bys_keep hD hbel
          have hRr := bys_keep hR hbel
          have HM := Lib.hid (And.intro hm (And.intro hrec (And.intro hbm (And.intro hI (And.intro hsb (And.intro hlen (And.intro hsh hbel)))))))
          have HD := Lib.hid (And.intro hDr (And.intro hc (And.intro hv (And.intro hRr hrv))))
          clear hm hrec hbm hI hsb hlen hsh hD hR hDr hRr hc hv hrv hbel
          by_cases hbig : 5000 < D.length
          · generalize D.length = dl at *
            generalize R.length = rl at *
            go_wp2_with fail
            go_roundg (gk - 1)
            case measure => omega
            case rel =>
              refine ⟨k + 1, by omega, rfl, ?_, HK.out.2.1.alloc HK.out.2.1.size _, by simp; omega⟩
              have kk := (Keep.refl (fun _ => False) wr).alloc (.cells #[.int .i64 kind, .int .i64 cl, .slice od dl cd, .int .i64 err, .int .i64 lsn, .slice ord rl crd, .bool half, .bool stay] 36)
              exact ⟨s, om, cm, bs, base, g, xs, kk.same HM.out.1 id, HM.out.2.1.keep (kk.mono fun _ _ h => h.elim), HM.out.2.2.1, HM.out.2.2.2.1, HM.out.2.2.2.2.1, Nat.le_succ_of_le HM.out.2.2.2.2.2.1, HM.out.2.2.2.2.2.2.1⟩
          · cases half
            · have kk2 : Keep (fun _ => False) wr ((wr.alloc (.cells #[.int .i64 kind, .int .i64 cl, .slice od D.length cd, .int .i64 err, .int .i64 lsn, .slice ord R.length crd, .bool false, .bool stay] 36)).alloc (.cells (cs zS (.slice none 0 0)) 26)) := ((Keep.refl _ wr).alloc _).alloc _
              have hsrc : Src ((wr.alloc (.cells #[.int .i64 kind, .int .i64 cl, .slice od D.length cd, .int .i64 err, .int .i64 lsn, .slice ord R.length crd, .bool false, .bool stay] 36)).alloc (.cells (cs zS (.slice none 0 0)) 26)) om bs := by
                obtain ⟨o2, c2, e, hs⟩ := src_of HM.out.2.1 HM.out.2.2.2.2.2.2.1
                obtain ⟨rfl, -⟩ : om = o2 ∧ cm = c2 := by simpa using e
                exact hs.keep kk2.none
              have h9 : (((wr.alloc (.cells #[.int .i64 kind, .int .i64 cl, .slice od D.length cd, .int .i64 err, .int .i64 lsn, .slice ord R.length crd, .bool false, .bool stay] 36)).alloc (.cells (cs zS (.slice none 0 0)) 26))).heap[wr.heap.size + 1]? = some (.cells (cs zS (.slice none 0 0)) 26 (0, 0)) := blk_new_at (wr.alloc _) _ (n := wr.heap.size + 1) (by simp)
              have hm2 := kk2.same HM.out.1 id
              have hz2 : (((wr.alloc (.cells #[.int .i64 kind, .int .i64 cl, .slice od D.length cd, .int .i64 err, .int .i64 lsn, .slice ord R.length crd, .bool false, .bool stay] 36)).alloc (.cells (cs zS (.slice none 0 0)) 26))).heap.size = wr.heap.size + 2 := by simp
              have hl80 := HM.out.2.2.2.2.2.1
              have HCALL := Lib.hid (apply_any s om cm bs kind cl err lsn od cd D ord crd R _ hsrc (by omega) HM.out.2.2.2.1 (bys_keep HD.out.1 kk2.none) HD.out.2.1 HD.out.2.2.1 (bys_keep HD.out.2.2.2.1 kk2.none) HD.out.2.2.2.2)
              have HZ := Lib.hid (And.intro h9 (And.intro hm2 (And.intro hz2 (HM.out.2.2.2.2.2.2.2.trans (kk2.none.mono HM.out.2.2.2.2.2.2.2.size)))))
              clear hsrc kk2 h9 hm2 hz2
              go_wp2_with (refine load_guard (.tmp 5) 26 (by rfl) ?_; go_must (refine wpList_load_row rfl 26 (.tmp 5) rfl w2.heap.size rfl 26 (cs s (.slice om bs.length cm)) (0, 0) _ (blk_alloc (blk_alloc HM.out.1 _) _) Try.underlying26 rfl model_size ?_))
              refine HCALL.out.mono ?_
              intro e w3 h
              rcases hq : applyF s bs kind cl D err lsn R with _ | ⟨s', bs'⟩
              · rw [hq] at h
                obtain ⟨rfl, hb3⟩ := h
                have h9 := (hb3.block (wr.heap.size + 1) (by simp)).trans HZ.out.1
                have hm3 := (hb3.block w2.heap.size (by simp; omega)).trans HZ.out.2.1
                have hbz3 : wr.heap.size + 2 ≤ w3.heap.size := by have := hb3.size; have := HZ.out.2.2.1; omega
                have H3 := Lib.hid (And.intro h9 (And.intro hm3 (And.intro (HZ.out.2.2.2.trans (hb3.mono HZ.out.2.2.2.size)) hb3)))
                clear h9 hm3 hb3 hq
                go_wp2_with (first | (refine store_guard (.tmp 9) (.tmp 57) 26 (by rfl) ?_; go_must (refine wpList_store_row rfl 26 (.tmp 9) (.tmp 57) rfl (wr.heap.size + 1) (cs zS (.slice none 0 0)) rfl rfl 26 _ H3.out.1 model_size rfl (cs_all _ _ _ _) ?_)) | (refine load_guard (.tmp 9) 26 (by rfl) ?_; go_must (refine wpList_load_row rfl 26 (.tmp 9) rfl (wr.heap.size + 1) rfl 26 (cs zS (.slice none 0 0)) (0, 0) _ (setRow_heap w3 _ _ _ _ _ H3.out.1) Try.underlying26 rfl model_size ?_)))
                refine (same_eq zS none none 0 0 _).mono ?_
                rintro e w4 ⟨rfl, hk4⟩
                have H4 := Lib.hid hk4
                clear hk4
                go_wp2_with fail
                go_roundg (gk - 1)
                case measure => omega
                case rel =>
                  have k3 : Keep (fun b => b = wr.heap.size + 1) w3 (w3.setRow (wr.heap.size + 1) (cs zS (.slice none 0 0))) := Md.Keep.setRow (bs := fun b => b = wr.heap.size + 1) (Keep.refl _ w3) (Or.inl rfl) _
                  have kz : Keep (fun b => b = wr.heap.size + 1) w3 w4 := k3.trans (H4.out.mono fun _ _ h => h.elim)
                  have k0 : Keep (fun _ => False) wr ((wr.alloc (.cells #[.int .i64 kind, .int .i64 cl, .slice od D.length cd, .int .i64 err, .int .i64 lsn, .slice ord R.length crd, .bool false, .bool stay] 36)).alloc (.cells (cs zS (.slice none 0 0)) 26)) := ((Keep.refl _ wr).alloc _).alloc _
                  have kw : Keep (fun _ => False) wr w4 := Keep.own (k0.trans (Keep.of_below H3.out.2.2.2)) kz (fun i hi => Or.inr (by omega))
                  have hsz := kw.size
                  exact ⟨k + 1, by omega, rfl, ⟨s, om, cm, bs, base, g, xs, kw.same HM.out.1 id, HM.out.2.1.keep (kw.mono fun _ _ h => h.elim), HM.out.2.2.1, HM.out.2.2.2.1, HM.out.2.2.2.2.1, Nat.le_succ_of_le HM.out.2.2.2.2.2.1, HM.out.2.2.2.2.2.2.1⟩, HM.out.2.2.2.2.2.2.2.trans (kw.none.mono HM.out.2.2.2.2.2.2.2.size), by omega⟩
              · rw [hq] at h
                obtain ⟨⟨base', g', o', c', xs', rfl, hrec', hba'⟩, hb3⟩ := h
                obtain ⟨hord, hgr⟩ := apply_ord HM.out.2.2.2.1 hq
                have h9 := (hb3.block (wr.heap.size + 1) (by simp)).trans HZ.out.1
                have hm3 := (hb3.block w2.heap.size (by simp; omega)).trans HZ.out.2.1
                have hbz3 : wr.heap.size + 2 ≤ w3.heap.size := by have := hb3.size; have := HZ.out.2.2.1; omega
                have hba2 : wr.heap.size + 2 ≤ base' := by have := HZ.out.2.2.1; omega
                have hn4 := setRow_heap w3 (wr.heap.size + 1) _ (cs s' (.slice o' bs'.length c')) _ _ h9
                have hm4 := (setRow_other w3 (wr.heap.size + 1) w2.heap.size (cs s' (.slice o' bs'.length c')) (by omega)).trans hm3
                have n0 : (w3.setRow (wr.heap.size + 1) (cs s' (.slice o' bs'.length c'))).cell? ⟨wr.heap.size + 1, 0, none⟩ = some (.int .i64 s'.base) := blk_cell hn4 0
                have n1 : (w3.setRow (wr.heap.size + 1) (cs s' (.slice o' bs'.length c'))).cell? ⟨wr.heap.size + 1, 1, none⟩ = some (.int .i64 s'.first) := blk_cell hn4 1
                have n2 : (w3.setRow (wr.heap.size + 1) (cs s' (.slice o' bs'.length c'))).cell? ⟨wr.heap.size + 1, 2, none⟩ = some (.int .i64 s'.durable) := blk_cell hn4 2
                have n3 : (w3.setRow (wr.heap.size + 1) (cs s' (.slice o' bs'.length c'))).cell? ⟨wr.heap.size + 1, 3, none⟩ = some (.int .i64 s'.next) := blk_cell hn4 3
                have n4 : (w3.setRow (wr.heap.size + 1) (cs s' (.slice o' bs'.length c'))).cell? ⟨wr.heap.size + 1, 4, none⟩ = some (.int .i64 s'.limit) := blk_cell hn4 4
                have n5 : (w3.setRow (wr.heap.size + 1) (cs s' (.slice o' bs'.length c'))).cell? ⟨wr.heap.size + 1, 5, none⟩ = some (.slice o' bs'.length c') := blk_cell hn4 5
                have n6 : (w3.setRow (wr.heap.size + 1) (cs s' (.slice o' bs'.length c'))).cell? ⟨wr.heap.size + 1, 6, none⟩ = some (.bool s'.failed) := blk_cell hn4 6
                have n7 : (w3.setRow (wr.heap.size + 1) (cs s' (.slice o' bs'.length c'))).cell? ⟨wr.heap.size + 1, 7, none⟩ = some (.bool s'.closed) := blk_cell hn4 7
                have m1 : (w3.setRow (wr.heap.size + 1) (cs s' (.slice o' bs'.length c'))).cell? ⟨w2.heap.size, 1, none⟩ = some (.int .i64 s.first) := blk_cell hm4 1
                have m2 : (w3.setRow (wr.heap.size + 1) (cs s' (.slice o' bs'.length c'))).cell? ⟨w2.heap.size, 2, none⟩ = some (.int .i64 s.durable) := blk_cell hm4 2
                have m3 : (w3.setRow (wr.heap.size + 1) (cs s' (.slice o' bs'.length c'))).cell? ⟨w2.heap.size, 3, none⟩ = some (.int .i64 s.next) := blk_cell hm4 3
                have m4 : (w3.setRow (wr.heap.size + 1) (cs s' (.slice o' bs'.length c'))).cell? ⟨w2.heap.size, 4, none⟩ = some (.int .i64 s.limit) := blk_cell hm4 4
                have m6 : (w3.setRow (wr.heap.size + 1) (cs s' (.slice o' bs'.length c'))).cell? ⟨w2.heap.size, 6, none⟩ = some (.bool s.failed) := blk_cell hm4 6
                have m7 : (w3.setRow (wr.heap.size + 1) (cs s' (.slice o' bs'.length c'))).cell? ⟨w2.heap.size, 7, none⟩ = some (.bool s.closed) := blk_cell hm4 7
                obtain ⟨i1, i2, i3, i4, i5, i6, i7, i8⟩ := hord.inv
                have e19 : (((bs'.length : Nat) : Int) != s'.next - s'.base) = false := by rw [bne_eq_false_iff_eq]; omega
                have ebb : (s'.base != b) = false := by rw [bne_eq_false_iff_eq, hord.base]; exact HM.out.2.2.2.2.1
                have o1 := hord.first
                have o2 := hord.dur
                have o3 := hord.next
                have o4 := hord.limit
                have z1 : decide (s'.durable < s'.first) = false := by rw [decide_eq_false_iff_not]; omega
                have z2 : decide (s'.next < s'.durable) = false := by rw [decide_eq_false_iff_not]; omega
                have z3 : decide (s'.limit < s'.durable) = false := by rw [decide_eq_false_iff_not]; omega
                have z6 : decide (s'.first < s.first) = false := by rw [decide_eq_false_iff_not]; omega
                have z7 : decide (s'.durable < s.durable) = false := by rw [decide_eq_false_iff_not]; omega
                have z8 : decide (s'.next < s.next) = false := by rw [decide_eq_false_iff_not]; omega
                have z9 : decide (s.limit < s'.limit) = false := by rw [decide_eq_false_iff_not]; omega
                have H3 := Lib.hid (And.intro h9 (And.intro hn4 (And.intro hm4 (And.intro hrec' (And.intro hord (And.intro hgr (HZ.out.2.2.2.trans (hb3.mono HZ.out.2.2.2.size))))))))
                clear h9 hn4 hm3 hm4 hrec' hord hgr hb3 hq i6 HCALL
                rcases hsf : s.failed with _ | _
                · rcases hsc : s.closed with _ | _
                  · rw [hsf] at m6
                    rw [hsc] at m7
                    clear hsf hsc
                    go_upto_region 19 with (first | (refine store_guard (.tmp 9) (.tmp 57) 26 (by rfl) ?_; go_must (refine wpList_store_row rfl 26 (.tmp 9) (.tmp 57) rfl (wr.heap.size + 1) (cs s' (.slice o' bs'.length c')) rfl rfl 26 _ H3.out.1 model_size rfl (cs_all _ _ _ _) ?_)) | (refine load_guard (.tmp 9) 26 (by rfl) ?_; go_must (refine wpList_load_row rfl 26 (.tmp 9) rfl (wr.heap.size + 1) rfl 26 (cs s' (.slice o' bs'.length c')) (0, 0) _ H3.out.2.1 Try.underlying26 rfl model_size ?_)) | (refine store_guard (.tmp 5) (.tmp 147) 26 (by rfl) ?_; go_must (refine wpList_store_row rfl 26 (.tmp 5) (.tmp 147) rfl w2.heap.size (cs s' (.slice o' bs'.length c')) rfl rfl 26 _ H3.out.2.2.1 model_size rfl (cs_all _ _ _ _) ?_)))
                    refine wp_region_lit ?_
                    simp only [List.append_eq, List.cons_append, List.nil_append]
                    refine list_of_still (Q := fun a => _) (fun a h => h) _ _ (still_of_quiet (C := fun w' => w' = w3.setRow (wr.heap.size + 1) (cs s' (.slice o' bs'.length c'))) rfl (fun _ h => h) _ _ ?_)
                    repeat (first | go_big_quiet_skip | (go_big_quiet_want; go_big_quiet_op; go_big_quiet_on))
                    refine wpQuiet_nil ?_
                    go_wp2_with (first | (refine store_guard (.tmp 9) (.tmp 57) 26 (by rfl) ?_; go_must (refine wpList_store_row rfl 26 (.tmp 9) (.tmp 57) rfl (wr.heap.size + 1) (cs s' (.slice o' bs'.length c')) rfl rfl 26 _ H3.out.1 model_size rfl (cs_all _ _ _ _) ?_)) | (refine load_guard (.tmp 9) 26 (by rfl) ?_; go_must (refine wpList_load_row rfl 26 (.tmp 9) rfl (wr.heap.size + 1) rfl 26 (cs s' (.slice o' bs'.length c')) (0, 0) _ H3.out.2.1 Try.underlying26 rfl model_size ?_)) | (refine store_guard (.tmp 5) (.tmp 147) 26 (by rfl) ?_; go_must (refine wpList_store_row rfl 26 (.tmp 5) (.tmp 147) rfl w2.heap.size (cs s' (.slice o' bs'.length c')) rfl rfl 26 _ H3.out.2.2.1 model_size rfl (cs_all _ _ _ _) ?_)))
                    go_roundg (gk - 1)
                    case measure => omega
                    case rel =>
                      have k3 : Keep (fun b => b = wr.heap.size + 1) w3 (w3.setRow (wr.heap.size + 1) (cs s' (.slice o' bs'.length c'))) := Md.Keep.setRow (bs := fun b => b = wr.heap.size + 1) (Keep.refl _ w3) (Or.inl rfl) _
                      have k4 : Keep (fun b => b = w2.heap.size) (w3.setRow (wr.heap.size + 1) (cs s' (.slice o' bs'.length c'))) ((w3.setRow (wr.heap.size + 1) (cs s' (.slice o' bs'.length c'))).setRow w2.heap.size (cs s' (.slice o' bs'.length c'))) := Md.Keep.setRow (bs := fun b => b = w2.heap.size) (Keep.refl _ _) (Or.inl rfl) _
                      have hl : bs'.length ≤ k + 1 := by
                        have := HM.out.2.2.2.2.2.1
                        rcases H3.out.2.2.2.2.2.1 with rfl | ⟨rfl, -⟩
                        · omega
                        · rw [List.length_append, List.length_singleton]; omega
                      have hbw := H3.out.2.2.2.2.2.2
                      have hbs := hbw.size
                      have hw2 := HB2.out.size
                      have hb4 := hbw.trans (k3.below hbs (fun i hi => by have := HM.out.2.2.2.2.2.2.2.size; omega))
                      have hb5 := hb4.trans (k4.below hb4.size (fun i hi => by omega))
                      refine ⟨k + 1, by omega, rfl, ⟨s', o', c', bs', base', g', xs', setRow_heap _ _ _ _ _ _ H3.out.2.2.1, (H3.out.2.2.2.1.keep1 k3 (by omega)).keep1 k4 (by omega), by omega, H3.out.2.2.2.2.1.inv, H3.out.2.2.2.2.1.base.trans HM.out.2.2.2.2.1, hl, short_grown H3.out.2.2.2.2.2.1 HM.out.2.2.2.2.2.2.1⟩, hb5, by rw [size_setRow, size_setRow]; omega⟩
                  · rw [hsf] at m6
                    rw [hsc] at m7
                    rw [H3.out.2.2.2.2.1.closed hsc] at n7
                    clear hsf hsc
                    go_upto_region 19 with (first | (refine store_guard (.tmp 9) (.tmp 57) 26 (by rfl) ?_; go_must (refine wpList_store_row rfl 26 (.tmp 9) (.tmp 57) rfl (wr.heap.size + 1) (cs s' (.slice o' bs'.length c')) rfl rfl 26 _ H3.out.1 model_size rfl (cs_all _ _ _ _) ?_)) | (refine load_guard (.tmp 9) 26 (by rfl) ?_; go_must (refine wpList_load_row rfl 26 (.tmp 9) rfl (wr.heap.size + 1) rfl 26 (cs s' (.slice o' bs'.length c')) (0, 0) _ H3.out.2.1 Try.underlying26 rfl model_size ?_)) | (refine store_guard (.tmp 5) (.tmp 147) 26 (by rfl) ?_; go_must (refine wpList_store_row rfl 26 (.tmp 5) (.tmp 147) rfl w2.heap.size (cs s' (.slice o' bs'.length c')) rfl rfl 26 _ H3.out.2.2.1 model_size rfl (cs_all _ _ _ _) ?_)))
                    refine wp_region_lit ?_
                    simp only [List.append_eq, List.cons_append, List.nil_append]
                    refine list_of_still (Q := fun a => _) (fun a h => h) _ _ (still_of_quiet (C := fun w' => w' = w3.setRow (wr.heap.size + 1) (cs s' (.slice o' bs'.length c'))) rfl (fun _ h => h) _ _ ?_)
                    repeat (first | go_big_quiet_skip | (go_big_quiet_want; go_big_quiet_op; go_big_quiet_on))
                    refine wpQuiet_nil ?_
                    go_wp2_with (first | (refine store_guard (.tmp 9) (.tmp 57) 26 (by rfl) ?_; go_must (refine wpList_store_row rfl 26 (.tmp 9) (.tmp 57) rfl (wr.heap.size + 1) (cs s' (.slice o' bs'.length c')) rfl rfl 26 _ H3.out.1 model_size rfl (cs_all _ _ _ _) ?_)) | (refine load_guard (.tmp 9) 26 (by rfl) ?_; go_must (refine wpList_load_row rfl 26 (.tmp 9) rfl (wr.heap.size + 1) rfl 26 (cs s' (.slice o' bs'.length c')) (0, 0) _ H3.out.2.1 Try.underlying26 rfl model_size ?_)) | (refine store_guard (.tmp 5) (.tmp 147) 26 (by rfl) ?_; go_must (refine wpList_store_row rfl 26 (.tmp 5) (.tmp 147) rfl w2.heap.size (cs s' (.slice o' bs'.length c')) rfl rfl 26 _ H3.out.2.2.1 model_size rfl (cs_all _ _ _ _) ?_)))
                    go_roundg (gk - 1)
                    case measure => omega
                    case rel =>
                      have k3 : Keep (fun b => b = wr.heap.size + 1) w3 (w3.setRow (wr.heap.size + 1) (cs s' (.slice o' bs'.length c'))) := Md.Keep.setRow (bs := fun b => b = wr.heap.size + 1) (Keep.refl _ w3) (Or.inl rfl) _
                      have k4 : Keep (fun b => b = w2.heap.size) (w3.setRow (wr.heap.size + 1) (cs s' (.slice o' bs'.length c'))) ((w3.setRow (wr.heap.size + 1) (cs s' (.slice o' bs'.length c'))).setRow w2.heap.size (cs s' (.slice o' bs'.length c'))) := Md.Keep.setRow (bs := fun b => b = w2.heap.size) (Keep.refl _ _) (Or.inl rfl) _
                      have hl : bs'.length ≤ k + 1 := by
                        have := HM.out.2.2.2.2.2.1
                        rcases H3.out.2.2.2.2.2.1 with rfl | ⟨rfl, -⟩
                        · omega
                        · rw [List.length_append, List.length_singleton]; omega
                      have hbw := H3.out.2.2.2.2.2.2
                      have hbs := hbw.size
                      have hw2 := HB2.out.size
                      have hb4 := hbw.trans (k3.below hbs (fun i hi => by have := HM.out.2.2.2.2.2.2.2.size; omega))
                      have hb5 := hb4.trans (k4.below hb4.size (fun i hi => by omega))
                      refine ⟨k + 1, by omega, rfl, ⟨s', o', c', bs', base', g', xs', setRow_heap _ _ _ _ _ _ H3.out.2.2.1, (H3.out.2.2.2.1.keep1 k3 (by omega)).keep1 k4 (by omega), by omega, H3.out.2.2.2.2.1.inv, H3.out.2.2.2.2.1.base.trans HM.out.2.2.2.2.1, hl, short_grown H3.out.2.2.2.2.2.1 HM.out.2.2.2.2.2.2.1⟩, hb5, by rw [size_setRow, size_setRow]; omega⟩
                · rw [hsf] at m6
                  rw [H3.out.2.2.2.2.1.failed hsf] at n6
                  clear hsf
                  rcases hsc : s.closed with _ | _
                  · rw [hsc] at m7
                    clear hsc
                    go_upto_region 19 with (first | (refine store_guard (.tmp 9) (.tmp 57) 26 (by rfl) ?_; go_must (refine wpList_store_row rfl 26 (.tmp 9) (.tmp 57) rfl (wr.heap.size + 1) (cs s' (.slice o' bs'.length c')) rfl rfl 26 _ H3.out.1 model_size rfl (cs_all _ _ _ _) ?_)) | (refine load_guard (.tmp 9) 26 (by rfl) ?_; go_must (refine wpList_load_row rfl 26 (.tmp 9) rfl (wr.heap.size + 1) rfl 26 (cs s' (.slice o' bs'.length c')) (0, 0) _ H3.out.2.1 Try.underlying26 rfl model_size ?_)) | (refine store_guard (.tmp 5) (.tmp 147) 26 (by rfl) ?_; go_must (refine wpList_store_row rfl 26 (.tmp 5) (.tmp 147) rfl w2.heap.size (cs s' (.slice o' bs'.length c')) rfl rfl 26 _ H3.out.2.2.1 model_size rfl (cs_all _ _ _ _) ?_)))
                    refine wp_region_lit ?_
                    simp only [List.append_eq, List.cons_append, List.nil_append]
                    refine list_of_still (Q := fun a => _) (fun a h => h) _ _ (still_of_quiet (C := fun w' => w' = w3.setRow (wr.heap.size + 1) (cs s' (.slice o' bs'.length c'))) rfl (fun _ h => h) _ _ ?_)
                    repeat (first | go_big_quiet_skip | (go_big_quiet_want; go_big_quiet_op; go_big_quiet_on))
                    refine wpQuiet_nil ?_
                    go_wp2_with (first | (refine store_guard (.tmp 9) (.tmp 57) 26 (by rfl) ?_; go_must (refine wpList_store_row rfl 26 (.tmp 9) (.tmp 57) rfl (wr.heap.size + 1) (cs s' (.slice o' bs'.length c')) rfl rfl 26 _ H3.out.1 model_size rfl (cs_all _ _ _ _) ?_)) | (refine load_guard (.tmp 9) 26 (by rfl) ?_; go_must (refine wpList_load_row rfl 26 (.tmp 9) rfl (wr.heap.size + 1) rfl 26 (cs s' (.slice o' bs'.length c')) (0, 0) _ H3.out.2.1 Try.underlying26 rfl model_size ?_)) | (refine store_guard (.tmp 5) (.tmp 147) 26 (by rfl) ?_; go_must (refine wpList_store_row rfl 26 (.tmp 5) (.tmp 147) rfl w2.heap.size (cs s' (.slice o' bs'.length c')) rfl rfl 26 _ H3.out.2.2.1 model_size rfl (cs_all _ _ _ _) ?_)))
                    go_roundg (gk - 1)
                    case measure => omega
                    case rel =>
                      have k3 : Keep (fun b => b = wr.heap.size + 1) w3 (w3.setRow (wr.heap.size + 1) (cs s' (.slice o' bs'.length c'))) := Md.Keep.setRow (bs := fun b => b = wr.heap.size + 1) (Keep.refl _ w3) (Or.inl rfl) _
                      have k4 : Keep (fun b => b = w2.heap.size) (w3.setRow (wr.heap.size + 1) (cs s' (.slice o' bs'.length c'))) ((w3.setRow (wr.heap.size + 1) (cs s' (.slice o' bs'.length c'))).setRow w2.heap.size (cs s' (.slice o' bs'.length c'))) := Md.Keep.setRow (bs := fun b => b = w2.heap.size) (Keep.refl _ _) (Or.inl rfl) _
                      have hl : bs'.length ≤ k + 1 := by
                        have := HM.out.2.2.2.2.2.1
                        rcases H3.out.2.2.2.2.2.1 with rfl | ⟨rfl, -⟩
                        · omega
                        · rw [List.length_append, List.length_singleton]; omega
                      have hbw := H3.out.2.2.2.2.2.2
                      have hbs := hbw.size
                      have hw2 := HB2.out.size
                      have hb4 := hbw.trans (k3.below hbs (fun i hi => by have := HM.out.2.2.2.2.2.2.2.size; omega))
                      have hb5 := hb4.trans (k4.below hb4.size (fun i hi => by omega))
                      refine ⟨k + 1, by omega, rfl, ⟨s', o', c', bs', base', g', xs', setRow_heap _ _ _ _ _ _ H3.out.2.2.1, (H3.out.2.2.2.1.keep1 k3 (by omega)).keep1 k4 (by omega), by omega, H3.out.2.2.2.2.1.inv, H3.out.2.2.2.2.1.base.trans HM.out.2.2.2.2.1, hl, short_grown H3.out.2.2.2.2.2.1 HM.out.2.2.2.2.2.2.1⟩, hb5, by rw [size_setRow, size_setRow]; omega⟩
                  · rw [hsc] at m7
                    rw [H3.out.2.2.2.2.1.closed hsc] at n7
                    clear hsc
                    go_upto_region 19 with (first | (refine store_guard (.tmp 9) (.tmp 57) 26 (by rfl) ?_; go_must (refine wpList_store_row rfl 26 (.tmp 9) (.tmp 57) rfl (wr.heap.size + 1) (cs s' (.slice o' bs'.length c')) rfl rfl 26 _ H3.out.1 model_size rfl (cs_all _ _ _ _) ?_)) | (refine load_guard (.tmp 9) 26 (by rfl) ?_; go_must (refine wpList_load_row rfl 26 (.tmp 9) rfl (wr.heap.size + 1) rfl 26 (cs s' (.slice o' bs'.length c')) (0, 0) _ H3.out.2.1 Try.underlying26 rfl model_size ?_)) | (refine store_guard (.tmp 5) (.tmp 147) 26 (by rfl) ?_; go_must (refine wpList_store_row rfl 26 (.tmp 5) (.tmp 147) rfl w2.heap.size (cs s' (.slice o' bs'.length c')) rfl rfl 26 _ H3.out.2.2.1 model_size rfl (cs_all _ _ _ _) ?_)))
                    refine wp_region_lit ?_
                    simp only [List.append_eq, List.cons_append, List.nil_append]
                    refine list_of_still (Q := fun a => _) (fun a h => h) _ _ (still_of_quiet (C := fun w' => w' = w3.setRow (wr.heap.size + 1) (cs s' (.slice o' bs'.length c'))) rfl (fun _ h => h) _ _ ?_)
                    repeat (first | go_big_quiet_skip | (go_big_quiet_want; go_big_quiet_op; go_big_quiet_on))
                    refine wpQuiet_nil ?_
                    go_wp2_with (first | (refine store_guard (.tmp 9) (.tmp 57) 26 (by rfl) ?_; go_must (refine wpList_store_row rfl 26 (.tmp 9) (.tmp 57) rfl (wr.heap.size + 1) (cs s' (.slice o' bs'.length c')) rfl rfl 26 _ H3.out.1 model_size rfl (cs_all _ _ _ _) ?_)) | (refine load_guard (.tmp 9) 26 (by rfl) ?_; go_must (refine wpList_load_row rfl 26 (.tmp 9) rfl (wr.heap.size + 1) rfl 26 (cs s' (.slice o' bs'.length c')) (0, 0) _ H3.out.2.1 Try.underlying26 rfl model_size ?_)) | (refine store_guard (.tmp 5) (.tmp 147) 26 (by rfl) ?_; go_must (refine wpList_store_row rfl 26 (.tmp 5) (.tmp 147) rfl w2.heap.size (cs s' (.slice o' bs'.length c')) rfl rfl 26 _ H3.out.2.2.1 model_size rfl (cs_all _ _ _ _) ?_)))
                    go_roundg (gk - 1)
                    case measure => omega
                    case rel =>
                      have k3 : Keep (fun b => b = wr.heap.size + 1) w3 (w3.setRow (wr.heap.size + 1) (cs s' (.slice o' bs'.length c'))) := Md.Keep.setRow (bs := fun b => b = wr.heap.size + 1) (Keep.refl _ w3) (Or.inl rfl) _
                      have k4 : Keep (fun b => b = w2.heap.size) (w3.setRow (wr.heap.size + 1) (cs s' (.slice o' bs'.length c'))) ((w3.setRow (wr.heap.size + 1) (cs s' (.slice o' bs'.length c'))).setRow w2.heap.size (cs s' (.slice o' bs'.length c'))) := Md.Keep.setRow (bs := fun b => b = w2.heap.size) (Keep.refl _ _) (Or.inl rfl) _
                      have hl : bs'.length ≤ k + 1 := by
                        have := HM.out.2.2.2.2.2.1
                        rcases H3.out.2.2.2.2.2.1 with rfl | ⟨rfl, -⟩
                        · omega
                        · rw [List.length_append, List.length_singleton]; omega
                      have hbw := H3.out.2.2.2.2.2.2
                      have hbs := hbw.size
                      have hw2 := HB2.out.size
                      have hb4 := hbw.trans (k3.below hbs (fun i hi => by have := HM.out.2.2.2.2.2.2.2.size; omega))
                      have hb5 := hb4.trans (k4.below hb4.size (fun i hi => by omega))
                      refine ⟨k + 1, by omega, rfl, ⟨s', o', c', bs', base', g', xs', setRow_heap _ _ _ _ _ _ H3.out.2.2.1, (H3.out.2.2.2.1.keep1 k3 (by omega)).keep1 k4 (by omega), by omega, H3.out.2.2.2.2.1.inv, H3.out.2.2.2.2.1.base.trans HM.out.2.2.2.2.1, hl, short_grown H3.out.2.2.2.2.2.1 HM.out.2.2.2.2.2.2.1⟩, hb5, by rw [size_setRow, size_setRow]; omega⟩
            · have kk2 : Keep (fun _ => False) wr ((wr.alloc (.cells #[.int .i64 kind, .int .i64 cl, .slice od D.length cd, .int .i64 err, .int .i64 lsn, .slice ord R.length crd, .bool true, .bool stay] 36)).alloc (.cells (cs zS (.slice none 0 0)) 26)) := ((Keep.refl _ wr).alloc _).alloc _
              have hsrc : Src ((wr.alloc (.cells #[.int .i64 kind, .int .i64 cl, .slice od D.length cd, .int .i64 err, .int .i64 lsn, .slice ord R.length crd, .bool true, .bool stay] 36)).alloc (.cells (cs zS (.slice none 0 0)) 26)) om bs := by
                obtain ⟨o2, c2, e, hs⟩ := src_of HM.out.2.1 HM.out.2.2.2.2.2.2.1
                obtain ⟨rfl, -⟩ : om = o2 ∧ cm = c2 := by simpa using e
                exact hs.keep kk2.none
              have h9 : (((wr.alloc (.cells #[.int .i64 kind, .int .i64 cl, .slice od D.length cd, .int .i64 err, .int .i64 lsn, .slice ord R.length crd, .bool true, .bool stay] 36)).alloc (.cells (cs zS (.slice none 0 0)) 26))).heap[wr.heap.size + 1]? = some (.cells (cs zS (.slice none 0 0)) 26 (0, 0)) := blk_new_at (wr.alloc _) _ (n := wr.heap.size + 1) (by simp)
              have hm2 := kk2.same HM.out.1 id
              have hz2 : (((wr.alloc (.cells #[.int .i64 kind, .int .i64 cl, .slice od D.length cd, .int .i64 err, .int .i64 lsn, .slice ord R.length crd, .bool true, .bool stay] 36)).alloc (.cells (cs zS (.slice none 0 0)) 26))).heap.size = wr.heap.size + 2 := by simp
              have hl80 := HM.out.2.2.2.2.2.1
              have HCALL := Lib.hid (half_any s om cm bs kind cl od cd D _ hsrc (by omega) HM.out.2.2.2.1 (bys_keep HD.out.1 kk2.none) HD.out.2.1 HD.out.2.2.1)
              have HZ := Lib.hid (And.intro h9 (And.intro hm2 (And.intro hz2 (HM.out.2.2.2.2.2.2.2.trans (kk2.none.mono HM.out.2.2.2.2.2.2.2.size)))))
              clear hsrc kk2 h9 hm2 hz2
              go_wp2_with (refine load_guard (.tmp 5) 26 (by rfl) ?_; go_must (refine wpList_load_row rfl 26 (.tmp 5) rfl w2.heap.size rfl 26 (cs s (.slice om bs.length cm)) (0, 0) _ (blk_alloc (blk_alloc HM.out.1 _) _) Try.underlying26 rfl model_size ?_))
              refine HCALL.out.mono ?_
              intro e w3 h
              rcases hq : halfF s bs kind cl D with _ | ⟨s', bs'⟩
              · rw [hq] at h
                obtain ⟨rfl, hb3⟩ := h
                have h9 := (hb3.block (wr.heap.size + 1) (by simp)).trans HZ.out.1
                have hm3 := (hb3.block w2.heap.size (by simp; omega)).trans HZ.out.2.1
                have hbz3 : wr.heap.size + 2 ≤ w3.heap.size := by have := hb3.size; have := HZ.out.2.2.1; omega
                have H3 := Lib.hid (And.intro h9 (And.intro hm3 (And.intro (HZ.out.2.2.2.trans (hb3.mono HZ.out.2.2.2.size)) hb3)))
                clear h9 hm3 hb3 hq
                go_wp2_with (first | (refine store_guard (.tmp 9) (.tmp 48) 26 (by rfl) ?_; go_must (refine wpList_store_row rfl 26 (.tmp 9) (.tmp 48) rfl (wr.heap.size + 1) (cs zS (.slice none 0 0)) rfl rfl 26 _ H3.out.1 model_size rfl (cs_all _ _ _ _) ?_)) | (refine load_guard (.tmp 9) 26 (by rfl) ?_; go_must (refine wpList_load_row rfl 26 (.tmp 9) rfl (wr.heap.size + 1) rfl 26 (cs zS (.slice none 0 0)) (0, 0) _ (setRow_heap w3 _ _ _ _ _ H3.out.1) Try.underlying26 rfl model_size ?_)))
                refine (same_eq zS none none 0 0 _).mono ?_
                rintro e w4 ⟨rfl, hk4⟩
                have H4 := Lib.hid hk4
                clear hk4
                go_wp2_with fail
                go_roundg (gk - 1)
                case measure => omega
                case rel =>
                  have k3 : Keep (fun b => b = wr.heap.size + 1) w3 (w3.setRow (wr.heap.size + 1) (cs zS (.slice none 0 0))) := Md.Keep.setRow (bs := fun b => b = wr.heap.size + 1) (Keep.refl _ w3) (Or.inl rfl) _
                  have kz : Keep (fun b => b = wr.heap.size + 1) w3 w4 := k3.trans (H4.out.mono fun _ _ h => h.elim)
                  have k0 : Keep (fun _ => False) wr ((wr.alloc (.cells #[.int .i64 kind, .int .i64 cl, .slice od D.length cd, .int .i64 err, .int .i64 lsn, .slice ord R.length crd, .bool true, .bool stay] 36)).alloc (.cells (cs zS (.slice none 0 0)) 26)) := ((Keep.refl _ wr).alloc _).alloc _
                  have kw : Keep (fun _ => False) wr w4 := Keep.own (k0.trans (Keep.of_below H3.out.2.2.2)) kz (fun i hi => Or.inr (by omega))
                  have hsz := kw.size
                  exact ⟨k + 1, by omega, rfl, ⟨s, om, cm, bs, base, g, xs, kw.same HM.out.1 id, HM.out.2.1.keep (kw.mono fun _ _ h => h.elim), HM.out.2.2.1, HM.out.2.2.2.1, HM.out.2.2.2.2.1, Nat.le_succ_of_le HM.out.2.2.2.2.2.1, HM.out.2.2.2.2.2.2.1⟩, HM.out.2.2.2.2.2.2.2.trans (kw.none.mono HM.out.2.2.2.2.2.2.2.size), by omega⟩
              · rw [hq] at h
                obtain ⟨⟨base', g', o', c', xs', rfl, hrec', hba'⟩, hb3⟩ := h
                obtain ⟨hord, hgr⟩ := half_ord HM.out.2.2.2.1 hq
                have h9 := (hb3.block (wr.heap.size + 1) (by simp)).trans HZ.out.1
                have hm3 := (hb3.block w2.heap.size (by simp; omega)).trans HZ.out.2.1
                have hbz3 : wr.heap.size + 2 ≤ w3.heap.size := by have := hb3.size; have := HZ.out.2.2.1; omega
                have hba2 : wr.heap.size + 2 ≤ base' := by have := HZ.out.2.2.1; omega
                have hn4 := setRow_heap w3 (wr.heap.size + 1) _ (cs s' (.slice o' bs'.length c')) _ _ h9
                have hm4 := (setRow_other w3 (wr.heap.size + 1) w2.heap.size (cs s' (.slice o' bs'.length c')) (by omega)).trans hm3
                have n0 : (w3.setRow (wr.heap.size + 1) (cs s' (.slice o' bs'.length c'))).cell? ⟨wr.heap.size + 1, 0, none⟩ = some (.int .i64 s'.base) := blk_cell hn4 0
                have n1 : (w3.setRow (wr.heap.size + 1) (cs s' (.slice o' bs'.length c'))).cell? ⟨wr.heap.size + 1, 1, none⟩ = some (.int .i64 s'.first) := blk_cell hn4 1
                have n2 : (w3.setRow (wr.heap.size + 1) (cs s' (.slice o' bs'.length c'))).cell? ⟨wr.heap.size + 1, 2, none⟩ = some (.int .i64 s'.durable) := blk_cell hn4 2
                have n3 : (w3.setRow (wr.heap.size + 1) (cs s' (.slice o' bs'.length c'))).cell? ⟨wr.heap.size + 1, 3, none⟩ = some (.int .i64 s'.next) := blk_cell hn4 3
                have n4 : (w3.setRow (wr.heap.size + 1) (cs s' (.slice o' bs'.length c'))).cell? ⟨wr.heap.size + 1, 4, none⟩ = some (.int .i64 s'.limit) := blk_cell hn4 4
                have n5 : (w3.setRow (wr.heap.size + 1) (cs s' (.slice o' bs'.length c'))).cell? ⟨wr.heap.size + 1, 5, none⟩ = some (.slice o' bs'.length c') := blk_cell hn4 5
                have n6 : (w3.setRow (wr.heap.size + 1) (cs s' (.slice o' bs'.length c'))).cell? ⟨wr.heap.size + 1, 6, none⟩ = some (.bool s'.failed) := blk_cell hn4 6
                have n7 : (w3.setRow (wr.heap.size + 1) (cs s' (.slice o' bs'.length c'))).cell? ⟨wr.heap.size + 1, 7, none⟩ = some (.bool s'.closed) := blk_cell hn4 7
                have m1 : (w3.setRow (wr.heap.size + 1) (cs s' (.slice o' bs'.length c'))).cell? ⟨w2.heap.size, 1, none⟩ = some (.int .i64 s.first) := blk_cell hm4 1
                have m2 : (w3.setRow (wr.heap.size + 1) (cs s' (.slice o' bs'.length c'))).cell? ⟨w2.heap.size, 2, none⟩ = some (.int .i64 s.durable) := blk_cell hm4 2
                have m3 : (w3.setRow (wr.heap.size + 1) (cs s' (.slice o' bs'.length c'))).cell? ⟨w2.heap.size, 3, none⟩ = some (.int .i64 s.next) := blk_cell hm4 3
                have m4 : (w3.setRow (wr.heap.size + 1) (cs s' (.slice o' bs'.length c'))).cell? ⟨w2.heap.size, 4, none⟩ = some (.int .i64 s.limit) := blk_cell hm4 4
                have m6 : (w3.setRow (wr.heap.size + 1) (cs s' (.slice o' bs'.length c'))).cell? ⟨w2.heap.size, 6, none⟩ = some (.bool s.failed) := blk_cell hm4 6
                have m7 : (w3.setRow (wr.heap.size + 1) (cs s' (.slice o' bs'.length c'))).cell? ⟨w2.heap.size, 7, none⟩ = some (.bool s.closed) := blk_cell hm4 7
                obtain ⟨i1, i2, i3, i4, i5, i6, i7, i8⟩ := hord.inv
                have e19 : (((bs'.length : Nat) : Int) != s'.next - s'.base) = false := by rw [bne_eq_false_iff_eq]; omega
                have ebb : (s'.base != b) = false := by rw [bne_eq_false_iff_eq, hord.base]; exact HM.out.2.2.2.2.1
                have o1 := hord.first
                have o2 := hord.dur
                have o3 := hord.next
                have o4 := hord.limit
                have z1 : decide (s'.durable < s'.first) = false := by rw [decide_eq_false_iff_not]; omega
                have z2 : decide (s'.next < s'.durable) = false := by rw [decide_eq_false_iff_not]; omega
                have z3 : decide (s'.limit < s'.durable) = false := by rw [decide_eq_false_iff_not]; omega
                have z6 : decide (s'.first < s.first) = false := by rw [decide_eq_false_iff_not]; omega
                have z7 : decide (s'.durable < s.durable) = false := by rw [decide_eq_false_iff_not]; omega
                have z8 : decide (s'.next < s.next) = false := by rw [decide_eq_false_iff_not]; omega
                have z9 : decide (s.limit < s'.limit) = false := by rw [decide_eq_false_iff_not]; omega
                have H3 := Lib.hid (And.intro h9 (And.intro hn4 (And.intro hm4 (And.intro hrec' (And.intro hord (And.intro hgr (HZ.out.2.2.2.trans (hb3.mono HZ.out.2.2.2.size))))))))
                clear h9 hn4 hm3 hm4 hrec' hord hgr hb3 hq i6 HCALL
                rcases hsf : s.failed with _ | _
                · rcases hsc : s.closed with _ | _
                  · rw [hsf] at m6
                    rw [hsc] at m7
                    clear hsf hsc
                    go_upto_region 19 with (first | (refine store_guard (.tmp 9) (.tmp 48) 26 (by rfl) ?_; go_must (refine wpList_store_row rfl 26 (.tmp 9) (.tmp 48) rfl (wr.heap.size + 1) (cs s' (.slice o' bs'.length c')) rfl rfl 26 _ H3.out.1 model_size rfl (cs_all _ _ _ _) ?_)) | (refine load_guard (.tmp 9) 26 (by rfl) ?_; go_must (refine wpList_load_row rfl 26 (.tmp 9) rfl (wr.heap.size + 1) rfl 26 (cs s' (.slice o' bs'.length c')) (0, 0) _ H3.out.2.1 Try.underlying26 rfl model_size ?_)) | (refine store_guard (.tmp 5) (.tmp 147) 26 (by rfl) ?_; go_must (refine wpList_store_row rfl 26 (.tmp 5) (.tmp 147) rfl w2.heap.size (cs s' (.slice o' bs'.length c')) rfl rfl 26 _ H3.out.2.2.1 model_size rfl (cs_all _ _ _ _) ?_)))
                    refine wp_region_lit ?_
                    simp only [List.append_eq, List.cons_append, List.nil_append]
                    refine list_of_still (Q := fun a => _) (fun a h => h) _ _ (still_of_quiet (C := fun w' => w' = w3.setRow (wr.heap.size + 1) (cs s' (.slice o' bs'.length c'))) rfl (fun _ h => h) _ _ ?_)
                    repeat (first | go_big_quiet_skip | (go_big_quiet_want; go_big_quiet_op; go_big_quiet_on))
                    refine wpQuiet_nil ?_
                    go_wp2_with (first | (refine store_guard (.tmp 9) (.tmp 48) 26 (by rfl) ?_; go_must (refine wpList_store_row rfl 26 (.tmp 9) (.tmp 48) rfl (wr.heap.size + 1) (cs s' (.slice o' bs'.length c')) rfl rfl 26 _ H3.out.1 model_size rfl (cs_all _ _ _ _) ?_)) | (refine load_guard (.tmp 9) 26 (by rfl) ?_; go_must (refine wpList_load_row rfl 26 (.tmp 9) rfl (wr.heap.size + 1) rfl 26 (cs s' (.slice o' bs'.length c')) (0, 0) _ H3.out.2.1 Try.underlying26 rfl model_size ?_)) | (refine store_guard (.tmp 5) (.tmp 147) 26 (by rfl) ?_; go_must (refine wpList_store_row rfl 26 (.tmp 5) (.tmp 147) rfl w2.heap.size (cs s' (.slice o' bs'.length c')) rfl rfl 26 _ H3.out.2.2.1 model_size rfl (cs_all _ _ _ _) ?_)))
                    go_roundg (gk - 1)
                    case measure => omega
                    case rel =>
                      have k3 : Keep (fun b => b = wr.heap.size + 1) w3 (w3.setRow (wr.heap.size + 1) (cs s' (.slice o' bs'.length c'))) := Md.Keep.setRow (bs := fun b => b = wr.heap.size + 1) (Keep.refl _ w3) (Or.inl rfl) _
                      have k4 : Keep (fun b => b = w2.heap.size) (w3.setRow (wr.heap.size + 1) (cs s' (.slice o' bs'.length c'))) ((w3.setRow (wr.heap.size + 1) (cs s' (.slice o' bs'.length c'))).setRow w2.heap.size (cs s' (.slice o' bs'.length c'))) := Md.Keep.setRow (bs := fun b => b = w2.heap.size) (Keep.refl _ _) (Or.inl rfl) _
                      have hl : bs'.length ≤ k + 1 := by
                        have := HM.out.2.2.2.2.2.1
                        rcases H3.out.2.2.2.2.2.1 with rfl | ⟨rfl, -⟩
                        · omega
                        · rw [List.length_append, List.length_singleton]; omega
                      have hbw := H3.out.2.2.2.2.2.2
                      have hbs := hbw.size
                      have hw2 := HB2.out.size
                      have hb4 := hbw.trans (k3.below hbs (fun i hi => by have := HM.out.2.2.2.2.2.2.2.size; omega))
                      have hb5 := hb4.trans (k4.below hb4.size (fun i hi => by omega))
                      refine ⟨k + 1, by omega, rfl, ⟨s', o', c', bs', base', g', xs', setRow_heap _ _ _ _ _ _ H3.out.2.2.1, (H3.out.2.2.2.1.keep1 k3 (by omega)).keep1 k4 (by omega), by omega, H3.out.2.2.2.2.1.inv, H3.out.2.2.2.2.1.base.trans HM.out.2.2.2.2.1, hl, short_grown H3.out.2.2.2.2.2.1 HM.out.2.2.2.2.2.2.1⟩, hb5, by rw [size_setRow, size_setRow]; omega⟩
                  · rw [hsf] at m6
                    rw [hsc] at m7
                    rw [H3.out.2.2.2.2.1.closed hsc] at n7
                    clear hsf hsc
                    go_upto_region 19 with (first | (refine store_guard (.tmp 9) (.tmp 48) 26 (by rfl) ?_; go_must (refine wpList_store_row rfl 26 (.tmp 9) (.tmp 48) rfl (wr.heap.size + 1) (cs s' (.slice o' bs'.length c')) rfl rfl 26 _ H3.out.1 model_size rfl (cs_all _ _ _ _) ?_)) | (refine load_guard (.tmp 9) 26 (by rfl) ?_; go_must (refine wpList_load_row rfl 26 (.tmp 9) rfl (wr.heap.size + 1) rfl 26 (cs s' (.slice o' bs'.length c')) (0, 0) _ H3.out.2.1 Try.underlying26 rfl model_size ?_)) | (refine store_guard (.tmp 5) (.tmp 147) 26 (by rfl) ?_; go_must (refine wpList_store_row rfl 26 (.tmp 5) (.tmp 147) rfl w2.heap.size (cs s' (.slice o' bs'.length c')) rfl rfl 26 _ H3.out.2.2.1 model_size rfl (cs_all _ _ _ _) ?_)))
                    refine wp_region_lit ?_
                    simp only [List.append_eq, List.cons_append, List.nil_append]
                    refine list_of_still (Q := fun a => _) (fun a h => h) _ _ (still_of_quiet (C := fun w' => w' = w3.setRow (wr.heap.size + 1) (cs s' (.slice o' bs'.length c'))) rfl (fun _ h => h) _ _ ?_)
                    repeat (first | go_big_quiet_skip | (go_big_quiet_want; go_big_quiet_op; go_big_quiet_on))
                    refine wpQuiet_nil ?_
                    go_wp2_with (first | (refine store_guard (.tmp 9) (.tmp 48) 26 (by rfl) ?_; go_must (refine wpList_store_row rfl 26 (.tmp 9) (.tmp 48) rfl (wr.heap.size + 1) (cs s' (.slice o' bs'.length c')) rfl rfl 26 _ H3.out.1 model_size rfl (cs_all _ _ _ _) ?_)) | (refine load_guard (.tmp 9) 26 (by rfl) ?_; go_must (refine wpList_load_row rfl 26 (.tmp 9) rfl (wr.heap.size + 1) rfl 26 (cs s' (.slice o' bs'.length c')) (0, 0) _ H3.out.2.1 Try.underlying26 rfl model_size ?_)) | (refine store_guard (.tmp 5) (.tmp 147) 26 (by rfl) ?_; go_must (refine wpList_store_row rfl 26 (.tmp 5) (.tmp 147) rfl w2.heap.size (cs s' (.slice o' bs'.length c')) rfl rfl 26 _ H3.out.2.2.1 model_size rfl (cs_all _ _ _ _) ?_)))
                    go_roundg (gk - 1)
                    case measure => omega
                    case rel =>
                      have k3 : Keep (fun b => b = wr.heap.size + 1) w3 (w3.setRow (wr.heap.size + 1) (cs s' (.slice o' bs'.length c'))) := Md.Keep.setRow (bs := fun b => b = wr.heap.size + 1) (Keep.refl _ w3) (Or.inl rfl) _
                      have k4 : Keep (fun b => b = w2.heap.size) (w3.setRow (wr.heap.size + 1) (cs s' (.slice o' bs'.length c'))) ((w3.setRow (wr.heap.size + 1) (cs s' (.slice o' bs'.length c'))).setRow w2.heap.size (cs s' (.slice o' bs'.length c'))) := Md.Keep.setRow (bs := fun b => b = w2.heap.size) (Keep.refl _ _) (Or.inl rfl) _
                      have hl : bs'.length ≤ k + 1 := by
                        have := HM.out.2.2.2.2.2.1
                        rcases H3.out.2.2.2.2.2.1 with rfl | ⟨rfl, -⟩
                        · omega
                        · rw [List.length_append, List.length_singleton]; omega
                      have hbw := H3.out.2.2.2.2.2.2
                      have hbs := hbw.size
                      have hw2 := HB2.out.size
                      have hb4 := hbw.trans (k3.below hbs (fun i hi => by have := HM.out.2.2.2.2.2.2.2.size; omega))
                      have hb5 := hb4.trans (k4.below hb4.size (fun i hi => by omega))
                      refine ⟨k + 1, by omega, rfl, ⟨s', o', c', bs', base', g', xs', setRow_heap _ _ _ _ _ _ H3.out.2.2.1, (H3.out.2.2.2.1.keep1 k3 (by omega)).keep1 k4 (by omega), by omega, H3.out.2.2.2.2.1.inv, H3.out.2.2.2.2.1.base.trans HM.out.2.2.2.2.1, hl, short_grown H3.out.2.2.2.2.2.1 HM.out.2.2.2.2.2.2.1⟩, hb5, by rw [size_setRow, size_setRow]; omega⟩
                · rw [hsf] at m6
                  rw [H3.out.2.2.2.2.1.failed hsf] at n6
                  clear hsf
                  rcases hsc : s.closed with _ | _
                  · rw [hsc] at m7
                    clear hsc
                    go_upto_region 19 with (first | (refine store_guard (.tmp 9) (.tmp 48) 26 (by rfl) ?_; go_must (refine wpList_store_row rfl 26 (.tmp 9) (.tmp 48) rfl (wr.heap.size + 1) (cs s' (.slice o' bs'.length c')) rfl rfl 26 _ H3.out.1 model_size rfl (cs_all _ _ _ _) ?_)) | (refine load_guard (.tmp 9) 26 (by rfl) ?_; go_must (refine wpList_load_row rfl 26 (.tmp 9) rfl (wr.heap.size + 1) rfl 26 (cs s' (.slice o' bs'.length c')) (0, 0) _ H3.out.2.1 Try.underlying26 rfl model_size ?_)) | (refine store_guard (.tmp 5) (.tmp 147) 26 (by rfl) ?_; go_must (refine wpList_store_row rfl 26 (.tmp 5) (.tmp 147) rfl w2.heap.size (cs s' (.slice o' bs'.length c')) rfl rfl 26 _ H3.out.2.2.1 model_size rfl (cs_all _ _ _ _) ?_)))
                    refine wp_region_lit ?_
                    simp only [List.append_eq, List.cons_append, List.nil_append]
                    refine list_of_still (Q := fun a => _) (fun a h => h) _ _ (still_of_quiet (C := fun w' => w' = w3.setRow (wr.heap.size + 1) (cs s' (.slice o' bs'.length c'))) rfl (fun _ h => h) _ _ ?_)
                    repeat (first | go_big_quiet_skip | (go_big_quiet_want; go_big_quiet_op; go_big_quiet_on))
                    refine wpQuiet_nil ?_
                    go_wp2_with (first | (refine store_guard (.tmp 9) (.tmp 48) 26 (by rfl) ?_; go_must (refine wpList_store_row rfl 26 (.tmp 9) (.tmp 48) rfl (wr.heap.size + 1) (cs s' (.slice o' bs'.length c')) rfl rfl 26 _ H3.out.1 model_size rfl (cs_all _ _ _ _) ?_)) | (refine load_guard (.tmp 9) 26 (by rfl) ?_; go_must (refine wpList_load_row rfl 26 (.tmp 9) rfl (wr.heap.size + 1) rfl 26 (cs s' (.slice o' bs'.length c')) (0, 0) _ H3.out.2.1 Try.underlying26 rfl model_size ?_)) | (refine store_guard (.tmp 5) (.tmp 147) 26 (by rfl) ?_; go_must (refine wpList_store_row rfl 26 (.tmp 5) (.tmp 147) rfl w2.heap.size (cs s' (.slice o' bs'.length c')) rfl rfl 26 _ H3.out.2.2.1 model_size rfl (cs_all _ _ _ _) ?_)))
                    go_roundg (gk - 1)
                    case measure => omega
                    case rel =>
                      have k3 : Keep (fun b => b = wr.heap.size + 1) w3 (w3.setRow (wr.heap.size + 1) (cs s' (.slice o' bs'.length c'))) := Md.Keep.setRow (bs := fun b => b = wr.heap.size + 1) (Keep.refl _ w3) (Or.inl rfl) _
                      have k4 : Keep (fun b => b = w2.heap.size) (w3.setRow (wr.heap.size + 1) (cs s' (.slice o' bs'.length c'))) ((w3.setRow (wr.heap.size + 1) (cs s' (.slice o' bs'.length c'))).setRow w2.heap.size (cs s' (.slice o' bs'.length c'))) := Md.Keep.setRow (bs := fun b => b = w2.heap.size) (Keep.refl _ _) (Or.inl rfl) _
                      have hl : bs'.length ≤ k + 1 := by
                        have := HM.out.2.2.2.2.2.1
                        rcases H3.out.2.2.2.2.2.1 with rfl | ⟨rfl, -⟩
                        · omega
                        · rw [List.length_append, List.length_singleton]; omega
                      have hbw := H3.out.2.2.2.2.2.2
                      have hbs := hbw.size
                      have hw2 := HB2.out.size
                      have hb4 := hbw.trans (k3.below hbs (fun i hi => by have := HM.out.2.2.2.2.2.2.2.size; omega))
                      have hb5 := hb4.trans (k4.below hb4.size (fun i hi => by omega))
                      refine ⟨k + 1, by omega, rfl, ⟨s', o', c', bs', base', g', xs', setRow_heap _ _ _ _ _ _ H3.out.2.2.1, (H3.out.2.2.2.1.keep1 k3 (by omega)).keep1 k4 (by omega), by omega, H3.out.2.2.2.2.1.inv, H3.out.2.2.2.2.1.base.trans HM.out.2.2.2.2.1, hl, short_grown H3.out.2.2.2.2.2.1 HM.out.2.2.2.2.2.2.1⟩, hb5, by rw [size_setRow, size_setRow]; omega⟩
                  · rw [hsc] at m7
                    rw [H3.out.2.2.2.2.1.closed hsc] at n7
                    clear hsc
                    go_upto_region 19 with (first | (refine store_guard (.tmp 9) (.tmp 48) 26 (by rfl) ?_; go_must (refine wpList_store_row rfl 26 (.tmp 9) (.tmp 48) rfl (wr.heap.size + 1) (cs s' (.slice o' bs'.length c')) rfl rfl 26 _ H3.out.1 model_size rfl (cs_all _ _ _ _) ?_)) | (refine load_guard (.tmp 9) 26 (by rfl) ?_; go_must (refine wpList_load_row rfl 26 (.tmp 9) rfl (wr.heap.size + 1) rfl 26 (cs s' (.slice o' bs'.length c')) (0, 0) _ H3.out.2.1 Try.underlying26 rfl model_size ?_)) | (refine store_guard (.tmp 5) (.tmp 147) 26 (by rfl) ?_; go_must (refine wpList_store_row rfl 26 (.tmp 5) (.tmp 147) rfl w2.heap.size (cs s' (.slice o' bs'.length c')) rfl rfl 26 _ H3.out.2.2.1 model_size rfl (cs_all _ _ _ _) ?_)))
                    refine wp_region_lit ?_
                    simp only [List.append_eq, List.cons_append, List.nil_append]
                    refine list_of_still (Q := fun a => _) (fun a h => h) _ _ (still_of_quiet (C := fun w' => w' = w3.setRow (wr.heap.size + 1) (cs s' (.slice o' bs'.length c'))) rfl (fun _ h => h) _ _ ?_)
                    repeat (first | go_big_quiet_skip | (go_big_quiet_want; go_big_quiet_op; go_big_quiet_on))
                    refine wpQuiet_nil ?_
                    go_wp2_with (first | (refine store_guard (.tmp 9) (.tmp 48) 26 (by rfl) ?_; go_must (refine wpList_store_row rfl 26 (.tmp 9) (.tmp 48) rfl (wr.heap.size + 1) (cs s' (.slice o' bs'.length c')) rfl rfl 26 _ H3.out.1 model_size rfl (cs_all _ _ _ _) ?_)) | (refine load_guard (.tmp 9) 26 (by rfl) ?_; go_must (refine wpList_load_row rfl 26 (.tmp 9) rfl (wr.heap.size + 1) rfl 26 (cs s' (.slice o' bs'.length c')) (0, 0) _ H3.out.2.1 Try.underlying26 rfl model_size ?_)) | (refine store_guard (.tmp 5) (.tmp 147) 26 (by rfl) ?_; go_must (refine wpList_store_row rfl 26 (.tmp 5) (.tmp 147) rfl w2.heap.size (cs s' (.slice o' bs'.length c')) rfl rfl 26 _ H3.out.2.2.1 model_size rfl (cs_all _ _ _ _) ?_)))
                    go_roundg (gk - 1)
                    case measure => omega
                    case rel =>
                      have k3 : Keep (fun b => b = wr.heap.size + 1) w3 (w3.setRow (wr.heap.size + 1) (cs s' (.slice o' bs'.length c'))) := Md.Keep.setRow (bs := fun b => b = wr.heap.size + 1) (Keep.refl _ w3) (Or.inl rfl) _
                      have k4 : Keep (fun b => b = w2.heap.size) (w3.setRow (wr.heap.size + 1) (cs s' (.slice o' bs'.length c'))) ((w3.setRow (wr.heap.size + 1) (cs s' (.slice o' bs'.length c'))).setRow w2.heap.size (cs s' (.slice o' bs'.length c'))) := Md.Keep.setRow (bs := fun b => b = w2.heap.size) (Keep.refl _ _) (Or.inl rfl) _
                      have hl : bs'.length ≤ k + 1 := by
                        have := HM.out.2.2.2.2.2.1
                        rcases H3.out.2.2.2.2.2.1 with rfl | ⟨rfl, -⟩
                        · omega
                        · rw [List.length_append, List.length_singleton]; omega
                      have hbw := H3.out.2.2.2.2.2.2
                      have hbs := hbw.size
                      have hw2 := HB2.out.size
                      have hb4 := hbw.trans (k3.below hbs (fun i hi => by have := HM.out.2.2.2.2.2.2.2.size; omega))
                      have hb5 := hb4.trans (k4.below hb4.size (fun i hi => by omega))
                      refine ⟨k + 1, by omega, rfl, ⟨s', o', c', bs', base', g', xs', setRow_heap _ _ _ _ _ _ H3.out.2.2.1, (H3.out.2.2.2.1.keep1 k3 (by omega)).keep1 k4 (by omega), by omega, H3.out.2.2.2.2.1.inv, H3.out.2.2.2.2.1.base.trans HM.out.2.2.2.2.1, hl, short_grown H3.out.2.2.2.2.2.1 HM.out.2.2.2.2.2.2.1⟩, hb5, by rw [size_setRow, size_setRow]; omega⟩
        · go_wp2_with fail
          go_ret
          exact ⟨rfl, HK.out.2.1⟩
      · go_wp2_with fail
        go_ret
        exact ⟨rfl, HK.out.2.1⟩
end Go.Proofs.Ytjiehgfamlidnaa.modelOrder
