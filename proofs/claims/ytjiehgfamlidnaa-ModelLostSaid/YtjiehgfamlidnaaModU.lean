/- ModelLost: the walk. By an AI agent. -/
import Derived.Test.YtjiehgfamlidnaaModS
import Derived.Test.YtjiehgfamlidnaaModT
namespace Go.Proofs.Ytjiehgfamlidnaa.modelLost
open Go.ChangeShapes Go.WideShapes Go.ChangeAt Go.RowKit
open Md
set_option linter.unusedVariables false

/-- The state that is held. -/
def HeldL (wr : World) (bm : Nat) (b : Int) (lost k : Nat) (D : List Nat) : Prop :=
  ∃ s o cap bs base g xs, wr.heap[bm]? = some (.cells (cs s (.slice o bs.length cap)) 26 (0, 0)) ∧ Recs wr base g (.slice o bs.length cap) bs xs ∧ bm + 1 < base ∧ s = lostS b lost k ∧ bs = List.replicate k D

theorem HeldL.keep {wr w' : World} {bm lost k : Nat} {b : Int} {D : List Nat} (h : HeldL wr bm b lost k D) (k' : Below wr.heap.size wr w') : HeldL w' bm b lost k D := by
  obtain ⟨s, o, cap, bs, base, g, xs, hm, hr, hb, hs, hbs⟩ := h
  have hlt : bm < wr.heap.size := by
    rw [Array.getElem?_eq_some_iff] at hm
    exact hm.1
  exact ⟨s, o, cap, bs, base, g, xs, (k'.block _ hlt).trans hm, hr.keep ((Keep.of_below k').mono fun _ _ h => h.elim), hb, hs, hbs⟩

theorem ch_bool {O : Option (S × List (List Nat))} {w : World} {e : Ending} {w' : World} (h : ChRes O w e w') : ∃ s o n c, e = .returned (.tuple #[.agg (cs s (.slice o n c)), .bool O.isSome]) ∧ Below w.heap.size w w' := by
  cases O with
  | none => exact ⟨zS, none, 0, 0, h.1, h.2⟩
  | some p =>
    obtain ⟨⟨base, g, o, cap, xs, he, -⟩, hb⟩ := h
    exact ⟨p.1, o, p.2.length, cap, he, hb⟩

theorem rep_short {k : Nat} {D : List Nat} (h : D.length ≤ 4096) : ∀ i, ((List.replicate k D).getD i []).length ≤ 4096 := by
  intro i
  rw [List.getD_eq_getElem?_getD, List.getElem?_replicate]
  split
  · exact h
  · simp

/-- What the held state's calls do, in any world behind. -/
theorem held_calls {wr : World} {lost k : Nat} {b : Int} {D : List Nat} {g base : Nat} {s : S} {o : Option Addr} {cap : Nat} {bs : List (List Nat)} {xs : List Value} (hr : Recs wr base g (.slice o bs.length cap) bs xs) (hs : s = lostS b lost k) (hbs : bs = List.replicate k D)
    (h1 : 1 ≤ b) (h2 : b ≤ 1152921504606846976) (hk : k ≤ 30) (hl : lost ≤ 30) (hD : D.length ≤ 100) (W : World) (kW : Below wr.heap.size wr W) (kind cl err lsn : Int) (od : Option Addr) (cd : Nat) (E : List Nat) (ord : Option Addr) (crd : Nat) (R : List Nat)
    (hE : Bys W od E) (hc : od = none → cd = 0) (hv : ∀ i, E.getD i 0 < 256) (hR : Bys W ord R) (hrv : ∀ i, R.getD i 0 < 256) :
    Calls Try.prog 10 #[.agg (cs s (.slice o bs.length cap)), .agg #[.int .i64 kind, .int .i64 cl, .slice od E.length cd], .agg #[.int .i64 err, .int .i64 lsn, .slice ord R.length crd]] W (ChRes (applyF s bs kind cl E err lsn R) W) := by
  have hln : bs.length = k := by rw [hbs, List.length_replicate]
  refine apply_any s o cap bs kind cl err lsn od cd E ord crd R W ?_ (by omega) ?_ hE hc hv hR hrv
  · obtain ⟨o2, c2, e, hs2⟩ := src_of hr (by rw [hbs]; exact rep_short (by omega))
    obtain ⟨rfl, -⟩ : o = o2 ∧ cap = c2 := by simpa using e
    exact hs2.keep kW
  · rw [hln, hs]
    exact lost_inv h1 h2 hk hl

theorem call_size : (Try.prog.info? 32).map (·.size) = some 3 := by kernel_rfl
theorem result_size : (Try.prog.info? 34).map (·.size) = some 3 := by kernel_rfl

set_option maxRecDepth 100000 in
set_option maxHeartbeats 16000000 in
theorem walk (b n lost : Int) (od : Option Addr) (D : List Nat) (cd : Nat) (w : World) (hD : Bys w od D) (hc : od = none → cd = 0) (hv : ∀ i, D.getD i 0 < 256) :
    Calls Try.prog 4 #[.int .i64 b, .int .i64 n, .int .i64 lost, .slice od D.length cd] w fun e w' => e = .returned (.bool true) ∧ Below w.heap.size w w' := by
  have HD := Lib.hid (And.intro hD (And.intro hc hv))
  clear hD hc hv
  go_enter Try.func4, Try.ntmps4
  go_wp2_with fail
  refine (begun_any w).mono ?_
  rintro e w1 ⟨rfl, hb1⟩
  have HB1 := Lib.hid hb1
  clear hb1
  by_cases c1 : b < 1
  · go_wp2_with fail
    go_ret
    exact ⟨rfl, HB1.out⟩
  by_cases c2 : 1152921504606846976 < b
  · go_wp2_with fail
    go_ret
    exact ⟨rfl, HB1.out⟩
  by_cases c3 : n < 1
  · go_wp2_with fail
    go_ret
    exact ⟨rfl, HB1.out⟩
  by_cases c4 : 30 < n
  · go_wp2_with fail
    go_ret
    exact ⟨rfl, HB1.out⟩
  by_cases c5 : lost < 0
  · go_wp2_with fail
    go_ret
    exact ⟨rfl, HB1.out⟩
  by_cases c6 : n ≤ lost
  · go_wp2_with fail
    go_ret
    exact ⟨rfl, HB1.out⟩
  by_cases c7 : 100 < D.length
  · have c7' : (100 : Int) < D.length := by omega
    generalize D.length = dl at *
    go_wp2_with fail
    go_ret
    exact ⟨rfl, HB1.out⟩
  obtain ⟨n, rfl⟩ := Int.eq_ofNat_of_zero_le (a := n) (by omega)
  obtain ⟨lost, rfl⟩ := Int.eq_ofNat_of_zero_le (a := lost) (by omega)
  have hN := new_any b w1
  rw [if_neg c1, if_neg c1] at hN
  have HN := Lib.hid hN
  clear hN
  go_wp2_with fail
  refine HN.out.mono ?_
  rintro e w2 ⟨rfl, hb2⟩
  have HB2 := Lib.hid (HB1.out.trans (hb2.mono HB1.out.size))
  clear hb2 HN
  unfold cs newS
  go_wp2_with fail
  go_loopg [12] n (fun g i wr => ∃ k : Nat, g + k = n ∧ i = .int .i64 (k : Int) ∧ Hid (HeldL wr w2.heap.size b lost k D ∧ Below w.heap.size w wr ∧ wr.heap[w2.heap.size + 1]? = some (.cells #[.int .i64 2, .int .i64 0, .slice od D.length cd] 32 (0, 0)) ∧ w2.heap.size + 1 < wr.heap.size))
  case atStart =>
    refine ⟨0, by omega, rfl, ⟨newS b, none, 0, [], w2.heap.size + 2, 0, [], blk_alloc (blk_new w2 _) _, recs_nil _ _ _, by omega, (lost_zero b lost).symm, rfl⟩, (HB2.out.alloc HB2.out.size _).alloc (by have := HB2.out.size; simp; omega) _, blk_new_at (w2.alloc _) _ (n := w2.heap.size + 1) (by simp), by simp⟩
  case round =>
    obtain ⟨k, hgk, rfl, HK⟩ := hrel
    by_cases hk : k < n
    · obtain ⟨⟨s, om, cm, bs, base, g, xs, hm, hrec, hbm, hs, hbs⟩, hbel, hcl, hbz⟩ := HK.out
      by_cases hkl : k = lost
      · skip
        subst hkl
        have hkl : k = k := rfl
        have kW : Below wr.heap.size wr (wr.alloc (.cells #[.int .i64 40, .int .i64 (b + (k : Int)), .slice none 0 0] 34)) := (Below.refl _ wr).alloc (Nat.le_refl _) _
        have hm2 := (kW.block _ (by omega)).trans hm
        have hcl2 := (kW.block _ hbz).trans hcl
        have hz2 : (wr.alloc (.cells #[.int .i64 40, .int .i64 (b + (k : Int)), .slice none 0 0] 34)).heap.size = wr.heap.size + 1 := by simp
        have hle : bs.length ≤ 1000000 := by rw [hbs, List.length_replicate]; omega
        have hln : bs.length = k := by rw [hbs, List.length_replicate]
        have hinv : Inv s bs.length := by rw [hln, hs]; exact lost_inv (by omega) (by omega) (by omega) (by omega)
        have hsrc : Src (wr.alloc (.cells #[.int .i64 40, .int .i64 (b + (k : Int)), .slice none 0 0] 34)) om bs := by
          obtain ⟨o2, c2, e, hs2⟩ := src_of hrec (by rw [hbs]; exact rep_short (by omega))
          obtain ⟨rfl, -⟩ : om = o2 ∧ cm = c2 := by simpa using e
          exact hs2.keep kW
        obtain ⟨s', bs', hs', hbs', hst⟩ : ∃ s' bs', s' = lostS b k (k + 1) ∧ bs' = List.replicate (k + 1) D ∧ applyF s bs 2 0 D 40 (b + (k : Int)) [] = some (s', bs') := by
          refine ⟨_, _, rfl, rfl, ?_⟩
          rw [hs, hbs]
          have h := lost_step (b := b) (lost := k) (k := k) (D := D) (by omega) (by omega) (by omega) (by omega)
          first | (rw [if_pos hkl] at h; exact h) | (rw [if_neg hkl] at h; exact h)
        have hDW : Bys (wr.alloc (.cells #[.int .i64 40, .int .i64 (b + (k : Int)), .slice none 0 0] 34)) od D := bys_keep HD.out.1 (hbel.trans (kW.mono hbel.size))
        have HCALL := Lib.hid (apply_any s om cm bs 2 0 40 (b + (k : Int)) od cd D none 0 [] (wr.alloc (.cells #[.int .i64 40, .int .i64 (b + (k : Int)), .slice none 0 0] 34)) hsrc hle hinv hDW HD.out.2.1 HD.out.2.2 (bys_nil _ _) small_nil)
        rw [hst] at HCALL
        have HZ := Lib.hid (And.intro hm2 (And.intro hcl2 (And.intro hrec (And.intro hbm (And.intro hbel (And.intro hm (And.intro hs' (And.intro hbs' hcl))))))))
        clear hm2 hcl2 hm hcl hrec hsrc hinv hDW hs hbs hs' hbs' hst kW hln hle
        clear hkl
        go_wp2_with (first | (refine load_guard (.tmp 9) 26 (by rfl) ?_; go_must (refine wpList_load_row rfl 26 (.tmp 9) rfl w2.heap.size rfl 26 (cs s (.slice om bs.length cm)) (0, 0) _ HZ.out.1 Try.underlying26 rfl model_size ?_)) | (refine load_guard (.tmp 11) 32 (by rfl) ?_; go_must (refine wpList_load_row rfl 32 (.tmp 11) rfl (w2.heap.size + 1) rfl 32 #[.int .i64 2, .int .i64 0, .slice od D.length cd] (0, 0) _ HZ.out.2.1 Try.underlying32 rfl call_size ?_)))
        refine HCALL.out.mono ?_
        rintro e w3 ⟨⟨base', g', o', c', xs', rfl, hrec', hba'⟩, hb3⟩
        have hm3 : w3.heap[w2.heap.size]? = some (.cells (cs s (.slice om bs.length cm)) 26 (0, 0)) := (hb3.block _ (by omega)).trans HZ.out.1
        have H3 := Lib.hid (And.intro hm3 (And.intro hrec' hb3))
        have hz3 := hb3.size
        clear hm3 hrec' hb3 HCALL
        unfold cs
        go_wp2_with (refine store_guard (.tmp 9) (.tmp 89) 26 (by rfl) ?_; go_must (refine wpList_store_row rfl 26 (.tmp 9) (.tmp 89) rfl w2.heap.size (cs s' (.slice o' bs'.length c')) rfl rfl 26 _ (blk_alloc H3.out.1 _) model_size rfl (cs_all _ _ _ _) ?_))
        go_roundg (gk - 1)
        case measure => omega
        case rel =>
          have kA : Keep (fun _ => False) wr (wr.alloc (.cells #[.int .i64 40, .int .i64 (b + (k : Int)), .slice none 0 0] 34)) := (Keep.refl _ wr).alloc _
          have kAB := kA.trans (Keep.of_below (H3.out.2.2))
          have kS : Keep (fun b => b = w2.heap.size) w3 ((w3.alloc (.cells (cs s' (.slice o' bs'.length c')) 26)).setRow w2.heap.size (cs s' (.slice o' bs'.length c'))) := Md.Keep.setRow (bs := fun b => b = w2.heap.size) ((Keep.refl _ w3).alloc _) (Or.inl rfl) _
          have kk : Keep (fun b => b = w2.heap.size) wr ((w3.alloc (.cells (cs s' (.slice o' bs'.length c')) 26)).setRow w2.heap.size (cs s' (.slice o' bs'.length c'))) := (kAB.mono fun _ _ h => h.elim).trans kS
          have hw2 := HB2.out.size
          refine ⟨k + 1, by omega, rfl, ⟨s', o', c', bs', base', g', xs', setRow_heap _ _ _ _ _ _ (blk_alloc H3.out.1 _), H3.out.2.1.keep1 kS (by omega), by omega, HZ.out.2.2.2.2.2.2.1, HZ.out.2.2.2.2.2.2.2.1⟩, HZ.out.2.2.2.2.1.trans (kk.below HZ.out.2.2.2.2.1.size (fun i hi => by omega)), kk.same HZ.out.2.2.2.2.2.2.2.2 (by omega), ?_⟩
          rw [size_setRow]
          simp
          omega
      · skip
        have kW : Below wr.heap.size wr (wr.alloc (.cells #[.int .i64 0, .int .i64 (b + (k : Int)), .slice none 0 0] 34)) := (Below.refl _ wr).alloc (Nat.le_refl _) _
        have hm2 := (kW.block _ (by omega)).trans hm
        have hcl2 := (kW.block _ hbz).trans hcl
        have hz2 : (wr.alloc (.cells #[.int .i64 0, .int .i64 (b + (k : Int)), .slice none 0 0] 34)).heap.size = wr.heap.size + 1 := by simp
        have hle : bs.length ≤ 1000000 := by rw [hbs, List.length_replicate]; omega
        have hln : bs.length = k := by rw [hbs, List.length_replicate]
        have hinv : Inv s bs.length := by rw [hln, hs]; exact lost_inv (by omega) (by omega) (by omega) (by omega)
        have hsrc : Src (wr.alloc (.cells #[.int .i64 0, .int .i64 (b + (k : Int)), .slice none 0 0] 34)) om bs := by
          obtain ⟨o2, c2, e, hs2⟩ := src_of hrec (by rw [hbs]; exact rep_short (by omega))
          obtain ⟨rfl, -⟩ : om = o2 ∧ cm = c2 := by simpa using e
          exact hs2.keep kW
        obtain ⟨s', bs', hs', hbs', hst⟩ : ∃ s' bs', s' = lostS b lost (k + 1) ∧ bs' = List.replicate (k + 1) D ∧ applyF s bs 2 0 D 0 (b + (k : Int)) [] = some (s', bs') := by
          refine ⟨_, _, rfl, rfl, ?_⟩
          rw [hs, hbs]
          have h := lost_step (b := b) (lost := lost) (k := k) (D := D) (by omega) (by omega) (by omega) (by omega)
          first | (rw [if_pos hkl] at h; exact h) | (rw [if_neg hkl] at h; exact h)
        have hDW : Bys (wr.alloc (.cells #[.int .i64 0, .int .i64 (b + (k : Int)), .slice none 0 0] 34)) od D := bys_keep HD.out.1 (hbel.trans (kW.mono hbel.size))
        have HCALL := Lib.hid (apply_any s om cm bs 2 0 0 (b + (k : Int)) od cd D none 0 [] (wr.alloc (.cells #[.int .i64 0, .int .i64 (b + (k : Int)), .slice none 0 0] 34)) hsrc hle hinv hDW HD.out.2.1 HD.out.2.2 (bys_nil _ _) small_nil)
        rw [hst] at HCALL
        have HZ := Lib.hid (And.intro hm2 (And.intro hcl2 (And.intro hrec (And.intro hbm (And.intro hbel (And.intro hm (And.intro hs' (And.intro hbs' hcl))))))))
        clear hm2 hcl2 hm hcl hrec hsrc hinv hDW hs hbs hs' hbs' hst kW hln hle
        skip
        go_wp2_with (first | (refine load_guard (.tmp 9) 26 (by rfl) ?_; go_must (refine wpList_load_row rfl 26 (.tmp 9) rfl w2.heap.size rfl 26 (cs s (.slice om bs.length cm)) (0, 0) _ HZ.out.1 Try.underlying26 rfl model_size ?_)) | (refine load_guard (.tmp 11) 32 (by rfl) ?_; go_must (refine wpList_load_row rfl 32 (.tmp 11) rfl (w2.heap.size + 1) rfl 32 #[.int .i64 2, .int .i64 0, .slice od D.length cd] (0, 0) _ HZ.out.2.1 Try.underlying32 rfl call_size ?_)))
        refine HCALL.out.mono ?_
        rintro e w3 ⟨⟨base', g', o', c', xs', rfl, hrec', hba'⟩, hb3⟩
        have hm3 : w3.heap[w2.heap.size]? = some (.cells (cs s (.slice om bs.length cm)) 26 (0, 0)) := (hb3.block _ (by omega)).trans HZ.out.1
        have H3 := Lib.hid (And.intro hm3 (And.intro hrec' hb3))
        have hz3 := hb3.size
        clear hm3 hrec' hb3 HCALL
        unfold cs
        go_wp2_with (refine store_guard (.tmp 9) (.tmp 89) 26 (by rfl) ?_; go_must (refine wpList_store_row rfl 26 (.tmp 9) (.tmp 89) rfl w2.heap.size (cs s' (.slice o' bs'.length c')) rfl rfl 26 _ (blk_alloc H3.out.1 _) model_size rfl (cs_all _ _ _ _) ?_))
        go_roundg (gk - 1)
        case measure => omega
        case rel =>
          have kA : Keep (fun _ => False) wr (wr.alloc (.cells #[.int .i64 0, .int .i64 (b + (k : Int)), .slice none 0 0] 34)) := (Keep.refl _ wr).alloc _
          have kAB := kA.trans (Keep.of_below (H3.out.2.2))
          have kS : Keep (fun b => b = w2.heap.size) w3 ((w3.alloc (.cells (cs s' (.slice o' bs'.length c')) 26)).setRow w2.heap.size (cs s' (.slice o' bs'.length c'))) := Md.Keep.setRow (bs := fun b => b = w2.heap.size) ((Keep.refl _ w3).alloc _) (Or.inl rfl) _
          have kk : Keep (fun b => b = w2.heap.size) wr ((w3.alloc (.cells (cs s' (.slice o' bs'.length c')) 26)).setRow w2.heap.size (cs s' (.slice o' bs'.length c'))) := (kAB.mono fun _ _ h => h.elim).trans kS
          have hw2 := HB2.out.size
          refine ⟨k + 1, by omega, rfl, ⟨s', o', c', bs', base', g', xs', setRow_heap _ _ _ _ _ _ (blk_alloc H3.out.1 _), H3.out.2.1.keep1 kS (by omega), by omega, HZ.out.2.2.2.2.2.2.1, HZ.out.2.2.2.2.2.2.2.1⟩, HZ.out.2.2.2.2.1.trans (kk.below HZ.out.2.2.2.2.1.size (fun i hi => by omega)), kk.same HZ.out.2.2.2.2.2.2.2.2 (by omega), ?_⟩
          rw [size_setRow]
          simp
          omega
    · skip
      have hkn : k = n := by omega
      rw [hkn] at HK
      obtain ⟨⟨s, om, cm, bs, base, g2, xs, hm, hrec, hbm, hs, hbs⟩, hbel, hcl, hbz⟩ := HK.out
      have hlt : lost < n := by omega
      have q3 : wr.cell? ⟨w2.heap.size, 3, none⟩ = some (.int .i64 (b + (n : Int))) := (blk_cell hm 3).trans (by rw [hs]; rfl)
      have q4 : wr.cell? ⟨w2.heap.size, 4, none⟩ = some (.int .i64 (b + (lost : Int))) := (blk_cell hm 4).trans (by rw [hs]; simp [cs, lostS, hlt])
      have ha : applyF s bs 1 0 D 0 (b + (n : Int)) [] = none := by rw [hs, hbs]; exact lost_app hlt
      have hb : applyF s bs 3 0 [] 0 0 [] = none := by rw [hs, hbs]; exact lost_sync hlt
      have hd : applyF s bs 7 0 [] 0 0 [] = none := by rw [hs, hbs]; exact lost_close hlt
      have HE := Lib.hid (And.intro ha (And.intro hb hd))
      have HF := Lib.hid (held_calls hrec hs hbs (by omega) (by omega) (by omega) (by omega) (by omega : D.length ≤ 100))
      have HW := Lib.hid (And.intro hbel (And.intro hm (⟨s, om, cm, bs, base, g2, xs, hm, hrec, hbm, hs, hbs⟩ : HeldL wr w2.heap.size b lost n D)))
      have hDW : Bys wr od D := bys_keep HD.out.1 hbel
      have HDW := Lib.hid hDW
      clear ha hb hd hrec hs hbs hm hcl hbel hDW HK
      go_wp2_with (refine load_guard (.tmp 9) 26 (by rfl) ?_; go_must (refine wpList_load_row rfl 26 (.tmp 9) rfl w2.heap.size rfl 26 (cs s (.slice om bs.length cm)) (0, 0) _ HW.out.2.1 Try.underlying26 rfl model_size ?_))
      refine (HF.out wr (Below.refl _ wr) 1 0 0 (b + (n : Int)) od cd D none 0 [] HDW.out HD.out.2.1 HD.out.2.2 (bys_nil _ _) small_nil).mono ?_
      rw [HE.out.1]
      rintro e w3 ⟨rfl, hb3⟩
      have k3 : Below wr.heap.size wr (w3.alloc (.cells (cs zS (.slice none 0 0)) 26)) := hb3.alloc hb3.size _
      have H3 := Lib.hid (And.intro ((k3.block _ (by omega)).trans HW.out.2.1) k3)
      clear hb3 k3
      unfold cs zS
      go_wp2_with (refine load_guard (.tmp 9) 26 (by rfl) ?_; go_must (refine wpList_load_row rfl 26 (.tmp 9) rfl w2.heap.size rfl 26 (cs s (.slice om bs.length cm)) (0, 0) _ H3.out.1 Try.underlying26 rfl model_size ?_))
      refine (HF.out _ H3.out.2 3 0 0 0 none 0 [] none 0 [] (bys_nil _ _) (fun _ => rfl) small_nil (bys_nil _ _) small_nil).mono ?_
      rw [HE.out.2.1]
      rintro e w4 ⟨rfl, hb4⟩
      have k4 : Below wr.heap.size wr (w4.alloc (.cells (cs zS (.slice none 0 0)) 26)) := (H3.out.2.trans (hb4.mono H3.out.2.size)).alloc (by have := H3.out.2.size; have := hb4.size; omega) _
      have H4 := Lib.hid (And.intro ((k4.block _ (by omega)).trans HW.out.2.1) k4)
      clear hb4 k4
      unfold cs zS
      go_wp2_with (refine load_guard (.tmp 9) 26 (by rfl) ?_; go_must (refine wpList_load_row rfl 26 (.tmp 9) rfl w2.heap.size rfl 26 (cs s (.slice om bs.length cm)) (0, 0) _ H4.out.1 Try.underlying26 rfl model_size ?_))
      refine (HF.out _ H4.out.2 7 0 0 0 none 0 [] none 0 [] (bys_nil _ _) (fun _ => rfl) small_nil (bys_nil _ _) small_nil).mono ?_
      rw [HE.out.2.2]
      rintro e w5 ⟨rfl, hb5⟩
      have k5 : Below wr.heap.size wr (w5.alloc (.cells (cs zS (.slice none 0 0)) 26)) := (H4.out.2.trans (hb5.mono H4.out.2.size)).alloc (by have := H4.out.2.size; have := hb5.size; omega) _
      have r3 := (k5.cell (cell_in q3)).trans q3
      have r4 := (k5.cell (cell_in q4)).trans q4
      have H5 := Lib.hid k5
      clear hb5 k5 q3 q4
      unfold cs zS at *
      go_wp2_with fail
      go_loopg [22] n (fun g i wr => ∃ j : Nat, g + j = n ∧ i = .int .i64 (j : Int) ∧ Hid (HeldL wr w2.heap.size b lost n D ∧ Below w.heap.size w wr ∧ w2.heap.size + 1 < wr.heap.size))
      case atStart =>
        refine ⟨0, by omega, rfl, HeldL.keep HW.out.2.2 H5.out, HW.out.1.trans (H5.out.mono HW.out.1.size), ?_⟩
        have := H5.out.size
        omega
      case round =>
        clear HW HF HE HDW H3 H4 H5 r3 r4
        obtain ⟨j, hgj, rfl, HJ⟩ := hrel
        by_cases hj : j < n
        · skip
          by_cases hjl : j < lost
          · skip
            obtain ⟨⟨s, om, cm, bs, base, g2, xs, hm, hrec, hbm, hs, hbs⟩, hbel, hbz⟩ := HJ.out
            have hlt : lost < n := by omega
            have p1 : decide (j < lost) = true := by simp <;> omega
            have p2 : decide (j ≤ lost) = true := by simp <;> omega


            have ha : (applyF s bs 4 (b + (j : Int)) [] 0 (b + (j : Int)) D).isSome = true := by rw [hs, hbs, lost_read hlt hj]; simp <;> omega
            have hb : (applyF s bs 4 (b + (j : Int)) [] 42 0 []).isSome = true := by rw [hs, hbs]; exact lost_not hlt hj
            have hd : (applyF s bs 6 (b + (j : Int)) [] 0 0 []).isSome = true := by rw [hs, hbs, lost_front hlt hj]; simp <;> omega
            have HE := Lib.hid (And.intro ha (And.intro hb hd))
            have HF := Lib.hid (held_calls hrec hs hbs (by omega) (by omega) (by omega) (by omega) (by omega : D.length ≤ 100))
            have HW := Lib.hid (And.intro hbel (And.intro hm (⟨s, om, cm, bs, base, g2, xs, hm, hrec, hbm, hs, hbs⟩ : HeldL wr w2.heap.size b lost n D)))
            have HDW := Lib.hid (bys_keep HD.out.1 hbel)
            clear ha hb hd hrec hs hbs hm hbel HJ
            go_wp2_with (refine load_guard (.tmp 9) 26 (by rfl) ?_; go_must (refine wpList_load_row rfl 26 (.tmp 9) rfl w2.heap.size rfl 26 (cs s (.slice om bs.length cm)) (0, 0) _ HW.out.2.1 Try.underlying26 rfl model_size ?_))
            refine (HF.out wr (Below.refl _ wr) 4 (b + (j : Int)) 0 (b + (j : Int)) none 0 [] od cd D (bys_nil _ _) (fun _ => rfl) small_nil HDW.out HD.out.2.2).mono ?_
            intro e w3 h
            rcases ch_bool h with ⟨s3, o3, n3, c3', rfl, hb3⟩
            rw [HE.out.1]
            have k3 : Below wr.heap.size wr (w3.alloc (.cells (cs s3 (.slice o3 n3 c3')) 26)) := hb3.alloc hb3.size _
            have H3 := Lib.hid (And.intro ((k3.block _ (by omega)).trans HW.out.2.1) k3)
            clear hb3 k3 h
            unfold cs
            go_wp2_with (refine load_guard (.tmp 9) 26 (by rfl) ?_; go_must (refine wpList_load_row rfl 26 (.tmp 9) rfl w2.heap.size rfl 26 (cs s (.slice om bs.length cm)) (0, 0) _ H3.out.1 Try.underlying26 rfl model_size ?_))
            refine (HF.out _ H3.out.2 4 (b + (j : Int)) 42 0 none 0 [] none 0 [] (bys_nil _ _) (fun _ => rfl) small_nil (bys_nil _ _) small_nil).mono ?_
            intro e w4 h
            rcases ch_bool h with ⟨s4, o4, n4, c4', rfl, hb4⟩
            rw [HE.out.2.1]
            have k4 : Below wr.heap.size wr (w4.alloc (.cells (cs s4 (.slice o4 n4 c4')) 26)) := (H3.out.2.trans (hb4.mono H3.out.2.size)).alloc (by have := H3.out.2.size; have := hb4.size; omega) _
            have H4 := Lib.hid (And.intro ((k4.block _ (by omega)).trans HW.out.2.1) k4)
            clear hb4 k4 h
            unfold cs
            go_wp2_with (refine load_guard (.tmp 9) 26 (by rfl) ?_; go_must (refine wpList_load_row rfl 26 (.tmp 9) rfl w2.heap.size rfl 26 (cs s (.slice om bs.length cm)) (0, 0) _ H4.out.1 Try.underlying26 rfl model_size ?_))
            refine (HF.out _ H4.out.2 6 (b + (j : Int)) 0 0 none 0 [] none 0 [] (bys_nil _ _) (fun _ => rfl) small_nil (bys_nil _ _) small_nil).mono ?_
            intro e w5 h
            rcases ch_bool h with ⟨s5, o5, n5, c5', rfl, hb5⟩
            rw [HE.out.2.2]
            have k5 : Below wr.heap.size wr (w5.alloc (.cells (cs s5 (.slice o5 n5 c5')) 26)) := (H4.out.2.trans (hb5.mono H4.out.2.size)).alloc (by have := H4.out.2.size; have := hb5.size; omega) _
            have H5 := Lib.hid k5
            clear hb5 k5 h
            unfold cs
            go_wp2_with fail
            go_roundg (gk - 1)
            case measure => omega
            case rel =>
              exact ⟨j + 1, by omega, rfl, HeldL.keep HW.out.2.2 H5.out, HW.out.1.trans (H5.out.mono HW.out.1.size), Nat.lt_of_lt_of_le hbz H5.out.size⟩

          · by_cases hje : j = lost
            · skip
              subst hje
              obtain ⟨⟨s, om, cm, bs, base, g2, xs, hm, hrec, hbm, hs, hbs⟩, hbel, hbz⟩ := HJ.out
              have hlt : j < n := by omega
              have p1 : decide (j < j) = false := by simp <;> omega
              have p2 : decide (j ≤ j) = true := by simp <;> omega


              have ha : (applyF s bs 4 (b + (j : Int)) [] 0 (b + (j : Int)) D).isSome = false := by rw [hs, hbs, lost_read hlt hj]; simp <;> omega
              have hb : (applyF s bs 4 (b + (j : Int)) [] 42 0 []).isSome = true := by rw [hs, hbs]; exact lost_not hlt hj
              have hd : (applyF s bs 6 (b + (j : Int)) [] 0 0 []).isSome = true := by rw [hs, hbs, lost_front hlt hj]; simp <;> omega
              clear p1 p2 hjl
              have HE := Lib.hid (And.intro ha (And.intro hb hd))
              have HF := Lib.hid (held_calls hrec hs hbs (by omega) (by omega) (by omega) (by omega) (by omega : D.length ≤ 100))
              have HW := Lib.hid (And.intro hbel (And.intro hm (⟨s, om, cm, bs, base, g2, xs, hm, hrec, hbm, hs, hbs⟩ : HeldL wr w2.heap.size b j n D)))
              have HDW := Lib.hid (bys_keep HD.out.1 hbel)
              clear ha hb hd hrec hs hbs hm hbel HJ
              go_wp2_with (refine load_guard (.tmp 9) 26 (by rfl) ?_; go_must (refine wpList_load_row rfl 26 (.tmp 9) rfl w2.heap.size rfl 26 (cs s (.slice om bs.length cm)) (0, 0) _ HW.out.2.1 Try.underlying26 rfl model_size ?_))
              refine (HF.out wr (Below.refl _ wr) 4 (b + (j : Int)) 0 (b + (j : Int)) none 0 [] od cd D (bys_nil _ _) (fun _ => rfl) small_nil HDW.out HD.out.2.2).mono ?_
              intro e w3 h
              rcases ch_bool h with ⟨s3, o3, n3, c3', rfl, hb3⟩
              rw [HE.out.1]
              have k3 : Below wr.heap.size wr (w3.alloc (.cells (cs s3 (.slice o3 n3 c3')) 26)) := hb3.alloc hb3.size _
              have H3 := Lib.hid (And.intro ((k3.block _ (by omega)).trans HW.out.2.1) k3)
              clear hb3 k3 h
              unfold cs
              go_wp2_with (refine load_guard (.tmp 9) 26 (by rfl) ?_; go_must (refine wpList_load_row rfl 26 (.tmp 9) rfl w2.heap.size rfl 26 (cs s (.slice om bs.length cm)) (0, 0) _ H3.out.1 Try.underlying26 rfl model_size ?_))
              refine (HF.out _ H3.out.2 4 (b + (j : Int)) 42 0 none 0 [] none 0 [] (bys_nil _ _) (fun _ => rfl) small_nil (bys_nil _ _) small_nil).mono ?_
              intro e w4 h
              rcases ch_bool h with ⟨s4, o4, n4, c4', rfl, hb4⟩
              rw [HE.out.2.1]
              have k4 : Below wr.heap.size wr (w4.alloc (.cells (cs s4 (.slice o4 n4 c4')) 26)) := (H3.out.2.trans (hb4.mono H3.out.2.size)).alloc (by have := H3.out.2.size; have := hb4.size; omega) _
              have H4 := Lib.hid (And.intro ((k4.block _ (by omega)).trans HW.out.2.1) k4)
              clear hb4 k4 h
              unfold cs
              go_wp2_with (refine load_guard (.tmp 9) 26 (by rfl) ?_; go_must (refine wpList_load_row rfl 26 (.tmp 9) rfl w2.heap.size rfl 26 (cs s (.slice om bs.length cm)) (0, 0) _ H4.out.1 Try.underlying26 rfl model_size ?_))
              refine (HF.out _ H4.out.2 6 (b + (j : Int)) 0 0 none 0 [] none 0 [] (bys_nil _ _) (fun _ => rfl) small_nil (bys_nil _ _) small_nil).mono ?_
              intro e w5 h
              rcases ch_bool h with ⟨s5, o5, n5, c5', rfl, hb5⟩
              rw [HE.out.2.2]
              have k5 : Below wr.heap.size wr (w5.alloc (.cells (cs s5 (.slice o5 n5 c5')) 26)) := (H4.out.2.trans (hb5.mono H4.out.2.size)).alloc (by have := H4.out.2.size; have := hb5.size; omega) _
              have H5 := Lib.hid k5
              clear hb5 k5 h
              unfold cs
              go_wp2_with fail
              go_roundg (gk - 1)
              case measure => omega
              case rel =>
                exact ⟨j + 1, by omega, rfl, HeldL.keep HW.out.2.2 H5.out, HW.out.1.trans (H5.out.mono HW.out.1.size), Nat.lt_of_lt_of_le hbz H5.out.size⟩

            · skip
              obtain ⟨⟨s, om, cm, bs, base, g2, xs, hm, hrec, hbm, hs, hbs⟩, hbel, hbz⟩ := HJ.out
              have hlt : lost < n := by omega
              have p1 : decide (j < lost) = false := by simp <;> omega
              have p2 : decide (j ≤ lost) = false := by simp <;> omega


              have ha : (applyF s bs 4 (b + (j : Int)) [] 0 (b + (j : Int)) D).isSome = false := by rw [hs, hbs, lost_read hlt hj]; simp <;> omega
              have hb : (applyF s bs 4 (b + (j : Int)) [] 42 0 []).isSome = true := by rw [hs, hbs]; exact lost_not hlt hj
              have hd : (applyF s bs 6 (b + (j : Int)) [] 0 0 []).isSome = false := by rw [hs, hbs, lost_front hlt hj]; simp <;> omega
              have HE := Lib.hid (And.intro ha (And.intro hb hd))
              have HF := Lib.hid (held_calls hrec hs hbs (by omega) (by omega) (by omega) (by omega) (by omega : D.length ≤ 100))
              have HW := Lib.hid (And.intro hbel (And.intro hm (⟨s, om, cm, bs, base, g2, xs, hm, hrec, hbm, hs, hbs⟩ : HeldL wr w2.heap.size b lost n D)))
              have HDW := Lib.hid (bys_keep HD.out.1 hbel)
              clear ha hb hd hrec hs hbs hm hbel HJ
              go_wp2_with (refine load_guard (.tmp 9) 26 (by rfl) ?_; go_must (refine wpList_load_row rfl 26 (.tmp 9) rfl w2.heap.size rfl 26 (cs s (.slice om bs.length cm)) (0, 0) _ HW.out.2.1 Try.underlying26 rfl model_size ?_))
              refine (HF.out wr (Below.refl _ wr) 4 (b + (j : Int)) 0 (b + (j : Int)) none 0 [] od cd D (bys_nil _ _) (fun _ => rfl) small_nil HDW.out HD.out.2.2).mono ?_
              intro e w3 h
              rcases ch_bool h with ⟨s3, o3, n3, c3', rfl, hb3⟩
              rw [HE.out.1]
              have k3 : Below wr.heap.size wr (w3.alloc (.cells (cs s3 (.slice o3 n3 c3')) 26)) := hb3.alloc hb3.size _
              have H3 := Lib.hid (And.intro ((k3.block _ (by omega)).trans HW.out.2.1) k3)
              clear hb3 k3 h
              unfold cs
              go_wp2_with (refine load_guard (.tmp 9) 26 (by rfl) ?_; go_must (refine wpList_load_row rfl 26 (.tmp 9) rfl w2.heap.size rfl 26 (cs s (.slice om bs.length cm)) (0, 0) _ H3.out.1 Try.underlying26 rfl model_size ?_))
              refine (HF.out _ H3.out.2 4 (b + (j : Int)) 42 0 none 0 [] none 0 [] (bys_nil _ _) (fun _ => rfl) small_nil (bys_nil _ _) small_nil).mono ?_
              intro e w4 h
              rcases ch_bool h with ⟨s4, o4, n4, c4', rfl, hb4⟩
              rw [HE.out.2.1]
              have k4 : Below wr.heap.size wr (w4.alloc (.cells (cs s4 (.slice o4 n4 c4')) 26)) := (H3.out.2.trans (hb4.mono H3.out.2.size)).alloc (by have := H3.out.2.size; have := hb4.size; omega) _
              have H4 := Lib.hid (And.intro ((k4.block _ (by omega)).trans HW.out.2.1) k4)
              clear hb4 k4 h
              unfold cs
              go_wp2_with (refine load_guard (.tmp 9) 26 (by rfl) ?_; go_must (refine wpList_load_row rfl 26 (.tmp 9) rfl w2.heap.size rfl 26 (cs s (.slice om bs.length cm)) (0, 0) _ H4.out.1 Try.underlying26 rfl model_size ?_))
              refine (HF.out _ H4.out.2 6 (b + (j : Int)) 0 0 none 0 [] none 0 [] (bys_nil _ _) (fun _ => rfl) small_nil (bys_nil _ _) small_nil).mono ?_
              intro e w5 h
              rcases ch_bool h with ⟨s5, o5, n5, c5', rfl, hb5⟩
              rw [HE.out.2.2]
              have k5 : Below wr.heap.size wr (w5.alloc (.cells (cs s5 (.slice o5 n5 c5')) 26)) := (H4.out.2.trans (hb5.mono H4.out.2.size)).alloc (by have := H4.out.2.size; have := hb5.size; omega) _
              have H5 := Lib.hid k5
              clear hb5 k5 h
              unfold cs
              go_wp2_with fail
              go_roundg (gk - 1)
              case measure => omega
              case rel =>
                exact ⟨j + 1, by omega, rfl, HeldL.keep HW.out.2.2 H5.out, HW.out.1.trans (H5.out.mono HW.out.1.size), Nat.lt_of_lt_of_le hbz H5.out.size⟩

        · go_wp2_with fail
          go_ret
          exact ⟨rfl, HJ.out.2.1⟩
end Go.Proofs.Ytjiehgfamlidnaa.modelLost
