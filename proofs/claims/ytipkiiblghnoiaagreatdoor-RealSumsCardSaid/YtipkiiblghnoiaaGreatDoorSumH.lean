/- Package real: Sum, its walk. By an AI agent. -/
import Derived.Test.YtipkiiblghnoiaaGreatDoorSumG
namespace Go.Proofs.YtipkiiblghnoiaaGreatDoor.Sm
open Go.ChangeShapes Go.WideShapes Go.ChangeAt Go.RowKit
set_option linter.unusedVariables false
set_option linter.unusedSimpArgs false

/-- Behind k numbers. -/
structure SK (us : List Nat) (b1 b2 : Nat) (w0 wx : World) (k : Nat) (f : Nat → Nat) : Prop where
  ex : ExAt wx b1 f
  sn : SnAt wx b2 (cntK us k)
  lt : ∀ j, f j < 18446744073709551616
  keep : Keep (fun x => x = b1 ∨ x = b2) w0 wx
  mod : Mod (V36 f) (sumK us k)

theorem or_sign (x : Nat) (h : x < 9223372036854775808) : bits BinOp.or IntKind.u64 (x : Int) 9223372036854775808 = ((x + 9223372036854775808 : Nat) : Int) := by
  have h1 : (BitVec.ofInt 64 (x : Int)).toNat = x := by rw [BitVec.ofInt_natCast, BitVec.toNat_ofNat]; omega
  have h2 : (BitVec.ofInt 64 9223372036854775808).toNat = 2 ^ 63 := by decide
  show IntKind.u64.wrap ((BitVec.ofInt 64 (x : Int) ||| BitVec.ofInt 64 9223372036854775808).toNat : Int) = _
  have h3 : x ||| 2 ^ 63 = x + 2 ^ 63 := by
    rw [Nat.or_comm, Nat.add_comm]
    have := Nat.two_pow_add_eq_or_of_lt (i := 63) (b := x) (by omega) 1
    simpa using this.symm
  rw [BitVec.toNat_or, h1, h2, h3, IntKind.wrap_u64]
  omega
theorem kind_not {u : Nat} {b : Bool} (h : decide (kind u = 4) = b) : (kind u = 4 ↔ b = true) := by rw [← h, decide_eq_true_eq]

set_option maxRecDepth 100000 in
set_option maxHeartbeats 8000000 in
theorem sum_any (o : Option Addr) (us : List Nat) (cap : Nat) (w : World) (hF : Fls w o us) (hu : ∀ i, us.getD i 0 < 18446744073709551616) (hn : us.length ≤ 1000000000) :
    Calls Tryz.prog 15 #[.slice o us.length cap] w fun e w' => e = .returned (.float .f64 (sumW us)) ∧ Below w.heap.size w w' := by
  have HF := Lib.hid (And.intro hF hu)
  clear hF hu
  have HSW : RowKit.Hid (sumW us = if 0 < (cntK us us.length).n ∨ (0 < (cntK us us.length).l ∧ 0 < (cntK us us.length).g) then 9221120237041090561 else if 0 < (cntK us us.length).l then 18442240474082181120 else if 0 < (cntK us us.length).g then 9218868437227405312 else if (cntK us us.length).o = 0 ∧ 0 < (cntK us us.length).m then 9223372036854775808 else sgnR (sumK us us.length)) := Lib.hid rfl
  generalize hsw : sumW us = sw at *
  clear hsw
  refine (show ∀ Q : Ending → World → Prop, (∀ e w', (e = .returned (.float .f64 sw) ∧ Below w.heap.size w w') → Q e w') → Calls Tryz.prog 15 #[.slice o us.length cap] w Q from ?_) _ (fun _ _ h => h)
  intro Q hQ
  have HQ := Lib.hid hQ
  clear hQ
  generalize hl : us.length = n at *
  have HL := Lib.hid hl
  clear hl
  go_enter Tryz.func15, Tryz.ntmps15
  go_wp2_with fail
  have hw1 : ∃ W, W = ((w.alloc (.cells Z36 58)).alloc (.cells #[.int .i64 0, .int .i64 0, .int .i64 0, .int .i64 0, .int .i64 0] 60)) := ⟨_, rfl⟩
  obtain ⟨W1, hW1⟩ := hw1
  have hx1 : ExAt W1 w.heap.size (fun _ => 0) := by rw [hW1, z36]; exact blk_alloc (blk_new w _) _
  have hs1 : SnAt W1 (w.heap.size + 1) ⟨0, 0, 0, 0, 0⟩ := by rw [hW1]; exact blk_new_at _ _ (by simp)
  have hk1 : Below w.heap.size w W1 := by rw [hW1]; exact ((Below.refl _ w).alloc (Nat.le_refl _) _).alloc (by simp) _
  have hz1 : W1.heap.size = w.heap.size + 2 := by rw [hW1]; simp
  unfold Z36 at hW1
  rw [← hW1]
  clear hW1
  have H1 := Lib.hid (And.intro hx1 (And.intro hs1 (And.intro hk1 hz1)))
  clear hx1 hs1 hk1 hz1
  go_loopg [11] n (fun gq s11 wx => ∃ (k : Nat) (f : Nat → Nat), gq + k = n ∧ s11 = .int .i64 (k : Int) ∧ Hid (SK us w.heap.size (w.heap.size + 1) W1 wx k f))
  case atStart =>
    refine ⟨0, fun _ => 0, by omega, rfl, H1.out.1, H1.out.2.1, fun _ => (by decide : (0 : Nat) < 18446744073709551616), Keep.refl _ _, 0, ?_⟩
    have : V36 (fun _ => 0) = 0 := wv_zero _ _
    rw [this, Int.zero_mul]
    rfl
  case round =>
    obtain ⟨k, f, hgk, rfl, HK⟩ := hrel
    have hlw := H1.out.2.2.1.trans (HK.out.keep.below H1.out.2.2.1.size (fun x hx => by omega))
    have HLW := Lib.hid hlw
    clear hlw
    by_cases hk : k < n
    · have hk' : k < us.length := by rw [HL.out]; exact hk
      obtain ⟨ad, rfl, c0'⟩ := HF.out.1 k hk'
      have c0 := (HLW.out.cell (cell_in c0')).trans c0'
      have HU := Lib.hid (HF.out.2 k)
      have hfew : (cntK us k).few 1000000000 := by
        have := cntK_few us k (by omega)
        obtain ⟨a1, a2, a3, a4, a5⟩ := this
        exact ⟨by omega, by omega, by omega, by omega, by omega⟩
      have HCNT := Lib.hid (count_any HK.out.sn hfew (Nat.le_refl _) (us.getD k 0) HU.out)
      have hcs := cntK_succ hk'
      have hss := sumK_succ hk'
      have HN := Lib.hid (And.intro hcs hss)
      clear hcs hss hfew c0' hk'
      generalize us.getD k 0 = u at *
      rcases hkd : decide (kind u = 4) with _ | _
      · rw [hkd] at HCNT
        have hk4 : ¬ kind u = 4 := of_decide_eq_false hkd
        have hst : sumK us (k + 1) = sumK us k := by rw [HN.out.2]; unfold sumStep; rw [if_neg hk4]
        have HST := Lib.hid hst
        clear hkd hk4 hst
        go_wp2_with (go_at_call 43
                     refine HCNT.out.mono ?_
                     rintro e w3 ⟨rfl, h3⟩
                     have H3 := Lib.hid h3.out
                     clear h3)
        go_roundg (gk - 1)
        all_goals first | omega | skip
        case rel =>
          refine ⟨k + 1, f, by omega, rfl, H3.out.2.same HK.out.ex (by omega), ?_, HK.out.lt, HK.out.keep.trans (H3.out.2.mono (fun x _ hx => Or.inr hx)), ?_⟩
          · rw [HN.out.1]; exact H3.out.1
          · rw [HST.out]; exact HK.out.mod
      · rw [hkd] at HCNT
        have hk4 : kind u = 4 := of_decide_eq_true hkd
        have hst : sumK us (k + 1) = sumK us k + fin u := by rw [HN.out.2]; unfold sumStep; rw [if_pos hk4]
        have HST := Lib.hid (And.intro hst hk4)
        clear hkd hk4 hst
        go_wp2_with (first
          | (go_at_call 43
             refine HCNT.out.mono ?_
             rintro e w3 ⟨rfl, h3⟩
             have H3 := Lib.hid h3.out
             have HADD := Lib.hid (add_any (H3.out.2.same HK.out.ex (by omega)) HK.out.lt u HU.out (kind4 HU.out HST.out.2))
             clear h3)
          | (go_at_call 44
             refine HADD.out.mono ?_
             rintro e w4 ⟨rfl, h4⟩
             have H4 := Lib.hid h4.out
             clear h4))
        go_roundg (gk - 1)
        all_goals first | omega | skip
        case rel =>
          obtain ⟨f', c, a1, a2, a3, a4, a5⟩ := H4.out
          refine ⟨k + 1, f', by omega, rfl, a1, ?_, a2, (HK.out.keep.trans (H3.out.2.mono (fun x _ hx => Or.inr hx))).trans (a4.mono (fun x _ hx => Or.inl hx)), ?_⟩
          · rw [HN.out.1]; exact a4.same H3.out.1 (by omega)
          · rw [HST.out.1]; exact mod_add HK.out.mod rfl a5
    · obtain rfl : k = n := by omega
      have hfew : (cntK us k).few k := by rw [← HL.out]; exact cntK_few us _ (Nat.le_refl _)
      have hsn := HK.out.sn
      have c0 : wr.cell? ⟨w.heap.size + 1, 0, none⟩ = some (.int .i64 ((cntK us k).n : Int)) := blk_cell hsn 0
      have c1 : wr.cell? ⟨w.heap.size + 1, 1, none⟩ = some (.int .i64 ((cntK us k).l : Int)) := blk_cell hsn 1
      have c2 : wr.cell? ⟨w.heap.size + 1, 2, none⟩ = some (.int .i64 ((cntK us k).g : Int)) := blk_cell hsn 2
      have c3 : wr.cell? ⟨w.heap.size + 1, 3, none⟩ = some (.int .i64 ((cntK us k).o : Int)) := blk_cell hsn 3
      have c4 : wr.cell? ⟨w.heap.size + 1, 4, none⟩ = some (.int .i64 ((cntK us k).m : Int)) := blk_cell hsn 4
      have HSB := Lib.hid (sum_abs (us := us) HF.out.2 k (by rw [HL.out]; exact Nat.le_refl _))
      clear hsn hfew
      generalize (cntK us k).n = cn at *
      generalize (cntK us k).l = cl at *
      generalize (cntK us k).g = cg at *
      generalize (cntK us k).o = co at *
      generalize (cntK us k).m = cm at *
      by_cases h1 : 0 < cn
      · have p_cn : decide ((cn : Int) > 0) = true := by rw [decide_eq_true_eq]; omega
        have q_cn : decide (0 < cn) = true := by rw [decide_eq_true_eq]; omega
        have hv : sw = 9221120237041090561 := by
          have h := HSW.out
          rw [if_pos (Or.inl h1)] at h
          exact h
        have HV := Lib.hid hv
        clear hv
        go_wp2_with (go_at_call 45
                     refine (none_any _).mono ?_
                     rintro e w3 ⟨rfl, rfl⟩)
        exact HQ.out _ _ ⟨by rw [HV.out]; rfl, HLW.out⟩
      · have p_cn : decide ((cn : Int) > 0) = false := by rw [decide_eq_false_iff_not]; omega
        have q_cn : decide (0 < cn) = false := by rw [decide_eq_false_iff_not]; omega
        by_cases h2 : 0 < cl
        · have p_cl : decide ((cl : Int) > 0) = true := by rw [decide_eq_true_eq]; omega
          have q_cl : decide (0 < cl) = true := by rw [decide_eq_true_eq]; omega
          by_cases h3 : 0 < cg
          · have p_cg : decide ((cg : Int) > 0) = true := by rw [decide_eq_true_eq]; omega
            have q_cg : decide (0 < cg) = true := by rw [decide_eq_true_eq]; omega
            have hv : sw = 9221120237041090561 := by
              have h := HSW.out
              rw [if_pos (Or.inr ⟨h2, h3⟩)] at h
              exact h
            have HV := Lib.hid hv
            clear hv
            go_wp2_with (go_at_call 45
                         refine (none_any _).mono ?_
                         rintro e w3 ⟨rfl, rfl⟩)
            exact HQ.out _ _ ⟨by rw [HV.out]; rfl, HLW.out⟩
          · have p_cg : decide ((cg : Int) > 0) = false := by rw [decide_eq_false_iff_not]; omega
            have q_cg : decide (0 < cg) = false := by rw [decide_eq_false_iff_not]; omega
            have hv : sw = 18442240474082181120 := by
              have h := HSW.out
              rw [if_neg (show ¬ (0 < cn ∨ (0 < cl ∧ 0 < cg)) by omega), if_pos h2] at h
              exact h
            have HV := Lib.hid hv
            clear hv
            go_wp2_with (go_at_call 46
                         refine (inf_down _).mono ?_
                         rintro e w3 ⟨rfl, rfl⟩)
            exact HQ.out _ _ ⟨by rw [HV.out]; rfl, HLW.out⟩
        · have p_cl : decide ((cl : Int) > 0) = false := by rw [decide_eq_false_iff_not]; omega
          have q_cl : decide (0 < cl) = false := by rw [decide_eq_false_iff_not]; omega
          by_cases h3 : 0 < cg
          · have p_cg : decide ((cg : Int) > 0) = true := by rw [decide_eq_true_eq]; omega
            have q_cg : decide (0 < cg) = true := by rw [decide_eq_true_eq]; omega
            have hv : sw = 9218868437227405312 := by
              have h := HSW.out
              rw [if_neg (show ¬ (0 < cn ∨ (0 < cl ∧ 0 < cg)) by omega), if_neg h2, if_pos h3] at h
              exact h
            have HV := Lib.hid hv
            clear hv
            go_wp2_with (go_at_call 46
                         refine (inf_up _).mono ?_
                         rintro e w3 ⟨rfl, rfl⟩)
            exact HQ.out _ _ ⟨by rw [HV.out]; rfl, HLW.out⟩
          · have p_cg : decide ((cg : Int) > 0) = false := by rw [decide_eq_false_iff_not]; omega
            have q_cg : decide (0 < cg) = false := by rw [decide_eq_false_iff_not]; omega
            by_cases h4 : co = 0
            · have p_co : ((co : Int) == 0) = true := by rw [beq_iff_eq]; omega
              have q_co : (co == 0) = true := by rw [beq_iff_eq]; omega
              by_cases h5 : 0 < cm
              · have p_cm : decide ((cm : Int) > 0) = true := by rw [decide_eq_true_eq]; omega
                have q_cm : decide (0 < cm) = true := by rw [decide_eq_true_eq]; omega
                have hv : sw = 9223372036854775808 := by
                  have h := HSW.out
                  rw [if_neg (show ¬ (0 < cn ∨ (0 < cl ∧ 0 < cg)) by omega), if_neg h2, if_neg h3, if_pos ⟨h4, h5⟩] at h
                  exact h
                have HV := Lib.hid hv
                clear hv
                go_wp2_with (go_at_call 39
                             refine (sign_zero _).mono ?_
                             rintro e w3 ⟨rfl, rfl⟩)
                exact HQ.out _ _ ⟨by rw [HV.out]; rfl, HLW.out⟩
              · have p_cm : decide ((cm : Int) > 0) = false := by rw [decide_eq_false_iff_not]; omega
                have q_cm : decide (0 < cm) = false := by rw [decide_eq_false_iff_not]; omega
                have hv : sw = sgnR (sumK us k) := by
                  have h := HSW.out
                  rw [if_neg (show ¬ (0 < cn ∨ (0 < cl ∧ 0 < cg)) by omega), if_neg h2, if_neg h3, if_neg (fun h => h5 h.2)] at h
                  exact h
                have HV := Lib.hid hv
                have HSZ := Lib.hid (size_any HK.out.ex HK.out.lt)
                clear hv
                go_wp2_with (first
                  | (go_at_call 47
                     refine HSZ.out.mono ?_
                     intro e w3 h3
                     obtain ⟨g, rfl, hg, hb3⟩ := h3
                     have H3 := Lib.hid (And.intro hg hb3)
                     have hbb := blk_new w3 (.cells Z36 58)
                     unfold Z36 at hbb
                     have HBB := Lib.hid hbb
                     clear hg hb3 hbb)
                  | (refine store_guard (.tmp 7) (.tmp 55) 58 (by rfl) ?_
                     go_must (refine wpList_store_row rfl 58 (.tmp 7) (.tmp 55) rfl w3.heap.size (wA 36 g) rfl rfl 58 _ HBB.out (by rw [ex_size, wA_size]) (by rw [wA_size]; rfl) (wA_all _ _) ?_)))
                have hw7 : ∃ W, W = ((w3.alloc (.cells Z36 58)).setRow w3.heap.size (wA 36 g)) := ⟨_, rfl⟩
                obtain ⟨W7, hW7⟩ := hw7
                have hx7 : ExAt W7 w3.heap.size g := by rw [hW7]; exact setRow_heap _ _ _ _ _ _ (blk_new w3 _)
                have hk7 : Below w3.heap.size w3 W7 := by
                  rw [hW7]
                  exact ((Below.refl _ w3).alloc (Nat.le_refl _) _).trans (((Keep.setRow (bs := (· = w3.heap.size)) (Keep.refl _ (w3.alloc (.cells Z36 58))) (Or.inl rfl) (wA 36 g))).below (by simp) (fun x hx => by omega))
                have hf7 : ExAt W7 w.heap.size f := (hk7.block _ (by have := lt_of_block HK.out.ex; have := H3.out.2.size; omega)).trans ((H3.out.2.block _ (lt_of_block HK.out.ex)).trans HK.out.ex)
                have hlw7 : Below w.heap.size w W7 := HLW.out.trans ((H3.out.2.trans (hk7.mono H3.out.2.size)).mono HLW.out.size)
                unfold Z36 at hW7
                rw [← hW7]
                clear hW7
                obtain ⟨hr1, hr2⟩ := mod_read HK.out.lt HK.out.mod (Nat.lt_of_le_of_lt HSB.out (big_lt hn)) H3.out.1
                have HNR := Lib.hid (nearest_any hx7 H3.out.1.1)
                rw [hr2] at HNR
                have HBE := Lib.hid (below_any hf7)
                have H7 := Lib.hid hlw7
                have hrl := roundB_lt (sumK us k).natAbs
                have hor := or_sign _ hrl
                have HOR := Lib.hid hor
                clear hx7 hk7 hf7 hlw7 hr2 hor
                by_cases hsn : sumK us k < 0
                · rw [decide_eq_true (hr1.1 hsn)] at HBE
                  have hv2 : sw = roundB (sumK us k).natAbs + 9223372036854775808 := by rw [HV.out]; unfold sgnR; rw [if_pos hsn]
                  have HV2 := Lib.hid hv2
                  clear hr1 hsn hv2
                  generalize roundB (sumK us k).natAbs = rb at *
                  have ext := ext_from
                  go_wp2_with (first
                    | (go_at_call 48
                       refine HNR.out.mono ?_
                       rintro e w8 ⟨rfl, rfl⟩)
                    | (go_at_call 49
                       refine HBE.out.mono ?_
                       rintro e w9 ⟨rfl, rfl⟩))
                  exact HQ.out _ _ ⟨by rw [HV2.out]; show Ending.returned (Value.float .f64 (Int.toNat _)) = _; rw [HOR.out]; rfl, H7.out⟩
                · rw [decide_eq_false (fun h => hsn (hr1.2 h))] at HBE
                  have hv2 : sw = roundB (sumK us k).natAbs := by rw [HV.out]; unfold sgnR; rw [if_neg hsn]
                  have HV2 := Lib.hid hv2
                  clear hr1 hsn hv2
                  generalize roundB (sumK us k).natAbs = rb at *
                  have ext := ext_from
                  go_wp2_with (first
                    | (go_at_call 48
                       refine HNR.out.mono ?_
                       rintro e w8 ⟨rfl, rfl⟩)
                    | (go_at_call 49
                       refine HBE.out.mono ?_
                       rintro e w9 ⟨rfl, rfl⟩))
                  exact HQ.out _ _ ⟨by rw [HV2.out]; rfl, H7.out⟩
            · have p_co : ((co : Int) == 0) = false := by rw [beq_eq_false_iff_ne]; omega
              have q_co : (co == 0) = false := by rw [beq_eq_false_iff_ne]; omega
              have hv : sw = sgnR (sumK us k) := by
                have h := HSW.out
                rw [if_neg (show ¬ (0 < cn ∨ (0 < cl ∧ 0 < cg)) by omega), if_neg h2, if_neg h3, if_neg (fun h => h4 h.1)] at h
                exact h
              have HV := Lib.hid hv
              have HSZ := Lib.hid (size_any HK.out.ex HK.out.lt)
              clear hv
              go_wp2_with (first
                | (go_at_call 47
                   refine HSZ.out.mono ?_
                   intro e w3 h3
                   obtain ⟨g, rfl, hg, hb3⟩ := h3
                   have H3 := Lib.hid (And.intro hg hb3)
                   have hbb := blk_new w3 (.cells Z36 58)
                   unfold Z36 at hbb
                   have HBB := Lib.hid hbb
                   clear hg hb3 hbb)
                | (refine store_guard (.tmp 7) (.tmp 55) 58 (by rfl) ?_
                   go_must (refine wpList_store_row rfl 58 (.tmp 7) (.tmp 55) rfl w3.heap.size (wA 36 g) rfl rfl 58 _ HBB.out (by rw [ex_size, wA_size]) (by rw [wA_size]; rfl) (wA_all _ _) ?_)))
              have hw7 : ∃ W, W = ((w3.alloc (.cells Z36 58)).setRow w3.heap.size (wA 36 g)) := ⟨_, rfl⟩
              obtain ⟨W7, hW7⟩ := hw7
              have hx7 : ExAt W7 w3.heap.size g := by rw [hW7]; exact setRow_heap _ _ _ _ _ _ (blk_new w3 _)
              have hk7 : Below w3.heap.size w3 W7 := by
                rw [hW7]
                exact ((Below.refl _ w3).alloc (Nat.le_refl _) _).trans (((Keep.setRow (bs := (· = w3.heap.size)) (Keep.refl _ (w3.alloc (.cells Z36 58))) (Or.inl rfl) (wA 36 g))).below (by simp) (fun x hx => by omega))
              have hf7 : ExAt W7 w.heap.size f := (hk7.block _ (by have := lt_of_block HK.out.ex; have := H3.out.2.size; omega)).trans ((H3.out.2.block _ (lt_of_block HK.out.ex)).trans HK.out.ex)
              have hlw7 : Below w.heap.size w W7 := HLW.out.trans ((H3.out.2.trans (hk7.mono H3.out.2.size)).mono HLW.out.size)
              unfold Z36 at hW7
              rw [← hW7]
              clear hW7
              obtain ⟨hr1, hr2⟩ := mod_read HK.out.lt HK.out.mod (Nat.lt_of_le_of_lt HSB.out (big_lt hn)) H3.out.1
              have HNR := Lib.hid (nearest_any hx7 H3.out.1.1)
              rw [hr2] at HNR
              have HBE := Lib.hid (below_any hf7)
              have H7 := Lib.hid hlw7
              have hrl := roundB_lt (sumK us k).natAbs
              have hor := or_sign _ hrl
              have HOR := Lib.hid hor
              clear hx7 hk7 hf7 hlw7 hr2 hor
              by_cases hsn : sumK us k < 0
              · rw [decide_eq_true (hr1.1 hsn)] at HBE
                have hv2 : sw = roundB (sumK us k).natAbs + 9223372036854775808 := by rw [HV.out]; unfold sgnR; rw [if_pos hsn]
                have HV2 := Lib.hid hv2
                clear hr1 hsn hv2
                generalize roundB (sumK us k).natAbs = rb at *
                have ext := ext_from
                go_wp2_with (first
                  | (go_at_call 48
                     refine HNR.out.mono ?_
                     rintro e w8 ⟨rfl, rfl⟩)
                  | (go_at_call 49
                     refine HBE.out.mono ?_
                     rintro e w9 ⟨rfl, rfl⟩))
                exact HQ.out _ _ ⟨by rw [HV2.out]; show Ending.returned (Value.float .f64 (Int.toNat _)) = _; rw [HOR.out]; rfl, H7.out⟩
              · rw [decide_eq_false (fun h => hsn (hr1.2 h))] at HBE
                have hv2 : sw = roundB (sumK us k).natAbs := by rw [HV.out]; unfold sgnR; rw [if_neg hsn]
                have HV2 := Lib.hid hv2
                clear hr1 hsn hv2
                generalize roundB (sumK us k).natAbs = rb at *
                have ext := ext_from
                go_wp2_with (first
                  | (go_at_call 48
                     refine HNR.out.mono ?_
                     rintro e w8 ⟨rfl, rfl⟩)
                  | (go_at_call 49
                     refine HBE.out.mono ?_
                     rintro e w9 ⟨rfl, rfl⟩))
                exact HQ.out _ _ ⟨by rw [HV2.out]; rfl, H7.out⟩
end Go.Proofs.YtipkiiblghnoiaaGreatDoor.Sm
