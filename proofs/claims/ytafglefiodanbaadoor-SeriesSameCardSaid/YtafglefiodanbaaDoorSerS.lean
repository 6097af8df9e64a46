/- SeriesSame: n equal numbers take a bit each. By an AI agent. -/
import Derived.Test.YtafglefiodanbaaDoorSerT
namespace Go.Proofs.YtafglefiodanbaaDoor.seriesSame
open Go.ChangeShapes Go.WideShapes Go.ChangeAt Go.RowKit
open Bt
set_option linter.unusedVariables false

theorem info_u64 : (Tryd.prog.info? 39).map (fun i => (i.zero, i.size, i.bytes)) = some (some (.int .u64 0), 1, 8) := by kernel_rfl

theorem getD_rep (n u i : Nat) (h : i < n) : (List.replicate n u).getD i 0 = u := by
  rw [List.getD_eq_getElem?_getD, List.getElem?_replicate, if_pos h]; rfl

/-- Whole numbers as cells. -/
def u64s (us : List Nat) : List Value := us.map fun u : Nat => Value.int .u64 (u : Int)
theorem u64s_of {w : World} {base n u : Nat} {v : Value} (h : w.ownsRow base 39 1 v n (u64s (List.replicate n u))) : ∃ o cap, v = .slice o n cap ∧ U64s w o (List.replicate n u) := by
  rcases h.2 with ⟨h1, h2⟩ | ⟨g, cap, cells, rfl, -⟩
  · refine ⟨none, 0, by rw [h1, h2], fun i hi => absurd hi (by simp; omega)⟩
  · refine ⟨_, cap, rfl, fun i hi => ⟨_, rfl, ?_⟩⟩
    have hi' : i < n := by simpa using hi
    refine h.cells rfl i _ ?_
    rw [getD_rep n u i hi']
    simp [u64s, hi']

theorem enc_len (n u : Nat) : ∀ k, k ≤ n → 0 < k → (encN (List.replicate n u) k).length = 63 + k := by
  intro k
  induction k with
  | zero => intro _ h; omega
  | succ k ih =>
    intro hk _
    unfold encN
    rw [List.length_append]
    by_cases h0 : k = 0
    · subst h0; rw [if_pos rfl, bitsOf_length]; simp [encN]
    · rw [if_neg h0, ih (by omega) (by omega), getD_rep n u k (by omega), getD_rep n u (k - 1) (by omega), Nat.xor_self]
      simp [enc]
      omega

set_option maxRecDepth 100000 in
set_option maxHeartbeats 2000000 in
theorem walk (u : Nat) (n : Int) (w : World) (hu : u < 18446744073709551616) (hT : Tab w) (hg : 1 < w.heap.size) :
    Calls Tryd.prog 5 #[.int .u64 u, .int .i64 n] w fun e w' => e = .returned (.bool true) ∧ Below w.heap.size w w' := by
  have HT := Lib.hid hT
  clear hT
  obtain ⟨i0, hi, hz0, hz1, hz2⟩ := info_parts info_u64
  go_enter Tryd.func5, Tryd.ntmps5
  by_cases h1 : n < 1
  · go_wp2_with (go_at_call 6; go_must (refine (begun_any w HT.out hg).mono ?_; rintro e w1 ⟨rfl, hb⟩; have HB := Lib.hid hb; clear hb))
    go_ret
    exact ⟨rfl, HB.out⟩
  · by_cases h2 : 4096 < n
    · go_wp2_with (go_at_call 6; go_must (refine (begun_any w HT.out hg).mono ?_; rintro e w1 ⟨rfl, hb⟩; have HB := Lib.hid hb; clear hb))
      go_ret
      exact ⟨rfl, HB.out⟩
    · obtain ⟨N, rfl⟩ := Int.eq_ofNat_of_zero_le (show 0 ≤ n by omega)
      have hN1 : 1 ≤ N := by omega
      have hN2 : N ≤ 4096 := by omega
      clear h1 h2
      go_wp2_with (go_at_call 6; go_must (refine (begun_any w HT.out hg).mono ?_; rintro e w1 ⟨rfl, hb⟩; have HB := Lib.hid hb; clear hb))
      go_loopg [5, 6] N (fun g v i wr => ∃ k : Nat, g + k = N ∧ i = .int .i64 (k : Int) ∧ Hid (wr.ownsRow w.heap.size 39 1 v k (u64s (List.replicate k u)) ∧ Below w.heap.size w wr))
      case atStart => exact ⟨0, by omega, rfl, ⟨nil_row _ _ _, HB.out⟩⟩
      case round =>
        obtain ⟨k, hgk, rfl, HR⟩ := hrel
        by_cases hk : k < N
        · go_wp2_with (at_builtin; go_must (refine wpList_append_one _ rfl (.tmp 23) (.tmp 25) 22 rfl w.heap.size 39 i0 (.int .u64 0) 8 Tryd.underlying22 hi hz0 hz1 hz2 rfl _ k _ rfl (HR.out.1.alloc _) ⟨wr.heap.size, 0, none⟩ 1 (.int .u64 u) rfl ?_ rfl ?_ ?_ ?_ ?_))
          · exact cell_one_new _ _ _ 0 _ rfl
          · unfold maxLen; omega
          · omega
          · exact Nat.le_trans HR.out.2.size (by simp)
          · intro g cap1 w2 hown hgr hblk hg
            have HO := Lib.hid hown
            have HB2 := Lib.hid ((HR.out.2.alloc HR.out.2.size _).grown hgr (Nat.le_trans HR.out.2.size (by simp)) (fun b hb => (HR.out.1.lt b hb).1))
            clear hown hgr hblk
            go_wp2_with fail
            go_roundg (gk - 1)
            case measure => omega
            case rel => exact ⟨k + 1, by omega, rfl, by
              refine ⟨?_, HB2.out⟩
              rw [List.replicate_succ']
              simpa [u64s] using HO.out⟩
        · have hkN : k = N := by omega
          subst hkN
          obtain ⟨o, cap, rfl, hus⟩ := u64s_of HR.out.1
          have HUS := Lib.hid (And.intro hus HR.out.2)
          clear hus HR
          go_wp2_with fail
          have O1 := of_any o (List.replicate k u) cap wr HUS.out.1 (by simp; omega)
          rw [List.length_replicate] at O1
          refine O1.mono ?_
          rintro e w2 ⟨v, rfl, hown, hbl⟩
          have hown' : w2.ownsRow wr.heap.size 33 1 v (List.replicate k u).length (f64s (List.replicate k u)) := by rw [List.length_replicate]; exact hown
          obtain ⟨o2, cap2, rfl, hfl⟩ := fls_of hown'
          have H2 := Lib.hid (And.intro hfl (HUS.out.2.trans (hbl.mono HUS.out.2.size)))
          clear hown hown' hfl hbl O1
          rw [List.length_replicate]
          go_wp2_with fail
          have P1 := pack_any o2 (List.replicate k u) cap2 w2 (by intro i; rw [List.getD_eq_getElem?_getD, List.getElem?_replicate]; split <;> simp <;> omega) H2.out.1 (by simp; omega) (HT.out.below H2.out.2 hg) (Nat.lt_of_lt_of_le hg H2.out.2.size)
          rw [List.length_replicate] at P1
          refine P1.mono ?_
          rintro e w3 ⟨v, rfl, hown, hbl⟩
          rw [List.length_replicate, pack_length, enc_len k u k (Nat.le_refl _) (by omega)] at hown
          obtain ⟨g0, cap0, rfl, -⟩ := World.ownsRow.form hown (by have := vnt_length k; omega)
          have H3 := Lib.hid (H2.out.2.trans (hbl.mono H2.out.2.size))
          clear hown hbl P1
          by_cases h128 : k < 128
          · have hv : (vnt k).length = 1 := by unfold vnt; rw [if_pos h128]; rfl
            have hq : (((vnt k).length + (63 + k + 7) / 8 : Nat) : Int) = 9 + ((k : Int) + 6) / 8 := by rw [hv]; omega
            rw [hv]
            rw [hv] at hq
            generalize 1 + (63 + k + 7) / 8 = m at *
            have he : ((m : Int) == 9 + ((k : Int) + 6) / 8) = true := by rw [beq_iff_eq]; exact hq
            clear hq hv
            go_wp2_with fail
            go_ret
            exact ⟨rfl, H3.out⟩
          · have hv : (vnt k).length = 2 := by unfold vnt; rw [if_neg h128]; rfl
            have hq : (((vnt k).length + (63 + k + 7) / 8 : Nat) : Int) = 9 + ((k : Int) + 6) / 8 + 1 := by rw [hv]; omega
            rw [hv]
            rw [hv] at hq
            generalize 2 + (63 + k + 7) / 8 = m at *
            have he : ((m : Int) == 9 + ((k : Int) + 6) / 8 + 1) = true := by rw [beq_iff_eq]; exact hq
            clear hq hv
            go_wp2_with fail
            go_ret
            exact ⟨rfl, H3.out⟩

/-! ### the row -/
theorem contract (H : Type) (enc : TypeId × Value → H) (W : World) (base : Nat) (args : Array Value) (ds gs : List (DataW H)) (before : List MemPlace)
    (hval : ∀ (j : Nat) t v, Tryd.f5.params[j]? = some t → args[j]? = some v → Value.okWide Tryd.prog W .any base t v)
    (hW : DataW.Whole enc Tryd.prog Tryd.f5.params.toList Rows.seriesSameSpec.vars false W args.toList ds gs before) (hL : laidMetH Tryd.prog Rows.seriesSameRow.laid W) :
    Calls Tryd.prog 5 args W fun e W' => ∃ v, e = .returned v ∧ Rows.seriesSameSpec.post enc Tryd.prog Tryd.f5 false true false false W args v W' := by
  have hW' := hW
  have hT := table hL
  obtain ⟨p, q, hA0, hV, rfl, hfz, hnd⟩ := hW
  have hA : DataW.TrodAll enc Tryd.prog W 0 (fun _ => true) true Tryd.f5.params.toList args.toList ds p := hA0
  rw [Tryd.params5] at hA hval
  obtain ⟨v0, v1, d0, d1, p0, p1, rfl, rfl, rfl, h0, h1⟩ := trodAll_two hA
  obtain ⟨a0, rfl, rfl, rfl, w0⟩ := open_int Tryd.underlying39 (hval 0 39 v0 rfl rfl) h0
  obtain ⟨a1, rfl, rfl, rfl, w1⟩ := open_int Tryd.underlying3 (hval 1 3 v1 rfl rfl) h1
  have b0 : 0 ≤ a0 ∧ a0 ≤ 18446744073709551615 := by simpa [Lit.wf, IntKind.min, IntKind.max, IntKind.signed, IntKind.bits] using w0
  obtain ⟨u, rfl⟩ := Int.eq_ofNat_of_zero_le b0.1
  refine (walk u a1 W (by omega) hT (tab_lt hT)).mono fun e W' ⟨he, hk⟩ => ?_
  subst he
  exact ⟨_, rfl, law_post (by kernel_rfl) (T := 4) (hts_of (by kernel_rfl)) hW' rfl rfl rfl Tryd.underlying4 hk⟩

theorem laid_met (os : Os) : laidMet Tryd.prog Rows.seriesSameRow.laid ((laidWorld os).forCall (fun _ _ => 0) ⟨#[], #[.int .u64 0, .int .i64 0], []⟩).memory :=
  laidMet_of_run' 8 (by kernel_rfl) (by kernel_rfl)
theorem reads (os : Os) {H : Type} (enc : TypeId × Value → H) : ∃ places, DataW.whole enc Tryd.prog ((laidWorld os).forCall (fun _ _ => 0) ⟨#[], #[.int .u64 0, .int .i64 0], []⟩).memory Tryd.f5.params.toList Rows.seriesSameSpec.vars false #[Value.int .u64 0, Value.int .i64 0].toList 8 = some ([.lit (.int .u64 0), .lit (.int .i64 0)], [], places) :=
  ⟨[], by kernel_rfl⟩

set_option maxRecDepth 100000 in
theorem lifted (os : Os) (started : os.Started) (H : Type) (enc : TypeId × Value → H) (F : Stop.Interp) :
    ReturnsInHanded {} Tryd.checked os 5 .any ((OpenSpec.ofChange Rows.seriesSameSpec).preRow enc Tryd.prog Tryd.f5 Rows.seriesSameRow.domain false Rows.seriesSameRow.laid) (((OpenSpec.ofChange Rows.seriesSameSpec).at F).post enc Tryd.prog Tryd.f5 false true false false) := by
  obtain ⟨places, hx⟩ := reads os enc
  refine returnsInHanded_of_row (C := Tryd.checked) (s := OpenSpec.ofChange Rows.seriesSameSpec) own started (by kernel_rfl) Tryd.func5
    (witness_row_at (enc := enc) (C := Tryd.checked) false (laidWorld os) #[.int .u64 0, .int .i64 0] rfl (by kernel_rfl) (by kernel_rfl) (by kernel_rfl)
      (OpenSpec.preRow_of_cond 8 hx (by kernel_rfl) (fun k hk => by cases hk) (by kernel_rfl) (laid_met os))) ?_
  intro W base args ds gs before hval hW _ _ _ hL _ _
  exact contract H enc W base args ds gs before hval hW hL

theorem said : Rows.SeriesSameSaid :=
  OpenClaim.holds_of_cond 5 Tryd.f5 rfl rfl rfl rfl rfl rfl rfl ⟨rfl, rfl, rfl, rfl, rfl⟩ rfl rfl rfl rfl rfl (by kernel_rfl) Tryd.func5 (by kernel_rfl)
    (of_decide_eq_true (by kernel_rfl)) (by unfold Func.isWrapper; first | (rw [if_pos (by decide +kernel)]; kernel_rfl) | (rw [if_neg (by decide +kernel)]; exact ⟨rfl, rfl⟩))
    (fun os started H enc _ F => by rw [OpenClaim.pre_eq_preRow]; exact lifted os started H enc F)

theorem plain (f : FuncId) (fn : Func) (hf : Tryd.pinned.checked.prog.funcNamed "flume/flumelaw5.SeriesSame" = some f) (hfn : Tryd.pinned.checked.prog.funcs[f]? = some fn) :
    false = Tryd.pinned.checked.prog.looks [] ∧ ∀ (j : Nat) t, fn.params[j]? = some t → Tryd.pinned.checked.prog.wantsStandIn t = false := by
  obtain rfl : f = 5 := Option.some.inj ((show Tryd.prog.funcNamed "flume/flumelaw5.SeriesSame" = some 5 by kernel_rfl).symm.trans hf) |>.symm
  obtain rfl : fn = Tryd.f5 := (Option.some.inj (Tryd.func5.symm.trans hfn)).symm
  refine ⟨by kernel_rfl, fun j t ht => ?_⟩
  rw [Tryd.params5] at ht
  have hm := Array.mem_of_getElem? ht
  simp only [List.mem_toArray, List.mem_cons, List.not_mem_nil, or_false] at hm
  rcases hm with rfl | rfl
  · exact (show Tryd.prog.wantsStandIn 39 = false by kernel_rfl)
  · exact (show Tryd.prog.wantsStandIn 3 = false by kernel_rfl)

theorem proved : Rows.SeriesSameCardSaid :=
  Claim7.holds_tied_plain_at .later [] _ _ _ _ said (fun _ h => by cases h) (by kernel_rfl) (fun _ h => by cases h) seriesSame_row_tie rfl ⟨rfl, rfl⟩ (by kernel_rfl) rfl plain (by kernel_rfl)
end Go.Proofs.YtafglefiodanbaaDoor.seriesSame
