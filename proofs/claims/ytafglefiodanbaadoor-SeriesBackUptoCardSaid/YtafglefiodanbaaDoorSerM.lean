/- SeriesBack: packed and unpacked, whatever stands behind. By an AI agent. -/
import Derived.Test.YtafglefiodanbaaDoorSerT
import Derived.Test.YtafglefiodanbaaDoorSerP
import Derived.Test.YtafglefiodanbaaDoorApp
import Derived.Test.YtafglefiodanbaaDoorOpen
namespace Go.Proofs.YtafglefiodanbaaDoor.seriesBack
open Go.ChangeShapes Go.WideShapes Go.ChangeAt Go.RowKit
open Bt
set_option linter.unusedVariables false

theorem u64s_keep {w w' : World} {o : Option Addr} {us : List Nat} (h : U64s w o us) (k : Below w.heap.size w w') : U64s w' o us := by
  intro i hi
  obtain ⟨ad, ho, hc⟩ := h i hi
  exact ⟨ad, ho, (k.cell (cell_in hc)).trans hc⟩
theorem bys_keep {w w' : World} {o : Option Addr} {B : List Nat} (h : Bys w o B) (k : Below w.heap.size w w') : Bys w' o B := by
  intro i hi
  obtain ⟨ad, ho, hc⟩ := h i hi
  exact ⟨ad, ho, (k.cell (cell_in hc)).trans hc⟩
theorem fls_keep {w w' : World} {o : Option Addr} {us : List Nat} (h : Fls w o us) (k : Below w.heap.size w w') : Fls w' o us := by
  intro i hi
  obtain ⟨ad, ho, hc⟩ := h i hi
  exact ⟨ad, ho, (k.cell (cell_in hc)).trans hc⟩
theorem fls_keep' {bs : Nat → Prop} {w w' : World} {o : Option Addr} {us : List Nat} (h : Fls w o us) (k : Keep bs w w') (hn : ∀ i ad, i < us.length → o = some ad → ¬ bs ad.block) : Fls w' o us := by
  intro i hi
  obtain ⟨ad, ho, hc⟩ := h i hi
  exact ⟨ad, ho, (k.cell (cell_in hc) (by rw [addr_add_block]; exact hn i ad hi ho)).trans hc⟩
theorem u8_bytes {B : List Nat} {ob : Option Addr} {w : World} (h : Bys w ob B) : ∀ j u, (u8s B)[j]? = some u → ∃ ad, ob = some ad ∧ w.cell? (ad.add j) = some u := by
  intro j u hj
  have hl : j < B.length := by
    have := (List.getElem?_eq_some_iff.1 hj).1
    rwa [u8s_length] at this
  rw [u8s_get B j hl] at hj
  cases hj
  exact h j hl
theorem u8_one {B : List Nat} : ∀ u ∈ u8s B, u.oneCell' = true := by
  intro u hu
  obtain ⟨n, -, rfl⟩ := List.mem_map.1 hu
  rfl

set_option maxRecDepth 100000 in
set_option maxHeartbeats 2000000 in
theorem pack_many (o : Option Addr) (n cap : Nat) (w : World) (hn : 4096 < n) (hn2 : n ≤ 2000000) :
    Calls Tryd.prog 8 #[.slice o n cap] w fun e w' => e = .returned (.tuple #[.slice none 0 0, .int .i64 9]) ∧ w = w' := by
  go_enter Tryd.func8, Tryd.ntmps8
  go_wp2_with fail
  go_ret2
  exact ⟨rfl, rfl⟩

set_option maxRecDepth 100000 in
set_option maxHeartbeats 4000000 in
theorem walk (o : Option Addr) (us : List Nat) (cap : Nat) (ob : Option Addr) (Z : List Nat) (cb : Nat) (w : World) (hU : U64s w o us) (hu : ∀ i, us.getD i 0 < 18446744073709551616) (hn : us.length ≤ 2000000)
    (hZ : Bys w ob Z) (hz : ∀ i, Z.getD i 0 < 256) (hzn : Z.length ≤ 2000000) (hcb : ob = none → cb = 0) (hT : Tab w) (hg : 1 < w.heap.size) :
    Calls Tryd.prog 3 #[.slice o us.length cap, .slice ob Z.length cb] w fun e w' => e = .returned (.bool true) ∧ Below w.heap.size w w' := by
  obtain ⟨i0, hi, hz0, hz1, hz2⟩ := info_parts info_u8
  have HUS := Lib.hid (And.intro hU hu)
  have HZ := Lib.hid (And.intro hZ (And.intro hz hcb))
  have HT := Lib.hid hT
  clear hU hu hZ hz hcb hT
  go_enter Tryd.func3, Tryd.ntmps3
  go_wp2_with (go_at_call 6; go_must (refine (begun_any w HT.out hg).mono ?_; rintro e w1 ⟨rfl, hb⟩; have HB := Lib.hid hb; clear hb))
  have h1 : U64s w1 o us := u64s_keep HUS.out.1 HB.out
  refine (of_any o us cap w1 h1 hn).mono ?_
  rintro e w2 ⟨v, rfl, hown, hbl⟩
  obtain ⟨o2, cap2, rfl, hfl⟩ := fls_of hown
  have H2 := Lib.hid (And.intro hfl (HB.out.trans (hbl.mono HB.out.size)))
  clear hown hfl hbl h1
  generalize hlen : us.length = n at *
  have HLEN := Lib.hid hlen
  clear hlen
  by_cases hmany : 4096 < n
  · go_wp2_with (go_at_call 8; go_must (refine (pack_many o2 n cap2 w2 hmany hn).mono ?_; rintro e w' ⟨rfl, rfl⟩))
    go_ret
    exact ⟨rfl, H2.out.2⟩
  · have P1 := pack_any o2 us cap2 w2 HUS.out.2 H2.out.1 (by rw [HLEN.out]; omega) (HT.out.below H2.out.2 hg) (Nat.lt_of_lt_of_le hg H2.out.2.size)
    rw [HLEN.out] at P1
    have HP1 := Lib.hid P1
    clear P1
    go_wp2_with fail
    refine HP1.out.mono ?_
    rintro e w3 ⟨v, rfl, hown, hbl⟩
    rw [HLEN.out] at hown
    have hup := fun Z => unp_pack (us := us) (by rw [HLEN.out]; omega) HUS.out.2 Z
    rw [HLEN.out] at hup
    have hvl := vnt_length n
    have hpl := pack_length (encN us n)
    have hel := encN_length us HUS.out.2 n
    have hB8 : ∀ i, (vnt n ++ pack (encN us n)).getD i 0 < 256 := by
      intro i
      rw [List.getD_eq_getElem?_getD]
      rcases hq : (vnt n ++ pack (encN us n))[i]? with _ | x
      · simp
      · have hm := List.mem_of_getElem? hq
        rcases List.mem_append.1 hm with h | h
        · unfold vnt at h
          split at h
          · simp at h; simp; omega
          · simp at h; simp; omega
        · obtain ⟨j, -, rfl⟩ := List.mem_map.1 h
          exact byteAt_lt _ _
    have hBl : (vnt n ++ pack (encN us n)).length ≤ 100000 ∧ 1 ≤ (vnt n ++ pack (encN us n)).length := by rw [List.length_append]; omega
    obtain ⟨o3, cap3, rfl, hby, hc3, hc4⟩ := bys_of hown
    generalize hBB : vnt n ++ pack (encN us n) = B at *
    have H3 := Lib.hid (And.intro hby (And.intro hbl (H2.out.2.trans (hbl.mono H2.out.2.size))))
    have HB8 := Lib.hid (And.intro hB8 hup)
    clear hby hown hbl hB8 hup hvl hpl hel hBB HP1
    go_wp2_with (at_builtin; go_must (refine wpList_append_sl _ rfl (.const (.slice none 0 0)) (.tmp 35) 23 rfl w3.heap.size 5 i0 (.int .u8 0) 1 Tryd.underlying23 hi hz0 hz1 hz2 rfl _ 0 [] rfl (nil_row _ _ _) o3 B.length cap3 (u8s B) rfl (u8s_length B) (u8_bytes H3.out.1) u8_one ?_ ?_ ?_ (Nat.le_refl _) ?_))
    · intro h
      obtain ⟨ad, h', _⟩ := H3.out.1 0 (by omega)
      rw [h] at h'; cases h'
    · unfold maxLen; omega
    · omega
    · intro v4 w4 hown hgr hblk
      have hb4 : Below w3.heap.size w3 w4 := (Below.refl _ w3).grown hgr (Nat.le_refl _) (by intro k hk; cases hk)
      have H4 := Lib.hid (And.intro hown (And.intro hb4 (bys_keep HZ.out.1 (H3.out.2.2.trans (hb4.mono H3.out.2.2.size)))))
      clear hown hgr hblk hb4
      go_wp2_with (at_builtin; go_must (refine wpList_append_sl _ rfl (.tmp 36) (.tmp 37) 23 rfl w3.heap.size 5 i0 (.int .u8 0) 1 Tryd.underlying23 hi hz0 hz1 hz2 rfl _ B.length _ rfl H4.out.1 ob Z.length cb (u8s Z) rfl (u8s_length Z) (u8_bytes H4.out.2.2) u8_one HZ.out.2.2 ?_ ?_ H4.out.2.1.size ?_))
      · unfold maxLen; omega
      · omega
      · intro v5 w5 hown hgr hblk
        rw [← u8s_append] at hown
        have hb5 : Below w3.heap.size w3 w5 := H4.out.2.1.grown hgr H4.out.2.1.size (fun k hk => (H4.out.1.lt k hk).1)
        obtain ⟨o5, cap5, rfl, hby5, hc5, hc6⟩ := bys_of hown
        have H5 := Lib.hid (And.intro hby5 hb5)
        have hzl := hzn
        have hl5 : (B ++ Z).length ≤ 3000000 := by rw [List.length_append]; omega
        have hg5 : ∀ i, (B ++ Z).getD i 0 < 256 := by
          intro i
          rcases Nat.lt_or_ge i B.length with h | h
          · rw [getD_app0 B Z i h]; exact HB8.out.1 i
          · rw [List.getD_eq_getElem?_getD, List.getElem?_append_right h, ← List.getD_eq_getElem?_getD]; exact HZ.out.2.1 _
        have HU5 := Lib.hid (unpack_any o5 cap5 (B ++ Z) w5 hby5 (by omega) hg5 hc5 hc6)
        rw [HB8.out.2 Z] at HU5
        clear hown hgr hblk hb5 hg5
        generalize B ++ Z = BZ at *
        clear hby5
        go_wp2_with fail
        refine HU5.out.mono ?_
        rintro e w6 ⟨v, rfl, hown, hbl⟩
        obtain ⟨o6, cap6, rfl, hfl6⟩ := fls_of hown
        have H6 := Lib.hid (And.intro hown (And.intro hfl6 (And.intro hbl (H5.out.2.trans (hbl.mono H5.out.2.size)))))
        have HU6 := Lib.hid (unpack_any o3 cap3 B w6 (bys_keep H3.out.1 H6.out.2.2.2) (by omega) HB8.out.1 hc3 hc4)
        have hub := HB8.out.2 []
        rw [List.append_nil] at hub
        rw [hub] at HU6
        clear hown hbl hfl6 hub HU5
        simp only
        rw [HLEN.out]
        go_wp2_with fail
        refine HU6.out.mono ?_
        rintro e w7 ⟨v, rfl, hown, hbl⟩
        obtain ⟨o7, cap7, rfl, hfl7⟩ := fls_of hown
        have H7 := Lib.hid (And.intro hown (And.intro hfl7 (And.intro hbl (H6.out.2.2.2.trans (hbl.mono H6.out.2.2.2.size)))))
        clear hown hbl hfl7 HU6
        simp only
        rw [HLEN.out]
        go_wp2_with fail
        have hb27 : Below w2.heap.size w2 w7 := H3.out.2.1.trans (H7.out.2.2.2.mono H3.out.2.1.size)
        have HF2 := Lib.hid (And.intro (fls_keep H2.out.1 hb27) (H3.out.2.2.trans (H7.out.2.2.2.mono H3.out.2.2.size)))
        have hE1 := eqFloats_any o6 o2 cap6 cap2 us us w7 (fls_keep H6.out.2.1 H7.out.2.2.1) HF2.out.1 (by rw [HLEN.out]; omega)
        rw [HLEN.out, decide_eq_true (rfl : us = us)] at hE1
        have HE1 := Lib.hid hE1
        clear hE1 hb27
        refine HE1.out.mono ?_
        rintro e w8 ⟨rfl, hk8⟩
        have hE2 := eqFloats_any o7 o2 cap7 cap2 us us w8 (fls_keep H7.out.2.1 hk8.none) (fls_keep HF2.out.1 hk8.none) (by rw [HLEN.out]; omega)
        rw [HLEN.out, decide_eq_true (rfl : us = us)] at hE2
        have HE2 := Lib.hid hE2
        have H8 := Lib.hid hk8
        clear hE2 hk8 HE1
        go_wp2_with fail
        refine HE2.out.mono ?_
        rintro e w9 ⟨rfl, hk9⟩
        have H9 := Lib.hid (H8.out.trans hk9)
        clear hk9 HE2 H8
        go_wp2_with fail
        have hge6 : ∀ k, (Value.slice o6 n cap6).ownBlock = some k → w5.heap.size ≤ k ∧ k < w6.heap.size := by
          intro k hk
          rw [← HLEN.out] at hk
          exact H6.out.1.lt k hk
        have hrow6 : w7.ownsRow w5.heap.size 33 1 (.slice o6 n cap6) n (f64s us) := by
          have h := H6.out.1
          rw [HLEN.out] at h
          refine h.kept (row := none) ⟨H7.out.2.2.1.os, H7.out.2.2.1.tape, H7.out.2.2.1.output, H7.out.2.2.1.size, fun k hk _ => H7.out.2.2.1.block k hk⟩ ?_
          rcases hq : (Value.slice o6 n cap6).ownBlock with _ | k
          · exact Or.inl rfl
          · exact Or.inr (by simp)
        have hrow9 : w9.ownsRow w5.heap.size 33 1 (.slice o6 n cap6) n (f64s us) := by
          refine hrow6.kept (row := none) ⟨H9.out.os, H9.out.tape, H9.out.output, H9.out.size, fun k hk _ => H9.out.block k hk id⟩ ?_
          rcases hq : (Value.slice o6 n cap6).ownBlock with _ | k
          · exact Or.inl rfl
          · exact Or.inr (by simp)
        have HGE := Lib.hid hge6
        have HR9 := Lib.hid (And.intro hrow9 (H9.out.mono (cs := fun b => (Value.slice o6 n cap6).ownBlock = some b) (fun _ _ h => h.elim)))
        clear hge6 hrow6 hrow9 hl5 hc5 hc3 hBl hzl
        go_loopg [14] n (fun g i wr => ∃ k : Nat, g + k = n ∧ i = .int .i64 (k : Int) ∧ Hid (Keep (fun b => (Value.slice o6 n cap6).ownBlock = some b) w7 wr ∧ ∃ xs, wr.ownsRow w5.heap.size 33 1 (.slice o6 n cap6) n xs))
        case atStart => exact ⟨0, by omega, rfl, HR9.out.2, _, HR9.out.1⟩
        case round =>
          obtain ⟨k, hgk, rfl, HK⟩ := hrel
          by_cases hk : k < n
          · obtain ⟨hkeep, xs, hrow⟩ := HK.out
            obtain ⟨g, c', hv, hg1, hg2⟩ := World.ownsRow.form hrow (by omega)
            obtain ⟨rfl, rfl⟩ : o6 = some ⟨g, 0, none⟩ ∧ cap6 = c' := by simpa using hv
            have hxl : xs.length = n := by have := hrow.1; omega
            have hc := hrow.cellAt k (by omega)
            rw [List.getElem?_eq_getElem (by omega)] at hc
            have hf := hrow.frozenAt k
            generalize hx0 : xs[k] = x0 at *
            have HXX := Lib.hid (And.intro hkeep (And.intro hrow hg1))
            clear hx0 hkeep hrow hg1 hg2 hv hxl HK
            go_wp2_with fail
            go_roundg (gk - 1)
            case measure => omega
            case rel => exact ⟨k + 1, by omega, rfl, HXX.out.1.setCell (p := ⟨g, k, none⟩) (Or.inl rfl) _, _, (HXX.out.2.1.stored k (.float .f64 13837309855095848960)).1⟩
          · have hs7 : Fls wr o7 us := fls_keep' H7.out.2.1 HK.out.1 (fun i ad hi ho hb => by
              have h1 := (HGE.out _ hb).2
              obtain ⟨g, c', hv, hg1, -⟩ := World.ownsRow.form H7.out.1 (by omega)
              obtain ⟨rfl, -⟩ : o7 = some ⟨g, 0, none⟩ ∧ cap7 = c' := by simpa using hv
              cases ho
              simp only at h1
              omega)
            have hs2 : Fls wr o2 us := fls_keep' HF2.out.1 HK.out.1 (fun i ad hi ho hb => by
              have h1 := (HGE.out _ hb).1
              obtain ⟨ad', h2, h3⟩ := H2.out.1 i hi
              rw [ho] at h2; cases h2
              have h4 := cell_in h3
              rw [addr_add_block] at h4
              have h5 := H3.out.2.1.size
              have h6 := H5.out.2.size
              omega)
            have hE3 := eqFloats_any o7 o2 cap7 cap2 us us wr hs7 hs2 (by rw [HLEN.out]; omega)
            rw [HLEN.out, decide_eq_true (rfl : us = us)] at hE3
            have HE3 := Lib.hid hE3
            clear hE3 hs7 hs2
            go_wp2_with fail
            refine HE3.out.mono ?_
            rintro e w10 ⟨rfl, hk10⟩
            have H10 := Lib.hid ((HF2.out.2.trans (HK.out.1.below HF2.out.2.size (fun k hk => by
              have h1 := (HGE.out k hk).1
              have h5 := H3.out.2.2.size
              have h6 := H5.out.2.size
              omega))).trans (hk10.below (by
              have h5 := HF2.out.2.size
              have h6 := HK.out.1.size
              omega) (fun _ h => h.elim)))
            clear hk10 HE3
            go_wp2_with fail
            go_ret
            exact ⟨rfl, H10.out⟩

/-! ### the row -/
theorem one_le {H : Type} (d : DataW H) : 1 ≤ Rows.uptoBulk d := by
  cases d with
  | lit l => cases l <;> simp [Rows.uptoBulk]
  | nil => simp [Rows.uptoBulk]
  | ptr d => simp [Rows.uptoBulk]
  | slice elems spare => simp [Rows.uptoBulk]
  | agg parts => simp [Rows.uptoBulk]
  | iface t d => simp [Rows.uptoBulk]
  | map entries => simp [Rows.uptoBulk]
  | held h => simp [Rows.uptoBulk]
theorem length_le {H : Type} (l : List (DataW H)) : l.length ≤ Rows.uptoBulkAll l := by
  induction l with
  | nil => simp [Rows.uptoBulkAll]
  | cons x r ih => have := one_le x; simp only [Rows.uptoBulkAll, List.length_cons]; omega
theorem slice_len {H : Type} {d : DataW H} {Z : List Nat} (h : (d = .nil ∧ Z = []) ∨ ∃ el sp, d = .slice el sp ∧ el.length = Z.length) : Z.length ≤ Rows.uptoBulk d := by
  rcases h with ⟨rfl, rfl⟩ | ⟨el, sp, rfl, h⟩
  · simp
  · have := length_le el
    simp only [Rows.uptoBulk]
    omega

theorem contract (H : Type) (enc : TypeId × Value → H) (W : World) (base : Nat) (args : Array Value) (ds gs : List (DataW H)) (before : List MemPlace)
    (hval : ∀ (j : Nat) t v, Tryd.f3.params[j]? = some t → args[j]? = some v → Value.okWide Tryd.prog W .any base t v)
    (hW : DataW.Whole enc Tryd.prog Tryd.f3.params.toList Rows.seriesBackSpec.vars false W args.toList ds gs before) (hL : laidMetH Tryd.prog Rows.seriesBackUptoRow.laid W) (hk : Rows.uptoSmall H (ds ++ gs) = true) :
    Calls Tryd.prog 3 args W fun e W' => ∃ v, e = .returned v ∧ Rows.seriesBackSpec.post enc Tryd.prog Tryd.f3 false true false false W args v W' := by
  have hW' := hW
  have hT := table hL
  obtain ⟨p, q, hA0, hV, rfl, hfz, hnd⟩ := hW
  have hA : DataW.TrodAll enc Tryd.prog W 0 (fun _ => true) true Tryd.f3.params.toList args.toList ds p := hA0
  rw [Tryd.params3] at hA hval
  obtain ⟨v0, v1, d0, d1, p0, p1, rfl, rfl, rfl, h0, h1⟩ := trodAll_two hA
  have hb := of_decide_eq_true hk
  simp only [List.cons_append, List.nil_append, Rows.uptoBulkAll] at hb
  obtain ⟨a0, l0, c0, rfl⟩ := okWide_slice Tryd.underlying22 (hval 0 22 v0 rfl rfl)
  obtain ⟨a1, l1, c1, rfl⟩ := okWide_slice Tryd.underlying23 (hval 1 23 v1 rfl rfl)
  obtain ⟨o, cap, us, e0, hU, hu, -, -, -, hs0⟩ := open_nats (M := 18446744073709551616) Tryd.underlying22 Tryd.underlying39 (by kernel_rfl) (fun z hz => by
    have : 0 ≤ z ∧ z ≤ 18446744073709551615 := by simpa [Lit.wf, IntKind.min, IntKind.max, IntKind.signed, IntKind.bits] using hz
    omega) (by omega) rfl h0
  obtain ⟨ob, cb, Z, e1, hZ, hz, -, -, hn1, hs1⟩ := open_nats (M := 256) Tryd.underlying23 Tryd.underlying5 (by kernel_rfl) (fun z hz => by
    have : 0 ≤ z ∧ z ≤ 255 := by simpa [Lit.wf, IntKind.min, IntKind.max, IntKind.signed, IntKind.bits] using hz
    omega) (by omega) rfl h1
  have b0 := slice_len hs0
  have b1 := slice_len hs1
  rw [e0, e1] at hW' ⊢
  refine (walk o us cap ob Z cb W hU hu (by omega) hZ hz (by omega) hn1 hT (tab_lt hT)).mono fun e W' ⟨he, hk⟩ => ?_
  subst he
  exact ⟨_, rfl, law_post (by kernel_rfl) (T := 4) (hts_of (by kernel_rfl)) hW' rfl rfl rfl Tryd.underlying4 hk⟩

theorem laid_met (os : Os) : laidMet Tryd.prog Rows.seriesBackUptoRow.laid ((laidWorld os).forCall (fun _ _ => 0) ⟨#[], #[.slice none 0 0, .slice none 0 0], []⟩).memory :=
  laidMet_of_run' 8 (by kernel_rfl) (by kernel_rfl)
theorem reads (os : Os) {H : Type} (enc : TypeId × Value → H) : ∃ places, DataW.whole enc Tryd.prog ((laidWorld os).forCall (fun _ _ => 0) ⟨#[], #[.slice none 0 0, .slice none 0 0], []⟩).memory Tryd.f3.params.toList Rows.seriesBackSpec.vars false #[Value.slice none 0 0, Value.slice none 0 0].toList 8 = some ([.nil, .nil], [], places) :=
  ⟨[], by kernel_rfl⟩

set_option maxRecDepth 100000 in
theorem lifted (os : Os) (started : os.Started) (H : Type) (enc : TypeId × Value → H) (F : Stop.Interp) :
    ReturnsInHanded {} Tryd.checked os 3 .any ((Rows.OpenSpec.upto Rows.seriesBackSpec).preRow enc Tryd.prog Tryd.f3 Rows.seriesBackUptoRow.domain false Rows.seriesBackUptoRow.laid) (((Rows.OpenSpec.upto Rows.seriesBackSpec).at F).post enc Tryd.prog Tryd.f3 false true false false) := by
  obtain ⟨places, hx⟩ := reads os enc
  refine returnsInHanded_of_row (C := Tryd.checked) (s := Rows.OpenSpec.upto Rows.seriesBackSpec) own started (by kernel_rfl) Tryd.func3
    (witness_row_at (enc := enc) (C := Tryd.checked) false (laidWorld os) #[.slice none 0 0, .slice none 0 0] rfl (by kernel_rfl) (by kernel_rfl) (by kernel_rfl)
      (OpenSpec.preRow_of_cond 8 hx (by kernel_rfl) (fun k hk => by cases hk; kernel_rfl) (by kernel_rfl) (laid_met os))) ?_
  intro W base args ds gs before hval hW _ hcond _ hL _ _
  exact contract H enc W base args ds gs before hval hW hL (hcond _ rfl)

theorem said : Rows.SeriesBackUptoSaid :=
  OpenClaim.holds_of_cond 3 Tryd.f3 rfl rfl rfl rfl rfl rfl rfl ⟨rfl, rfl, rfl, rfl, rfl⟩ rfl rfl rfl rfl rfl (by kernel_rfl) Tryd.func3 (by kernel_rfl)
    (of_decide_eq_true (by kernel_rfl)) (by unfold Func.isWrapper; first | (rw [if_pos (by decide +kernel)]; kernel_rfl) | (rw [if_neg (by decide +kernel)]; exact ⟨rfl, rfl⟩))
    (fun os started H enc _ F => by rw [OpenClaim.pre_eq_preRow]; exact lifted os started H enc F)

theorem plain (f : FuncId) (fn : Func) (hf : Tryd.pinned.checked.prog.funcNamed "flume/flumelaw5.SeriesBack" = some f) (hfn : Tryd.pinned.checked.prog.funcs[f]? = some fn) :
    false = Tryd.pinned.checked.prog.looks [] ∧ ∀ (j : Nat) t, fn.params[j]? = some t → Tryd.pinned.checked.prog.wantsStandIn t = false := by
  obtain rfl : f = 3 := Option.some.inj ((show Tryd.prog.funcNamed "flume/flumelaw5.SeriesBack" = some 3 by kernel_rfl).symm.trans hf) |>.symm
  obtain rfl : fn = Tryd.f3 := (Option.some.inj (Tryd.func3.symm.trans hfn)).symm
  refine ⟨by kernel_rfl, fun j t ht => ?_⟩
  rw [Tryd.params3] at ht
  have hm := Array.mem_of_getElem? ht
  simp only [List.mem_toArray, List.mem_cons, List.not_mem_nil, or_false] at hm
  rcases hm with rfl | rfl
  · exact (show Tryd.prog.wantsStandIn 22 = false by kernel_rfl)
  · exact (show Tryd.prog.wantsStandIn 23 = false by kernel_rfl)

theorem proved : Rows.SeriesBackUptoCardSaid :=
  Claim7.holds_tied_plain_at .later [] _ _ _ _ said (fun _ h => by cases h) (by kernel_rfl) (fun _ h => by cases h) seriesBackUpto_row_tie rfl ⟨rfl, rfl⟩ (by kernel_rfl) rfl plain (by kernel_rfl)
end Go.Proofs.YtafglefiodanbaaDoor.seriesBack
