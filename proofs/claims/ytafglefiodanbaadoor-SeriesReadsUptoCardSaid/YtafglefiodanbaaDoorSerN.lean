/- SeriesReads: what is unpacked, packed, is what was read. By an AI agent. -/
import Derived.Test.YtafglefiodanbaaDoorSerT
import Derived.Test.YtafglefiodanbaaDoorSerP
import Derived.Test.YtafglefiodanbaaDoorSerL
import Derived.Test.YtafglefiodanbaaDoorSerW
import Derived.Test.YtafglefiodanbaaDoorOpen
namespace Go.Proofs.YtafglefiodanbaaDoor.seriesReads
open Go.ChangeShapes Go.WideShapes Go.ChangeAt Go.RowKit
open Bt
set_option linter.unusedVariables false

theorem fls_keep {w w' : World} {o : Option Addr} {us : List Nat} (h : Fls w o us) (k : Below w.heap.size w w') : Fls w' o us := by
  intro i hi
  obtain ⟨ad, ho, hc⟩ := h i hi
  exact ⟨ad, ho, (k.cell (cell_in hc)).trans hc⟩
theorem fls_keep' {bs : Nat → Prop} {w w' : World} {o : Option Addr} {us : List Nat} (h : Fls w o us) (k : Keep bs w w') (hn : ∀ i ad, i < us.length → o = some ad → ¬ bs ad.block) : Fls w' o us := by
  intro i hi
  obtain ⟨ad, ho, hc⟩ := h i hi
  exact ⟨ad, ho, (k.cell (cell_in hc) (by rw [addr_add_block]; exact hn i ad hi ho)).trans hc⟩
/-- A row of floats of the call's own lies behind a block that was there. -/
theorem row_apart {w : World} {base g : Nat} {o : Option Addr} {cap : Nat} {us : List Nat} (h : w.ownsRow base 33 1 (.slice o us.length cap) us.length (f64s us)) (hg : g < base) :
    ∀ i ad, i < us.length → o = some ad → ¬ ad.block = g := by
  intro i ad hi ho hb
  obtain ⟨g', c', hv, hg1, -⟩ := World.ownsRow.form h (by omega)
  obtain ⟨rfl, -⟩ : o = some ⟨g', 0, none⟩ ∧ cap = c' := by simpa using hv
  cases ho
  simp only at hb
  omega

theorem unp_len {B : List Nat} (hB : ∀ i, B.getD i 0 < 256) : (unp B).1.length ≤ 4096 := by
  by_cases h0 : (unp B).2.2 = 0
  · exact (pack_unp (B := B) (us := (unp B).1) (n := (unp B).2.1) hB (trip h0)).1
  · unfold unp at h0 ⊢
    simp only at h0 ⊢
    split
    · rename_i h1
      rw [if_pos h1] at h0
      split
      · simp
      · rename_i h2
        rw [if_neg h2] at h0
        split
        · rename_i h3
          rw [if_pos h3] at h0
          split
          · rename_i h4
            rw [if_pos h4] at h0
            exact absurd rfl h0
          · simp
        · simp
    · simp
/-- A list of lists of bytes. -/
def Lists (n : Nat) (o : Option Addr) (w : World) : Prop :=
  ∀ i, i < n → ∃ ad, o = some ad ∧ ∃ oi B ci, w.cell? (ad.add i) = some (.slice oi B.length ci) ∧ Bys w oi B ∧ (∀ j, B.getD j 0 < 256) ∧ B.length ≤ ci ∧ ci ≤ maxLen ∧ (oi = none → ci = 0) ∧ B.length ≤ 2000000

set_option maxRecDepth 100000 in
set_option maxHeartbeats 8000000 in
theorem walk (o : Option Addr) (n cap : Nat) (w : World) (hR : Lists n o w) (hn : n ≤ 2000000) (hT : Tab w) (hg : 1 < w.heap.size) :
    Calls Tryd.prog 4 #[.slice o n cap] w fun e w' => e = .returned (.bool true) ∧ Below w.heap.size w w' := by
  have HR := Lib.hid hR
  have HT := Lib.hid hT
  clear hR hT
  go_enter Tryd.func4, Tryd.ntmps4
  go_wp2_with (go_at_call 6; go_must (refine (begun_any w HT.out hg).mono ?_; rintro e w1 ⟨rfl, hb⟩; have HB := Lib.hid hb; clear hb))
  go_loopg [3] n (fun g i wr => ∃ k : Nat, g + k = n ∧ i = .int .i64 (k : Int) ∧ Hid (Below w.heap.size w wr))
  case atStart => exact ⟨0, by omega, rfl, HB.out⟩
  case round =>
    obtain ⟨k, hgk, rfl, HK⟩ := hrel
    by_cases hk : k < n
    · by_cases h40 : k < 40
      · obtain ⟨ad, rfl, oi, B, ci, hcell, hby, hv, hcap, hc2, hc0, hlen⟩ := HR.out k hk
        have hbw := cell_in hcell
        replace hcell := (HK.out.cell hbw).trans hcell
        have hbyr : Bys wr oi B := fun i hi => by
          obtain ⟨a', e, hc⟩ := hby i hi
          exact ⟨a', e, (HK.out.cell (cell_in hc)).trans hc⟩
        have HI := Lib.hid (And.intro hcell (And.intro hby (And.intro hbyr (And.intro hv (And.intro hc2 hc0)))))
        have HL := Lib.hid (lent_any oi ci B wr hbyr hlen hc0)
        clear hby hbyr hv hc2 hc0
        go_wp2_with fail
        refine HL.out.mono ?_
        rintro e w1 ⟨g, c, rfl, hg1, hrow, hb1⟩
        obtain ⟨hbl, hcl, hcm⟩ := lent_bys hrow
        have H1 := Lib.hid (And.intro hg1 (And.intro hrow (And.intro hb1 (HK.out.trans (hb1.mono HK.out.size)))))
        have HU := Lib.hid (unpack_any (some ⟨g, 0, none⟩) c B w1 hbl (by omega) HI.out.2.2.2.1 hcl hcm)
        clear hg1 hrow hb1 hbl hcl hcm HL
        generalize hUU : unp B = U at *
        obtain ⟨us, m, err⟩ := U
        have HUU := Lib.hid hUU
        clear hUU
        simp only at HU
        go_wp2_with fail
        refine HU.out.mono ?_
        rintro e w2 ⟨v2, rfl, hown2, hb2⟩
        obtain ⟨o2, c2, rfl, hf2⟩ := fls_of hown2
        have hsz := cell_in HI.out.1
        have hcell2 := ((H1.out.2.2.1.trans (hb2.mono H1.out.2.2.1.size)).cell hsz).trans HI.out.1
        have H2 := Lib.hid (And.intro hown2 (And.intro hf2 (And.intro hb2 (H1.out.2.2.1.trans (hb2.mono H1.out.2.2.1.size)))))
        have hbyr2 : Bys w2 oi B := bys_keep0 HI.out.2.2.1 H2.out.2.2.2
        have HV := Lib.hid (refUnpack_any oi ci B w2 hbyr2 (by omega) HI.out.2.2.2.1 hcap HI.out.2.2.2.2.1)
        rw [HUU.out] at HV
        simp only at HV
        clear hown2 hf2 hb2 hbyr2 HU
        go_wp2_with fail
        refine HV.out.mono ?_
        rintro e w3 ⟨v3, rfl, hown3, hb3⟩
        obtain ⟨o3, c3, rfl, hf3⟩ := fls_of hown3
        have H3 := Lib.hid (And.intro hown3 (And.intro hf3 (And.intro hb3 (H2.out.2.2.2.trans (hb3.mono H2.out.2.2.2.size)))))
        have hcell3 := (H3.out.2.2.2.cell hsz).trans HI.out.1
        clear hown3 hf3 hb3 HV hcell2
        have hul : us.length ≤ 4096 := by
          have h := unp_len HI.out.2.2.2.1
          rw [HUU.out] at h
          exact h
        have hE1 := eqFloats_any o2 o3 c2 c3 us us w3 (fls_keep H2.out.2.1 H3.out.2.2.1) H3.out.2.1 (by omega)
        rw [decide_eq_true (rfl : us = us)] at hE1
        have HE1 := Lib.hid (And.intro hE1 hul)
        clear hE1 hul
        go_wp2_with fail
        refine HE1.out.1.mono ?_
        rintro e w4 ⟨rfl, hk4⟩
        have H4 := Lib.hid (And.intro hk4 (H3.out.2.2.2.trans (hk4.none.mono H3.out.2.2.2.size)))
        have hcell4 := (H4.out.2.cell hsz).trans HI.out.1
        have hrow4 : w4.ownsRow wr.heap.size 5 1 (.slice (some ⟨g, 0, none⟩) (B.length + 2) c) (B.length + 2) (u8s (B ++ [171, 172])) :=
          row_below (row_below (row_below H1.out.2.1 H2.out.2.2.1) H3.out.2.2.1) hk4.none
        have hf24 : Fls w4 o2 us := fls_keep (fls_keep H2.out.2.1 H3.out.2.2.1) hk4.none
        have hf34 : Fls w4 o3 us := fls_keep H3.out.2.1 hk4.none
        have HF4 := Lib.hid (And.intro hf24 hf34)
        have HBK := Lib.hid (back_any wr.heap.size g c oi ci B w4 hrow4 (bys_keep0 HI.out.2.2.1 H4.out.2) (fun a ha h0 hb => by
          obtain ⟨a', e, hc⟩ := HI.out.2.2.1 0 h0
          rw [ha] at e
          cases e
          have h1 := cell_in hc
          rw [addr_add_block] at h1
          have h2 := H1.out.1
          omega) HI.out.2.2.2.1 hlen)
        clear hk4 hrow4 hcell3 hf24 hf34
        go_wp2_with fail
        refine HBK.out.mono ?_
        rintro e w5 ⟨rfl, hk5⟩
        have hg1 : g < w1.heap.size := by
          obtain ⟨g', c', hv', -, h2⟩ := World.ownsRow.form H1.out.2.1 (by omega)
          obtain ⟨rfl, -⟩ : g = g' ∧ c = c' := by simpa using hv'
          exact h2
        have hg2 : g < w2.heap.size := Nat.lt_of_lt_of_le hg1 H2.out.2.2.1.size
        have hf25 : Fls w5 o2 us := fls_keep' HF4.out.1 hk5 (row_apart H2.out.1 hg1)
        have hf35 : Fls w5 o3 us := fls_keep' HF4.out.2 hk5 (row_apart H3.out.1 hg2)
        have hb5 : Below wr.heap.size wr w5 := H4.out.2.trans (hk5.below H4.out.2.size (fun i hi => by have := H1.out.1; omega))
        have H5 := Lib.hid (And.intro hf25 (And.intro hf35 hb5))
        have hE2 := eqFloats_any o2 o3 c2 c3 us us w5 H5.out.1 H5.out.2.1 (by have := HE1.out.2; omega)
        rw [decide_eq_true (rfl : us = us)] at hE2
        have HE2 := Lib.hid hE2
        clear hE2 hf25 hf35 hb5 hk5 hg1 hg2 hcell4 HBK
        go_wp2_with fail
        refine HE2.out.mono ?_
        rintro e w6 ⟨rfl, hk6⟩
        have H6 := Lib.hid (And.intro (fls_keep H5.out.1 hk6.none) (H5.out.2.2.trans (hk6.none.mono H5.out.2.2.size)))
        have hcell6 := (H6.out.2.cell hsz).trans HI.out.1
        clear hk6 HE2
        by_cases he : err = 0
        · subst he
          obtain ⟨hp1, hp2, hp3, hp4⟩ := pack_unp HI.out.2.2.2.1 HUU.out
          have hw6 : Below w.heap.size w w6 := HK.out.trans (H6.out.2.mono HK.out.size)
          have P1 := pack_any o2 us c2 w6 hp2 H6.out.1 hp1 (HT.out.below hw6 hg) (Nat.lt_of_lt_of_le hg hw6.size)
          have HP1 := Lib.hid (And.intro P1 (And.intro hp4 hw6))
          clear P1 hp4 hw6
          go_wp2_with fail
          refine HP1.out.1.mono ?_
          rintro e w7 ⟨v7, rfl, hown7, hb7⟩
          rw [HP1.out.2.1] at hown7
          obtain ⟨o7, c7, rfl, hf7, hc71, hc72⟩ := bys_of hown7
          have htl : (B.take m).length = m := by rw [List.length_take]; omega
          have hvl := vnt_length us.length
          have hm1 : 1 ≤ m := by
            have h := congrArg List.length HP1.out.2.1
            rw [htl, List.length_append] at h
            omega
          obtain ⟨a0, rfl, -⟩ := HI.out.2.1 0 (by omega)
          have hb67 : Below wr.heap.size wr w7 := H6.out.2.trans (hb7.mono H6.out.2.size)
          have hcell7 := (hb67.cell hsz).trans HI.out.1
          have hbt : Bys w7 (some a0) (B.take m) := fun i hi => by
            obtain ⟨a', e, hc⟩ := bys_keep0 HI.out.2.2.1 hb67 i (by omega)
            refine ⟨a', e, ?_⟩
            rw [hc, List.getD_eq_getElem?_getD, List.getD_eq_getElem?_getD, List.getElem?_take_of_lt (by omega)]
          have hE3 := eqBytes_any o7 (some a0) c7 ci (B.take m) (B.take m) w7 hf7 hbt (by omega)
          rw [decide_eq_true (rfl : B.take m = B.take m), htl] at hE3
          rw [htl]
          have H7 := Lib.hid (And.intro hE3 (HP1.out.2.2.trans (hb7.mono HP1.out.2.2.size)))
          clear hE3 hbt hb67 hown7 hf7 hb7 htl hvl HP1
          have hc2 := HI.out.2.2.2.2.1
          unfold maxLen at hc2
          go_wp2_with fail
          refine H7.out.1.mono ?_
          rintro e w8 ⟨rfl, hk8⟩
          have H8 := Lib.hid (H7.out.2.trans (hk8.none.mono H7.out.2.size))
          clear hk8
          go_wp2_with fail
          go_roundg (gk - 1)
          case measure => omega
          case rel => exact ⟨k + 1, by omega, rfl, H8.out⟩
        · go_wp2_with fail
          go_roundg (gk - 1)
          case measure => omega
          case rel => exact ⟨k + 1, by omega, rfl, HK.out.trans (H6.out.2.mono HK.out.size)⟩
      · go_wp2_with fail
        go_ret
        exact ⟨rfl, HK.out⟩
    · go_wp2_with fail
      go_ret
      exact ⟨rfl, HK.out⟩

/-! ### the row -/
theorem one_le {H : Type} (d : DataW H) : 1 ≤ Rows.uptoBulk d := by
  cases d with
  | lit l => cases l <;> simp [Rows.uptoBulk]
  | nil => simp [Rows.uptoBulk]
  | ptr d => simp [Rows.uptoBulk]
  | slice elems spare => simp [Rows.uptoBulk]
  | agg parts => simp [Rows.uptoBulk]
  | iface t d => simp [Rows.uptoBulk]
  | map entries => simp [Rows.uptoBulk]
  | held h => simp [Rows.uptoBulk]
theorem length_le {H : Type} (l : List (DataW H)) : l.length ≤ Rows.uptoBulkAll l := by
  induction l with
  | nil => simp [Rows.uptoBulkAll]
  | cons x r ih => have := one_le x; simp only [Rows.uptoBulkAll, List.length_cons]; omega
theorem slice_len {H : Type} {d : DataW H} {Z : List Nat} (h : (d = .nil ∧ Z = []) ∨ ∃ el sp, d = .slice el sp ∧ el.length = Z.length) : Z.length ≤ Rows.uptoBulk d := by
  rcases h with ⟨rfl, rfl⟩ | ⟨el, sp, rfl, h⟩
  · simp
  · have := length_le el
    simp only [Rows.uptoBulk]
    omega

theorem bulk_at {H : Type} (D : Nat → DataW H) (n i : Nat) (h : i < n) : Rows.uptoBulk (D i) ≤ Rows.uptoBulkAll ((List.range n).map D) := by
  have key : ∀ (l : List Nat), i ∈ l → Rows.uptoBulk (D i) ≤ Rows.uptoBulkAll (l.map D) := by
    intro l
    induction l with
    | nil => intro h; cases h
    | cons x r ih =>
      intro h
      simp only [List.map_cons, Rows.uptoBulkAll]
      rcases List.mem_cons.1 h with rfl | h
      · omega
      · have := ih h; omega
  exact key _ (List.mem_range.2 h)

theorem open_lists {H : Type} {enc : TypeId × Value → H} {w : World} {base : Nat} {spare : Nat → Bool} {held : Bool} {a0 : Option Addr} {l0 c0 : Nat} {d : DataW H} {p : List MemPlace}
    (h : DataW.Trod enc Tryd.prog w base spare held 35 (.slice a0 l0 c0) d p) (hb : Rows.uptoBulk d ≤ 1048576) : Lists l0 a0 w ∧ l0 ≤ 1048576 := by
  obtain ⟨fuel, hf⟩ := h
  rw [show (Value.slice a0 l0 c0).cells.toList = [Value.slice a0 l0 c0] from rfl] at hf
  rcases Go.Deep.open_slice1 Tryd.underlying35 (by kernel_rfl) hf with ⟨h1, h2⟩ | ⟨a, len, cap, m, n, V, D, Pl, hcs, hbb, hl1, hm, hmm, hx, hi⟩
  · obtain ⟨rfl, rfl, rfl⟩ : a0 = none ∧ l0 = 0 ∧ c0 = 0 := by simpa using h1
    exact ⟨fun i hi => absurd hi (by omega), by omega⟩
  · obtain ⟨rfl, rfl, rfl⟩ : a0 = some a ∧ l0 = len ∧ c0 = cap := by simpa using hcs
    have hd := congrArg Prod.fst hx
    simp only at hd
    subst hd
    simp only [Rows.uptoBulk] at hb
    have hll := length_le ((List.range l0).map D)
    simp only [List.length_map, List.length_range] at hll
    refine ⟨fun i hil => ?_, by omega⟩
    have hlm : l0 ≤ m := by subst hmm; split <;> omega
    obtain ⟨h1, h2⟩ := hi i (by omega)
    have hbi := bulk_at D l0 i hil
    obtain ⟨a1, l1, c1, hv1⟩ : ∃ a1 l1 c1, V i = .slice a1 l1 c1 := by
      rcases Go.Deep.open_slice1 Tryd.underlying23 (by kernel_rfl) h2 with ⟨h1, h2⟩ | ⟨a, len, cap, m, n, V, D, Pl, hcs, hbb, hl1, hm, hmm, hx, hi⟩
      · exact ⟨_, _, _, by simpa using h1⟩
      · exact ⟨_, _, _, by simpa using hcs⟩
    rw [hv1] at h1 h2
    obtain ⟨ob, cb, Z, e1, hZ, hz, hn0, hn2, hn1, hs1⟩ := open_nats (M := 256) Tryd.underlying23 Tryd.underlying5 (by kernel_rfl) (fun z hz => by
      have : 0 ≤ z ∧ z ≤ 255 := by simpa [Lit.wf, IntKind.min, IntKind.max, IntKind.signed, IntKind.bits] using hz
      omega) (by omega) rfl (v := .slice a1 l1 c1) (show DataW.Trod enc Tryd.prog w base spare held 23 (.slice a1 l1 c1) (D i) (Pl i) from ⟨_, h2⟩)
    have b1 := slice_len hs1
    rw [e1] at h1
    exact ⟨a, rfl, ob, Z, cb, h1, hZ, hz, hn0, hn2, hn1, by omega⟩

theorem contract (H : Type) (enc : TypeId × Value → H) (W : World) (base : Nat) (args : Array Value) (ds gs : List (DataW H)) (before : List MemPlace)
    (hval : ∀ (j : Nat) t v, Tryd.f4.params[j]? = some t → args[j]? = some v → Value.okWide Tryd.prog W .any base t v)
    (hW : DataW.Whole enc Tryd.prog Tryd.f4.params.toList Rows.seriesReadsSpec.vars false W args.toList ds gs before) (hL : laidMetH Tryd.prog Rows.seriesReadsUptoRow.laid W) (hk : Rows.uptoSmall H (ds ++ gs) = true) :
    Calls Tryd.prog 4 args W fun e W' => ∃ v, e = .returned v ∧ Rows.seriesReadsSpec.post enc Tryd.prog Tryd.f4 false true false false W args v W' := by
  have hW' := hW
  have hT := table hL
  obtain ⟨p, q, hA0, hV, rfl, hfz, hnd⟩ := hW
  have hA : DataW.TrodAll enc Tryd.prog W 0 (fun _ => true) true Tryd.f4.params.toList args.toList ds p := hA0
  rw [Tryd.params4] at hA hval
  obtain ⟨v0, d0, rfl, rfl, h0⟩ := trodAll_one hA
  have hb := of_decide_eq_true hk
  simp only [List.cons_append, List.nil_append, Rows.uptoBulkAll] at hb
  obtain ⟨a0, l0, c0, rfl⟩ := okWide_slice Tryd.underlying35 (hval 0 35 v0 rfl rfl)
  obtain ⟨hR, hn⟩ := open_lists h0 (by omega)
  refine (walk a0 l0 c0 W hR (by omega) hT (tab_lt hT)).mono fun e W' ⟨he, hk⟩ => ?_
  subst he
  exact ⟨_, rfl, law_post (by kernel_rfl) (T := 4) (hts_of (by kernel_rfl)) hW' rfl rfl rfl Tryd.underlying4 hk⟩

theorem laid_met (os : Os) : laidMet Tryd.prog Rows.seriesReadsUptoRow.laid ((laidWorld os).forCall (fun _ _ => 0) ⟨#[], #[.slice none 0 0], []⟩).memory :=
  laidMet_of_run' 8 (by kernel_rfl) (by kernel_rfl)
theorem reads (os : Os) {H : Type} (enc : TypeId × Value → H) : ∃ places, DataW.whole enc Tryd.prog ((laidWorld os).forCall (fun _ _ => 0) ⟨#[], #[.slice none 0 0], []⟩).memory Tryd.f4.params.toList Rows.seriesReadsSpec.vars false #[Value.slice none 0 0].toList 8 = some ([.nil], [], places) :=
  ⟨[], by kernel_rfl⟩

set_option maxRecDepth 100000 in
theorem lifted (os : Os) (started : os.Started) (H : Type) (enc : TypeId × Value → H) (F : Stop.Interp) :
    ReturnsInHanded {} Tryd.checked os 4 .any ((Rows.OpenSpec.upto Rows.seriesReadsSpec).preRow enc Tryd.prog Tryd.f4 Rows.seriesReadsUptoRow.domain false Rows.seriesReadsUptoRow.laid) (((Rows.OpenSpec.upto Rows.seriesReadsSpec).at F).post enc Tryd.prog Tryd.f4 false true false false) := by
  obtain ⟨places, hx⟩ := reads os enc
  refine returnsInHanded_of_row (C := Tryd.checked) (s := Rows.OpenSpec.upto Rows.seriesReadsSpec) own started (by kernel_rfl) Tryd.func4
    (witness_row_at (enc := enc) (C := Tryd.checked) false (laidWorld os) #[.slice none 0 0] rfl (by kernel_rfl) (by kernel_rfl) (by kernel_rfl)
      (OpenSpec.preRow_of_cond 8 hx (by kernel_rfl) (fun k hk => by cases hk; kernel_rfl) (by kernel_rfl) (laid_met os))) ?_
  intro W base args ds gs before hval hW _ hcond _ hL _ _
  exact contract H enc W base args ds gs before hval hW hL (hcond _ rfl)

theorem said : Rows.SeriesReadsUptoSaid :=
  OpenClaim.holds_of_cond 4 Tryd.f4 rfl rfl rfl rfl rfl rfl rfl ⟨rfl, rfl, rfl, rfl, rfl⟩ rfl rfl rfl rfl rfl (by kernel_rfl) Tryd.func4 (by kernel_rfl)
    (of_decide_eq_true (by kernel_rfl)) (by unfold Func.isWrapper; first | (rw [if_pos (by decide +kernel)]; kernel_rfl) | (rw [if_neg (by decide +kernel)]; exact ⟨rfl, rfl⟩))
    (fun os started H enc _ F => by rw [OpenClaim.pre_eq_preRow]; exact lifted os started H enc F)

theorem plain (f : FuncId) (fn : Func) (hf : Tryd.pinned.checked.prog.funcNamed "flume/flumelaw5.SeriesReads" = some f) (hfn : Tryd.pinned.checked.prog.funcs[f]? = some fn) :
    false = Tryd.pinned.checked.prog.looks [] ∧ ∀ (j : Nat) t, fn.params[j]? = some t → Tryd.pinned.checked.prog.wantsStandIn t = false := by
  obtain rfl : f = 4 := Option.some.inj ((show Tryd.prog.funcNamed "flume/flumelaw5.SeriesReads" = some 4 by kernel_rfl).symm.trans hf) |>.symm
  obtain rfl : fn = Tryd.f4 := (Option.some.inj (Tryd.func4.symm.trans hfn)).symm
  refine ⟨by kernel_rfl, fun j t ht => ?_⟩
  rw [Tryd.params4] at ht
  have hm := Array.mem_of_getElem? ht
  simp only [List.mem_toArray, List.mem_cons, List.not_mem_nil, or_false] at hm
  rcases hm with rfl
  exact (show Tryd.prog.wantsStandIn 35 = false by kernel_rfl)

theorem proved : Rows.SeriesReadsUptoCardSaid :=
  Claim7.holds_tied_plain_at .later [] _ _ _ _ said (fun _ h => by cases h) (by kernel_rfl) (fun _ h => by cases h) seriesReadsUpto_row_tie rfl ⟨rfl, rfl⟩ (by kernel_rfl) rfl plain (by kernel_rfl)
end Go.Proofs.YtafglefiodanbaaDoor.seriesReads
