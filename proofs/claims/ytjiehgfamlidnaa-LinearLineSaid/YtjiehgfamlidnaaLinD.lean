/- Package linear: pasts in memory; ahead, timely, step. By an AI agent. -/
import Derived.Test.YtjiehgfamlidnaaLinC
namespace Go.Proofs.Ytjiehgfamlidnaa.Lin
open Go.ChangeShapes Go.WideShapes Go.ChangeAt Go.RowKit
open Md
set_option linter.unusedVariables false
set_option linter.unusedSimpArgs false

def pcells (p : Past) (od : Option Addr) (cd : Nat) (ord : Option Addr) (crd : Nat) : Array Value :=
  #[.int .i64 p.kind, .int .i64 p.cl, .slice od p.D.length cd, .int .i64 p.err, .int .i64 p.lsn, .slice ord p.R.length crd, .int .i64 p.beg, .int .i64 p.en]

/-- What a past's slices read. -/
structure PS (w : World) (p : Past) (od : Option Addr) (cd : Nat) (ord : Option Addr) (crd : Nat) : Prop where
  hD : Bys w od p.D
  hc : od = none → cd = 0
  hv : ∀ i, p.D.getD i 0 < 256
  hR : Bys w ord p.R
  hrv : ∀ i, p.R.getD i 0 < 256
theorem PS.keep {w w' : World} {p : Past} {od : Option Addr} {cd : Nat} {ord : Option Addr} {crd : Nat} (h : PS w p od cd ord crd) (k : Below w.heap.size w w') : PS w' p od cd ord crd := ⟨bys_keep h.hD k, h.hc, h.hv, bys_keep h.hR k, h.hrv⟩

/-- Pasts in memory. -/
def Ps (w : World) (o : Option Addr) (ps : List Past) : Prop :=
  ∀ i, i < ps.length → ∃ ab ao, o = some ⟨ab, ao, none⟩ ∧ ∃ od cd ord crd, PS w (ps.getD i zP) od cd ord crd ∧
    ∀ j, j < 8 → w.cell? ⟨ab, ao + i * 8 + j, none⟩ = (pcells (ps.getD i zP) od cd ord crd)[j]?
theorem Ps.keep {w w' : World} {o : Option Addr} {ps : List Past} (h : Ps w o ps) (k : Below w.heap.size w w') : Ps w' o ps := by
  intro i hi
  obtain ⟨ab, ao, e, od, cd, ord, crd, h1, h2⟩ := h i hi
  refine ⟨ab, ao, e, od, cd, ord, crd, h1.keep k, fun j hj => ?_⟩
  have := h2 j hj
  rw [← this]
  have hs : ∃ v, (pcells (ps.getD i zP) od cd ord crd)[j]? = some v := ⟨_, Array.getElem?_eq_getElem (by simpa [pcells] using hj)⟩
  obtain ⟨v, hv⟩ := hs
  rw [hv] at this
  exact k.cell (cell_in this)

/-- Records in memory, in no bad block. -/
structure SrcB (bad : Nat → Prop) (w : World) (o : Option Addr) (bs : List (List Nat)) : Prop where
  cell : ∀ i, i < bs.length → ∃ ad, o = some ad ∧ ¬ bad ad.block ∧ ∃ oi ci, w.cell? (ad.add i) = some (.slice oi (bs.getD i []).length ci) ∧ Bys w oi (bs.getD i []) ∧ (oi = none → ci = 0) ∧ ∀ a, oi = some a → ¬ bad a.block ∧ a.block < w.heap.size
  small : ∀ i j, (bs.getD i []).getD j 0 < 256
  short : ∀ i, (bs.getD i []).length ≤ 4096
theorem SrcB.src {bad : Nat → Prop} {w : World} {o : Option Addr} {bs : List (List Nat)} (h : SrcB bad w o bs) : Src w o bs :=
  ⟨fun i hi => by
    obtain ⟨ad, e, -, oi, ci, h1, h2, h3, -⟩ := h.cell i hi
    exact ⟨ad, e, oi, ci, h1, h2, h3⟩, h.small, h.short⟩
theorem SrcB.sub {bad bad2 : Nat → Prop} {w : World} {o : Option Addr} {bs : List (List Nat)} (h : SrcB bad w o bs) (hs : ∀ x, x < w.heap.size → bad2 x → bad x) : SrcB bad2 w o bs :=
  ⟨fun i hi => by
    obtain ⟨ad, e, hn, oi, ci, h1, h2, h3, h4⟩ := h.cell i hi
    have hb := cell_in h1
    rw [addr_add_block] at hb
    exact ⟨ad, e, fun hc => hn (hs _ hb hc), oi, ci, h1, h2, h3, fun a ha => ⟨fun hc => (h4 a ha).1 (hs _ (h4 a ha).2 hc), (h4 a ha).2⟩⟩, h.small, h.short⟩
theorem SrcB.keep {bad bad2 : Nat → Prop} {w w' : World} {o : Option Addr} {bs : List (List Nat)} (h : SrcB bad w o bs) (k : Keep bad2 w w') (hs : ∀ x, x < w.heap.size → bad2 x → bad x) : SrcB bad w' o bs :=
  ⟨fun i hi => by
    obtain ⟨ad, e, hn, oi, ci, h1, h2, h3, h4⟩ := h.cell i hi
    have hb := cell_in h1
    rw [addr_add_block] at hb
    exact ⟨ad, e, hn, oi, ci, (k.cell (cell_in h1) (by rw [addr_add_block]; exact fun hc => hn (hs _ hb hc))).trans h1, bys_keep' h2 k (fun a _ ha hc => (h4 a ha).1 (hs _ (h4 a ha).2 hc)), h3, fun a ha => ⟨(h4 a ha).1, Nat.lt_of_lt_of_le (h4 a ha).2 k.size⟩⟩, h.small, h.short⟩
theorem srcb_of {w : World} {base g : Nat} {o : Option Addr} {cap : Nat} {bs : List (List Nat)} {xs : List Value} (h : Recs w base g (.slice o bs.length cap) bs xs) (hs : ∀ i, (bs.getD i []).length ≤ 4096) : SrcB (fun x => x < base) w o bs := by
  refine ⟨fun i hi => ?_, h.small, hs⟩
  rcases h.row.2 with ⟨h1, h2⟩ | ⟨g', cap', cells, e1, e2, -⟩
  · omega
  · cases e1
    obtain ⟨oi, c, a1, a2, a3, a4⟩ := h.each i hi
    exact ⟨_, rfl, by simp; omega, oi, c, h.row.cells rfl i _ a1, a2, a3, fun a ha => ⟨by have := (a4 a ha).2.2.1; omega, (a4 a ha).2.1⟩⟩

/-- The state as a value. -/
def Mv (bad : Nat → Prop) (w : World) (v : Value) (m : St) : Prop := ∃ o cap, v = .agg (cs m.1 (.slice o m.2.length cap)) ∧ SrcB bad w o m.2
theorem Mv.sub {bad bad2 : Nat → Prop} {w : World} {v : Value} {m : St} (h : Mv bad w v m) (hs : ∀ x, x < w.heap.size → bad2 x → bad x) : Mv bad2 w v m := by
  obtain ⟨o, cap, e, h⟩ := h
  exact ⟨o, cap, e, h.sub hs⟩
theorem Mv.keep {bad bad2 : Nat → Prop} {w w' : World} {v : Value} {m : St} (h : Mv bad w v m) (k : Keep bad2 w w') (hs : ∀ x, x < w.heap.size → bad2 x → bad x) : Mv bad w' v m := by
  obtain ⟨o, cap, e, h⟩ := h
  exact ⟨o, cap, e, h.keep k hs⟩
theorem Mv.grow {bad : Nat → Prop} {w w' : World} {v : Value} {m : St} (h : Mv bad w v m) (k : Below w.heap.size w w') : Mv bad w' v m := h.keep (Keep.of_below k) (fun _ _ h => h.elim)
theorem mv_new (bad : Nat → Prop) (base : Int) (w : World) : Mv bad w (.agg (cs (newS base) (.slice none 0 0))) (newS base, []) :=
  ⟨none, 0, rfl, fun i hi => absurd hi (by simp), fun i j => by simp, fun i => by simp⟩

theorem ahead_any (a b : Past) (o1 : Option Addr) (c1 : Nat) (o2 : Option Addr) (c2 : Nat) (o3 : Option Addr) (c3 : Nat) (o4 : Option Addr) (c4 : Nat) (w : World) :
    Calls Try.prog 29 #[.agg (pcells a o1 c1 o2 c2), .agg (pcells b o3 c3 o4 c4)] w fun e w' => e = .returned (.bool (ahead a b)) ∧ Below w.heap.size w w' := by
  have kk : Below w.heap.size w ((w.alloc (.cells (pcells a o1 c1 o2 c2) 50)).alloc (.cells (pcells b o3 c3 o4 c4) 50)) := ((Below.refl _ w).alloc (Nat.le_refl _) _).alloc (by simp) _
  have HK := Lib.hid kk
  clear kk
  unfold ahead
  unfold pcells at HK ⊢
  by_cases h0 : a.en = 0
  · have e0 : (a.en != 0) = false := by simp [h0]
    have e1 : decide (a.en ≠ 0 ∧ a.en < b.beg) = false := by simp [h0]
    rw [e1]
    clear h0 e1
    go_enter Try.func29, Try.ntmps29
    go_wp2_with fail
    go_ret
    exact ⟨rfl, HK.out⟩
  · have e0 : (a.en != 0) = true := by simp [h0]
    have e1 : decide (a.en ≠ 0 ∧ a.en < b.beg) = decide (a.en < b.beg) := by simp [h0]
    rw [e1]
    clear h0 e1
    go_enter Try.func29, Try.ntmps29
    go_wp2_with fail
    go_ret
    exact ⟨rfl, HK.out⟩

theorem half_grown' {s s' : S} {bs bs' : List (List Nat)} {kind cl : Int} {D : List Nat} (h : halfF s bs kind cl D = some (s', bs')) : Grown bs D bs' := by
  unfold halfF at h
  split at h
  · exact half_grown h
  · cases h
theorem apply_grown' {s s' : S} {bs bs' : List (List Nat)} {kind cl err lsn : Int} {D R : List Nat} (h : applyF s bs kind cl D err lsn R = some (s', bs')) : Grown bs D bs' := by
  unfold applyF at h
  split at h
  · exact apply_grown h
  · cases h
theorem results_step (tmps : Array Value) (w : World) (bo : Nat) (s : S) (rv v : Value) (h4 : tmps.getD 4 undef = .pointer (some ⟨bo, 0, none⟩)) (h5 : tmps.getD 5 undef = v) (ho : outAt w bo s rv) :
    (results Try.f30 tmps).run Try.prog w = .ok (.tuple #[.agg (cs s rv), v]) w := by
  have h1 := run_loadVar_row (P := Try.prog) w bo 26 26 (cs s rv) (0, 0) _ ho Try.underlying26 rfl model_size
  have e4 : tmps[4]?.getD undef = .pointer (some ⟨bo, 0, none⟩) := by simpa using h4
  have e5 : tmps[5]?.getD undef = v := by simpa using h5
  simp [results, Try.results30, e4, e5, asAddr, h1]

/-- What a step answers: the state then, in new blocks. -/
def StepRes (O : Option St) (w : World) (e : Ending) (w' : World) : Prop :=
  (match O with
    | some m' => ∃ v', e = .returned (.tuple #[v', .bool true]) ∧ Mv (fun x => x < w.heap.size) w' v' m'
    | none => e = .returned (.tuple #[.agg (cs zS (.slice none 0 0)), .bool false])) ∧ Below w.heap.size w w'

set_option maxRecDepth 100000 in
set_option maxHeartbeats 4000000 in
theorem step_any {bad : Nat → Prop} {w : World} {v : Value} {m : St} (hm : Mv bad w v m) (hn : m.2.length ≤ 1000000) (hI : Inv m.1 m.2.length) (p : Past) (od : Option Addr) (cd : Nat) (ord : Option Addr) (crd : Nat) (hp : PS w p od cd ord crd) :
    Calls Try.prog 30 #[v, .agg (pcells p od cd ord crd)] w (StepRes (stepF m p) w) := by
  obtain ⟨o, cap, rfl, hSB⟩ := hm
  have hS := hSB.src
  obtain ⟨s, bs⟩ := m
  simp only at hS hn hI
  have hb3 : Below w.heap.size w (((w.alloc (.cells (cs s (.slice o bs.length cap)) 26)).alloc (.cells (pcells p od cd ord crd) 50)).alloc (.cells (cs zS (.slice none 0 0)) 26)) := (((Below.refl _ w).alloc (Nat.le_refl _) _).alloc (by simp) _).alloc (by simp; omega) _
  have ho3 : outAt (((w.alloc (.cells (cs s (.slice o bs.length cap)) 26)).alloc (.cells (pcells p od cd ord crd) 50)).alloc (.cells (cs zS (.slice none 0 0)) 26)) (w.heap.size + 1 + 1) zS (.slice none 0 0) := blk_new_at _ _ (by simp)
  have hz3 : (((w.alloc (.cells (cs s (.slice o bs.length cap)) 26)).alloc (.cells (pcells p od cd ord crd) 50)).alloc (.cells (cs zS (.slice none 0 0)) 26)).heap.size = w.heap.size + 3 := by simp
  have hp3 := hp.keep hb3
  have HH := Lib.hid (half_any s o cap bs p.kind p.cl od cd p.D _ (hS.keep hb3) hn hI hp3.hD hp3.hc hp3.hv)
  have HA := Lib.hid (apply_any s o cap bs p.kind p.cl p.err p.lsn od cd p.D ord crd p.R _ (hS.keep hb3) hn hI hp3.hD hp3.hc hp3.hv hp3.hR hp3.hrv)
  have HW := Lib.hid (And.intro hb3 (And.intro ho3 (And.intro hz3 hS.short)))
  clear hb3 ho3 hz3 hp3 hSB hS hp hI
  have hO : stepF (s, bs) p = if p.en = 0 then halfF s bs p.kind p.cl p.D else applyF s bs p.kind p.cl p.D p.err p.lsn p.R := rfl
  generalize stepF (s, bs) p = O at *
  have HO := Lib.hid hO
  clear hO
  unfold pcells cs at HH HA HW ⊢
  unfold zS at HH HA HW
  simp only at HH HA HW ⊢
  generalize hbl : bs.length = n at *
  have HL := Lib.hid hbl
  clear hbl
  by_cases he : p.en = 0
  · have e0 : (p.en == 0) = true := by simp [he]
    rw [if_pos he] at HO
    clear HA he
    go_enter Try.func30, Try.ntmps30
    go_wp2_with fail
    refine HH.out.mono ?_
    intro e w4 h
    rcases hq : halfF s bs p.kind p.cl p.D with _ | ⟨s', bs'⟩
    · rw [hq] at h
      obtain ⟨rfl, hb⟩ := h
      have ho4 : outAt w4 (w.heap.size + 1 + 1) zS (.slice none 0 0) := (hb.block _ (by have := HW.out.2.2.1; omega)).trans HW.out.2.1
      have hb4 : Below w.heap.size w w4 := HW.out.1.trans (hb.mono HW.out.1.size)
      have H4 := Lib.hid (And.intro ho4 hb4)
      have HQ := Lib.hid hq
      clear hb ho4 hb4 hq
      go_wp2_with (refine store_guard (.tmp 4) (.tmp 13) 26 (by rfl) ?_; go_must (refine wpList_store_row rfl 26 (.tmp 4) (.tmp 13) rfl (w.heap.size + 1 + 1) (cs zS (.slice none 0 0)) rfl rfl 26 _ H4.out.1 model_size rfl (cs_all _ _ _ _) ?_))
      refine bodyPost_ret (results_step _ _ (w.heap.size + 1 + 1) zS (.slice none 0 0) (.bool false) rfl rfl (setRow_heap w4 _ _ _ _ _ H4.out.1)) rfl ?_
      obtain rfl : O = none := HO.out.trans HQ.out
      exact ⟨rfl, H4.out.2.trans ((Keep.setRow (bs := (· = w.heap.size + 1 + 1)) (Keep.refl _ w4) (Or.inl rfl) _).below H4.out.2.size (fun b hb => by omega))⟩
    · rw [hq] at h
      obtain ⟨⟨base, g, o', cap', xs', rfl, hrec, hba⟩, hb⟩ := h
      have hgrow := short_grown (half_grown' hq) HW.out.2.2.2
      have ho4 : outAt w4 (w.heap.size + 1 + 1) zS (.slice none 0 0) := (hb.block _ (by have := HW.out.2.2.1; omega)).trans HW.out.2.1
      have hb4 : Below w.heap.size w w4 := HW.out.1.trans (hb.mono HW.out.1.size)
      have hbl : w.heap.size + 3 ≤ base := by have := HW.out.2.2.1; omega
      have H4 := Lib.hid (And.intro ho4 (And.intro hb4 (And.intro hbl (srcb_of hrec hgrow))))
      have HQ := Lib.hid hq
      clear hb ho4 hb4 hbl hq hrec hba hgrow
      go_wp2_with (refine store_guard (.tmp 4) (.tmp 13) 26 (by rfl) ?_; go_must (refine wpList_store_row rfl 26 (.tmp 4) (.tmp 13) rfl (w.heap.size + 1 + 1) (cs s' (.slice o' bs'.length cap')) rfl rfl 26 _ H4.out.1 model_size rfl (cs_all _ _ _ _) ?_))
      refine bodyPost_ret (results_step _ _ (w.heap.size + 1 + 1) s' (.slice o' bs'.length cap') (.bool true) rfl rfl (setRow_heap w4 _ _ _ _ _ H4.out.1)) rfl ?_
      have kk := Keep.setRow (bs := (· = w.heap.size + 1 + 1)) (Keep.refl _ w4) (Or.inl rfl) (cs s' (.slice o' bs'.length cap'))
      obtain rfl : O = some (s', bs') := HO.out.trans HQ.out
      have hbl := H4.out.2.2.1
      exact ⟨⟨_, rfl, o', cap', rfl, (H4.out.2.2.2.keep kk (fun x _ hx => by omega)).sub (fun x _ hx => by omega)⟩, H4.out.2.1.trans (kk.below H4.out.2.1.size (fun b hb => by omega))⟩
  · have e0 : (p.en == 0) = false := by simp [he]
    rw [if_neg he] at HO
    clear HH he
    go_enter Try.func30, Try.ntmps30
    go_wp2_with fail
    refine HA.out.mono ?_
    intro e w4 h
    rcases hq : applyF s bs p.kind p.cl p.D p.err p.lsn p.R with _ | ⟨s', bs'⟩
    · rw [hq] at h
      obtain ⟨rfl, hb⟩ := h
      have ho4 : outAt w4 (w.heap.size + 1 + 1) zS (.slice none 0 0) := (hb.block _ (by have := HW.out.2.2.1; omega)).trans HW.out.2.1
      have hb4 : Below w.heap.size w w4 := HW.out.1.trans (hb.mono HW.out.1.size)
      have H4 := Lib.hid (And.intro ho4 hb4)
      have HQ := Lib.hid hq
      clear hb ho4 hb4 hq
      go_wp2_with (refine store_guard (.tmp 4) (.tmp 21) 26 (by rfl) ?_; go_must (refine wpList_store_row rfl 26 (.tmp 4) (.tmp 21) rfl (w.heap.size + 1 + 1) (cs zS (.slice none 0 0)) rfl rfl 26 _ H4.out.1 model_size rfl (cs_all _ _ _ _) ?_))
      refine bodyPost_ret (results_step _ _ (w.heap.size + 1 + 1) zS (.slice none 0 0) (.bool false) rfl rfl (setRow_heap w4 _ _ _ _ _ H4.out.1)) rfl ?_
      obtain rfl : O = none := HO.out.trans HQ.out
      exact ⟨rfl, H4.out.2.trans ((Keep.setRow (bs := (· = w.heap.size + 1 + 1)) (Keep.refl _ w4) (Or.inl rfl) _).below H4.out.2.size (fun b hb => by omega))⟩
    · rw [hq] at h
      obtain ⟨⟨base, g, o', cap', xs', rfl, hrec, hba⟩, hb⟩ := h
      have hgrow := short_grown (apply_grown' hq) HW.out.2.2.2
      have ho4 : outAt w4 (w.heap.size + 1 + 1) zS (.slice none 0 0) := (hb.block _ (by have := HW.out.2.2.1; omega)).trans HW.out.2.1
      have hb4 : Below w.heap.size w w4 := HW.out.1.trans (hb.mono HW.out.1.size)
      have hbl : w.heap.size + 3 ≤ base := by have := HW.out.2.2.1; omega
      have H4 := Lib.hid (And.intro ho4 (And.intro hb4 (And.intro hbl (srcb_of hrec hgrow))))
      have HQ := Lib.hid hq
      clear hb ho4 hb4 hbl hq hrec hba hgrow
      go_wp2_with (refine store_guard (.tmp 4) (.tmp 21) 26 (by rfl) ?_; go_must (refine wpList_store_row rfl 26 (.tmp 4) (.tmp 21) rfl (w.heap.size + 1 + 1) (cs s' (.slice o' bs'.length cap')) rfl rfl 26 _ H4.out.1 model_size rfl (cs_all _ _ _ _) ?_))
      refine bodyPost_ret (results_step _ _ (w.heap.size + 1 + 1) s' (.slice o' bs'.length cap') (.bool true) rfl rfl (setRow_heap w4 _ _ _ _ _ H4.out.1)) rfl ?_
      have kk := Keep.setRow (bs := (· = w.heap.size + 1 + 1)) (Keep.refl _ w4) (Or.inl rfl) (cs s' (.slice o' bs'.length cap'))
      obtain rfl : O = some (s', bs') := HO.out.trans HQ.out
      have hbl := H4.out.2.2.1
      exact ⟨⟨_, rfl, o', cap', rfl, (H4.out.2.2.2.keep kk (fun x _ hx => by omega)).sub (fun x _ hx => by omega)⟩, H4.out.2.1.trans (kk.below H4.out.2.1.size (fun b hb => by omega))⟩
end Go.Proofs.Ytjiehgfamlidnaa.Lin
