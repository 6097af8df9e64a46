/- The model package: change. By an AI agent. -/
import Derived.Test.YtjiehgfamlidnaaModJ
namespace Go.Proofs.Ytjiehgfamlidnaa
open Go.ChangeShapes Go.WideShapes Go.ChangeAt Go.RowKit
set_option linter.unusedVariables false
namespace Md

/-- What change answers. -/
def ChRes (O : Option (S × List (List Nat))) (w : World) (e : Ending) (w' : World) : Prop :=
  match O with
  | some (s, bs) => (∃ base g o cap xs, e = .returned (.tuple #[.agg (cs s (.slice o bs.length cap)), .bool true]) ∧ Recs w' base g (.slice o bs.length cap) bs xs ∧ w.heap.size ≤ base) ∧ Below w.heap.size w w'
  | none => e = .returned (.tuple #[.agg (cs zS (.slice none 0 0)), .bool false]) ∧ Below w.heap.size w w'

theorem load_guard {P : Program} {ops : Array Oper} {rest : List Oper} {o : Oper} {a : Act} {w : World} {Q : Exit → Act → World → Prop} (x : Operand) (ty : TypeId) (ho : o.op = .load ty x)
    (h : wpList P ops Q (o :: rest) a w) : wpList P ops Q (o :: rest) a w := h
theorem results_change (tmps : Array Value) (w : World) (bo bk : Nat) (s : S) (rv : Value) (x : Bool) (h4 : tmps.getD 4 undef = .pointer (some ⟨bo, 0, none⟩)) (h5 : tmps.getD 5 undef = .pointer (some ⟨bk, 0, none⟩)) (ho : outAt w bo s rv) (hk : okAt w bk x) :
    (results Try.f18 tmps).run Try.prog w = .ok (.tuple #[.agg (cs s rv), .bool x]) w := by
  have h1 := run_loadVar_row (P := Try.prog) w bo 26 26 (cs s rv) (0, 0) _ ho Try.underlying26 rfl model_size
  have h2 := blk_cell hk 0
  simp at h2
  have h3 : (loadVar 4 ⟨bk, 0, none⟩).run Try.prog w = .ok (.bool x) w := by simp [go_sem, h2]
  have e4 : tmps[4]?.getD undef = .pointer (some ⟨bo, 0, none⟩) := by simpa using h4
  have e5 : tmps[5]?.getD undef = .pointer (some ⟨bk, 0, none⟩) := by simpa using h5
  simp [results, Try.results18, e4, e5, asAddr, h1, h3]

theorem Recs.keep1 {w w' : World} {base g b0 : Nat} {rv : Value} {bs : List (List Nat)} {xs : List Value} (h : Recs w base g rv bs xs) (k : Keep (· = b0) w w') (hb : b0 < base) : Recs w' base g rv bs xs := by
  have hne : rv.ownBlock ≠ some b0 := fun e => by have := (h.row.lt b0 e).1; omega
  refine ⟨?_, h.apart, fun i hi => ?_, h.small⟩
  · refine h.row.kept (row := some b0) ⟨k.os, k.tape, k.output, k.size, fun i hi hn => k.block i hi (fun e => hn (by rw [e]))⟩ ?_
    rcases hq : rv.ownBlock with _ | i
    · exact Or.inl rfl
    · exact Or.inr (by intro e; exact hne (by rw [hq]; exact e))
  · obtain ⟨o, c, e1, e2, e3, e4⟩ := h.each i hi
    exact ⟨o, c, e1, bys_keep' e2 k (fun ad _ ho hb' => by have := (e4 ad ho).2.2.1; omega), e3, fun a ha => ⟨(e4 a ha).1, Nat.lt_of_lt_of_le (e4 a ha).2.1 k.size, (e4 a ha).2.2⟩⟩

theorem src_of {w : World} {base g : Nat} {rv : Value} {bs : List (List Nat)} {xs : List Value} (h : Recs w base g rv bs xs) (hs : ∀ i, (bs.getD i []).length ≤ 4096) : ∃ o cap, rv = .slice o bs.length cap ∧ Src w o bs := by
  rcases h.row.2 with ⟨h1, h2⟩ | ⟨g', cap, cells, rfl, -⟩
  · exact ⟨none, 0, by rw [h1, h2], fun i hi => absurd hi (by omega), h.small, hs⟩
  · refine ⟨_, cap, rfl, fun i hi => ?_, h.small, hs⟩
    obtain ⟨o, c, e1, e2, e3, -⟩ := h.each i hi
    refine ⟨_, rfl, o, c, ?_, e2, e3⟩
    have hc := h.row.cellAt i (by omega)
    rw [addr_add, Nat.zero_add]
    rw [hc, e1]

set_option maxRecDepth 100000 in
set_option maxHeartbeats 4000000 in
theorem change_any (s : S) (o : Option Addr) (cap : Nat) (bs : List (List Nat)) (K : FuncId) (caps : Array Value) (O : Option (S × List (List Nat))) (w : World) (hS : Src w o bs) (hn : bs.length ≤ 1000000)
    (hent : ∀ (args : Array Value) (w : World), (callFunc K args).run Try.prog w = .ok (.enter K args) w) (hO : ∀ s' bs', O = some (s', bs') → ∀ i, (bs'.getD i []).length ≤ 4096)
    (HF : ∀ (base g : Nat) (rv : Value) (xs : List Value) (w1 : World), w.heap.size ≤ base → base ≤ g → Below w.heap.size w w1 → At w1 g s rv → Recs w1 base g rv bs xs → Calls Try.prog K (#[.pointer (some ⟨g, 0, none⟩)] ++ caps) w1 (ResR base g rv O w1)) :
    Calls Try.prog 18 #[.agg (cs s (.slice o bs.length cap)), .func (.func K) #[] caps] w (ChRes O w) := by
  have hmf : ∀ (fn : Fn) (first cap : Array Value) (w : World), (Instr.makeFunc fn first cap).run Try.prog w = .ok (.func fn first cap) w := fun _ _ _ _ => rfl
  have HFO := Lib.hid hO
  have HFH := Lib.hid (And.intro HF hO)
  have HS := Lib.hid hS
  clear HF hS hO
  have HC : Hid (∀ w', Below w.heap.size w w' → Calls Try.prog 32 #[.agg (cs s (.slice o bs.length cap))] w' fun e w'' => ∃ g rv xs, e = .returned (.pointer (some ⟨g, 0, none⟩)) ∧ At w'' g s rv ∧ Recs w'' w'.heap.size g rv bs xs ∧ w'.heap.size ≤ g ∧ Below w'.heap.size w' w'') :=
    Lib.hid fun w' k => own_any s o cap bs w' (HS.out.keep k) hn
  have hw3 : outAt (((w.alloc (.cells (cs s (.slice o bs.length cap)) 26)).alloc (.cells (cs zS (.slice none 0 0)) 26)).alloc (.cells #[.bool false] 4)) (w.heap.size + 1) zS (.slice none 0 0) := blk_alloc (blk_new_at (w.alloc (.cells (cs s (.slice o bs.length cap)) 26)) (.cells (cs zS (.slice none 0 0)) 26) (n := w.heap.size + 1) (by simp)) _
  have hk3 : okAt (((w.alloc (.cells (cs s (.slice o bs.length cap)) 26)).alloc (.cells (cs zS (.slice none 0 0)) 26)).alloc (.cells #[.bool false] 4)) (w.heap.size + 1 + 1) false := blk_new_at ((w.alloc (.cells (cs s (.slice o bs.length cap)) 26)).alloc (.cells (cs zS (.slice none 0 0)) 26)) (.cells #[.bool false] 4) (n := w.heap.size + 1 + 1) (by simp)
  have hz3 : (((w.alloc (.cells (cs s (.slice o bs.length cap)) 26)).alloc (.cells (cs zS (.slice none 0 0)) 26)).alloc (.cells #[.bool false] 4)).heap.size = w.heap.size + 3 := by simp
  have HW := Lib.hid (And.intro ((((Below.refl w.heap.size w).alloc (Nat.le_refl _) (.cells (cs s (.slice o bs.length cap)) 26)).alloc (by simp) (.cells (cs zS (.slice none 0 0)) 26)).alloc (by simp; omega) (.cells #[.bool false] 4)) (And.intro hw3 (And.intro hk3 hz3)))
  clear hw3 hk3 hz3
  unfold cs at HC HW ⊢
  unfold zS at HW
  simp only at HC HW ⊢
  generalize hbl : bs.length = n at *
  have HBL := Lib.hid hbl
  clear hbl
  go_enter_defers Try.func18, Try.ntmps18
  go_wp2_with fail
  refine (HC.out _ HW.out.1).mono ?_
  rintro e w1 ⟨g, rv, xs, rfl, hat, hrec, hge, hb1⟩
  have hz3 := HW.out.2.2.2
  have ho1 : outAt w1 (w.heap.size + 1) zS (.slice none 0 0) := (hb1.block _ (by omega)).trans HW.out.2.1
  have hk1 : okAt w1 (w.heap.size + 1 + 1) false := (hb1.block _ (by omega)).trans HW.out.2.2.1
  have hbw : Below w.heap.size w w1 := HW.out.1.trans (hb1.mono (by omega))
  have HCL := Lib.hid (HFH.out.1 _ g rv xs w1 (by omega) hge hbw hat hrec)
  have H1 := Lib.hid (And.intro ho1 (And.intro hk1 (And.intro hbw (And.intro hge hrec.row))))
  have hgw : w.heap.size + 3 ≤ g := by omega
  clear hat hrec hge hb1 hz3 ho1 hk1 hbw HC HFH
  go_wp2_with fail
  refine HCL.out.mono ?_
  intro e w2 h
  have hz3 := HW.out.2.2.2
  have far : ∀ b, b < w.heap.size + 3 → ¬ (b = g ∨ rv.ownBlock = some b) := fun b hb h => by
    rcases h with h | h
    · omega
    · have := (H1.out.2.2.2.2.lt b h).1; omega
  rcases O with _ | ⟨s', bs'⟩
  · obtain ⟨rfl, hk⟩ := h
    have ho2 : outAt w2 (w.heap.size + 1) zS (.slice none 0 0) := hk.same H1.out.1 (far _ (by omega))
    have hk2 : okAt w2 (w.heap.size + 1 + 1) false := hk.same H1.out.2.1 (far _ (by omega))
    have hb2 : Below w.heap.size w w2 := H1.out.2.2.1.trans (hk.below H1.out.2.2.1.size (fun b hb => by
      rcases Nat.lt_or_ge b (w.heap.size + 3) with h | h
      · exact absurd hb (far b h)
      · omega))
    refine leaves_cons (f := 33) (args := #[.pointer (some ⟨w.heap.size + 1, 0, none⟩), .pointer (some ⟨w.heap.size + 1 + 1, 0, none⟩)]) (by simp) (by simp [go_sem]) ?_
    refine (catch_any (w.heap.size + 1) (w.heap.size + 1 + 1) zS (.slice none 0 0) false w2 ho2 hk2 (by omega)).mono ?_
    rintro e u' w3 ⟨rfl, rfl, ho3, hk3, hk⟩
    have hb3 : Below w.heap.size w w3 := hb2.trans (hk.below hb2.size (fun b hb => by omega))
    exact ⟨_, results_change _ w3 (w.heap.size + 1) (w.heap.size + 1 + 1) zS (.slice none 0 0) false rfl rfl ho3 hk3, rfl, hb3⟩
  · obtain ⟨rfl, ⟨rv', xs', hat, hrec⟩, hk⟩ := h
    obtain ⟨o', cap', rfl, -⟩ := src_of hrec (HFO.out s' bs' rfl)
    have hsrc := (hrec.keep1 (Keep.setRow (bs := (· = w.heap.size + 1)) (Keep.refl _ w2) (Or.inl rfl) (cs s' (.slice o' bs'.length cap'))) (by omega)).keep1 (Keep.setCell (bs := (· = w.heap.size + 1 + 1)) (Keep.refl _ _) (p := ⟨w.heap.size + 1 + 1, 0, none⟩) (Or.inl rfl) (.bool true)) (by omega)
    have ho2 : outAt w2 (w.heap.size + 1) zS (.slice none 0 0) := hk.same H1.out.1 (far _ (by omega))
    have hk2 : okAt w2 (w.heap.size + 1 + 1) false := hk.same H1.out.2.1 (far _ (by omega))
    have hb2 : Below w.heap.size w w2 := H1.out.2.2.1.trans (hk.below H1.out.2.2.1.size (fun b hb => by
      rcases Nat.lt_or_ge b (w.heap.size + 3) with h | h
      · exact absurd hb (far b h)
      · omega))
    have hk3 : (w2.setRow (w.heap.size + 1) (cs s' (.slice o' bs'.length cap'))).heap[w.heap.size + 1 + 1]? = some (.cells #[.bool false] 4 (0, 0)) := (setRow_other w2 (w.heap.size + 1) (w.heap.size + 1 + 1) _ (by omega)).trans hk2
    have k0 := blk_cell hk3 0
    have kz := blk_free hk3 0
    simp at k0
    have HX := Lib.hid (And.intro hat (And.intro hsrc (And.intro hb2 (And.intro ho2 hk3))))
    clear hat hrec hk hsrc hb2 ho2 hk2 hk3 far
    go_wp2_with (first | (refine load_guard (.tmp 15) 26 (by rfl) ?_; go_must (refine wpList_load_row rfl 26 (.tmp 15) rfl g rfl 59 (cs s' (.slice o' bs'.length cap')) (0, 0) _ HX.out.1 Try.underlying26 rfl model_size ?_)) | (refine store_guard (.tmp 4) (.tmp 16) 26 (by rfl) ?_; go_must (refine wpList_store_row rfl 26 (.tmp 4) (.tmp 16) rfl (w.heap.size + 1) (cs s' (.slice o' bs'.length cap')) rfl rfl 26 _ HX.out.2.2.2.1 model_size rfl (cs_all _ _ _ _) ?_)))
    refine leaves_cons (f := 33) (args := #[.pointer (some ⟨w.heap.size + 1, 0, none⟩), .pointer (some ⟨w.heap.size + 1 + 1, 0, none⟩)]) (by simp) (by simp [go_sem]) ?_
    refine (idle_any ⟨w.heap.size + 1, 0, none⟩ ⟨w.heap.size + 1 + 1, 0, none⟩ _).mono ?_
    rintro e u' w3 ⟨rfl, rfl, rfl⟩
    have hk4 := blk_set HX.out.2.2.2.2 0 (.bool true)
    have ho4 : outAt ((w2.setRow (w.heap.size + 1) (cs s' (.slice o' bs'.length cap'))).setCell ⟨w.heap.size + 1 + 1, 0, none⟩ (.bool true)) (w.heap.size + 1) s' (.slice o' bs'.length cap') := by
      show (World.setCell _ ⟨w.heap.size + 1 + 1, 0, none⟩ _).heap[w.heap.size + 1]? = _
      rw [Below.heap_setCell _ _ _ _ (by show w.heap.size + 1 ≠ w.heap.size + 1 + 1; omega)]
      exact setRow_heap w2 _ _ _ _ _ HX.out.2.2.2.1
    have kk : Keep (fun b => b = w.heap.size + 1 ∨ b = w.heap.size + 1 + 1) w2 ((w2.setRow (w.heap.size + 1) (cs s' (.slice o' bs'.length cap'))).setCell ⟨w.heap.size + 1 + 1, 0, none⟩ (.bool true)) :=
      Keep.setCell (bs := fun b => b = w.heap.size + 1 ∨ b = w.heap.size + 1 + 1) (Keep.setRow (Keep.refl _ w2) (Or.inl (Or.inl rfl)) _) (p := ⟨w.heap.size + 1 + 1, 0, none⟩) (Or.inl (Or.inr rfl)) _
    refine ⟨_, results_change _ _ (w.heap.size + 1) (w.heap.size + 1 + 1) s' (.slice o' bs'.length cap') true rfl rfl ho4 hk4, ⟨_, g, o', cap', xs', rfl, HX.out.2.1, by rw [HW.out.2.2.2]; omega⟩, HX.out.2.2.1.trans (kk.below HX.out.2.2.1.size (fun b hb => by omega))⟩
end Md
end Go.Proofs.Ytjiehgfamlidnaa
