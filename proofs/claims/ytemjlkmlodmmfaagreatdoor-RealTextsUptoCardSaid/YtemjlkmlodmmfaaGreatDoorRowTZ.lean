/- RealTexts: the row. By an AI agent. Printed by genRow.py. -/
import Derived.Test.YtemjlkmlodmmfaaGreatDoorMg08
import Derived.Test.YtemjlkmlodmmfaaGreatDoorMg19
namespace Go.Proofs.YtemjlkmlodmmfaaGreatDoor.realTexts
open Go.ChangeShapes Go.WideShapes Go.ChangeAt Go.RowKit
open Bt
set_option linter.unusedVariables false

theorem one_le {H : Type} (d : DataW H) : 1 ≤ Rows.uptoBulk d := by
  cases d with
  | lit l => cases l <;> simp [Rows.uptoBulk]
  | nil => simp [Rows.uptoBulk]
  | ptr d => simp [Rows.uptoBulk]
  | slice elems spare => simp [Rows.uptoBulk]
  | agg parts => simp [Rows.uptoBulk]
  | iface t d => simp [Rows.uptoBulk]
  | map entries => simp [Rows.uptoBulk]
  | held h => simp [Rows.uptoBulk]
theorem length_le {H : Type} (l : List (DataW H)) : l.length ≤ Rows.uptoBulkAll l := by
  induction l with
  | nil => simp [Rows.uptoBulkAll]
  | cons x r ih => have := one_le x; simp only [Rows.uptoBulkAll, List.length_cons]; omega
theorem slice_len {H : Type} {d : DataW H} {Z : List Nat} (h : (d = .nil ∧ Z = []) ∨ ∃ el sp, d = .slice el sp ∧ el.length = Z.length) : Z.length ≤ Rows.uptoBulk d := by
  rcases h with ⟨rfl, rfl⟩ | ⟨el, sp, rfl, h⟩
  · simp
  · have := length_le el
    simp only [Rows.uptoBulk]
    omega

theorem texts_each {H : Type} : ∀ (Z : List ByteArray) (i : Nat), i < Z.length → (Z.getD i .empty).size ≤ Rows.uptoBulkAll (Z.map fun s => (.lit (.string s.data.toList) : DataW H))
  | [], i, hi => absurd hi (by simp)
  | s :: r, 0, _ => by
    have e : s.size = s.data.toList.length := by rw [Array.length_toList]; rfl
    simp only [List.map_cons, Rows.uptoBulkAll, Rows.uptoBulk, List.getD_cons_zero]
    omega
  | s :: r, i + 1, hi => by
    have h := texts_each (H := H) r i (by simpa using hi)
    simp only [List.map_cons, Rows.uptoBulkAll, List.getD_cons_succ]
    omega
theorem texts_len {H : Type} {d : DataW H} {Z : List ByteArray} (h : (d = .nil ∧ Z = []) ∨ ∃ sp, d = .slice (Z.map fun s => .lit (.string s.data.toList)) sp) : Z.length ≤ Rows.uptoBulk d ∧ ∀ i, i < Z.length → (Z.getD i .empty).size ≤ Rows.uptoBulk d := by
  rcases h with ⟨rfl, rfl⟩ | ⟨sp, rfl⟩
  · exact ⟨by simp, fun i hi => absurd hi (by simp)⟩
  · refine ⟨?_, fun i hi => ?_⟩
    · have := length_le (Z.map fun s => (.lit (.string s.data.toList) : DataW H))
      simp only [Rows.uptoBulk]
      rw [List.length_map] at this
      omega
    · have := texts_each (H := H) Z i hi
      simp only [Rows.uptoBulk]
      omega

theorem parts {H : Type} {enc : TypeId × Value → H} {P : Program} {w : World} {base : Nat} {spare : Nat → Bool} {held : Bool} {t0 t1 : TypeId} {args : Array Value} {ds : List (DataW H)} {ps : List MemPlace} (h : DataW.TrodAll enc P w base spare held [t0, t1] args.toList ds ps) :
    ∃ v0 v1 d0 d1 p0 p1, args = #[v0, v1] ∧ ds = [d0, d1] ∧ ps = (p0 ++ (p1 ++ [])) ∧ DataW.Trod enc P w base spare held t0 v0 d0 p0 ∧ DataW.Trod enc P w base spare held t1 v1 d1 p1 := by
  obtain ⟨v0, vs0, d0, ds', p0, q, ha, rfl, rfl, h0, h⟩ := trodAll_cons h
  obtain ⟨v1, vs1, d1, ds', p1, q, rfl, rfl, rfl, h1, h⟩ := trodAll_cons h
  obtain ⟨rfl, rfl, rfl⟩ := trodAll_nil h
  exact ⟨v0, v1, d0, d1, p0, p1, by cases args; simp_all, rfl, rfl, h0, h1⟩

theorem laid_eq : Rows.realTextsUptoRow.laid = Rows.realTextsRow.laid := by kernel_rfl
set_option maxRecDepth 100000 in
theorem contract (H : Type) (enc : TypeId × Value → H) (W : World) (base : Nat) (args : Array Value) (ds gs : List (DataW H)) (before : List MemPlace)
    (hval : ∀ (j : Nat) t v, Tryz.f3.params[j]? = some t → args[j]? = some v → Value.okWide Tryz.prog W .any base t v)
    (hW : DataW.Whole enc Tryz.prog Tryz.f3.params.toList Rows.realTextsSpec.vars false W args.toList ds gs before) (hL : laidMetH Tryz.prog Rows.realTextsUptoRow.laid W) (hk : Rows.uptoSmall H (ds ++ gs) = true) :
    Calls Tryz.prog 3 args W fun e W' => ∃ v, e = .returned v ∧ Rows.realTextsSpec.post enc Tryz.prog Tryz.f3 false true false false W args v W' := by
  have hW' := hW
  rw [laid_eq] at hL
  obtain ⟨hopt, hT⟩ := tables hL
  obtain ⟨hE, hX⟩ := env_of hL
  obtain ⟨p, q, hA0, hV, rfl, hfz, hnd⟩ := hW
  have hA : DataW.TrodAll enc Tryz.prog W 0 (fun _ => true) true Tryz.f3.params.toList args.toList ds p := hA0
  rw [Tryz.params3] at hA hval
  obtain ⟨v0, v1, d0, d1, p0, p1, rfl, rfl, rfl, h0, h1⟩ := parts hA
  have hb := of_decide_eq_true hk
  simp only [List.cons_append, List.nil_append, Rows.uptoBulkAll] at hb
  obtain ⟨s0, l0, c0, rfl⟩ := okWide_slice Tryz.underlying22 (hval 0 22 v0 rfl rfl)
  obtain ⟨o0, e0, B0, q0, hB0, vB0, -, -, -, z0⟩ := open_nats (M := 18446744073709551616) Tryz.underlying22 Tryz.underlying42 (by kernel_rfl) u64_wf (by omega) rfl h0
  have y0 := slice_len z0
  obtain ⟨s1, l1, c1, rfl⟩ := okWide_slice Tryz.underlying23 (hval 1 23 v1 rfl rfl)
  obtain ⟨o1, e1, B1, q1, hB1, z1⟩ := open_texts Tryz.underlying23 Tryz.underlying9 (by kernel_rfl) rfl h1
  have y1 := texts_len z1
  rw [q0, q1] at hW' ⊢
  refine (walk o0 o1 B0 B1 e0 e1 W hB0 vB0 (by omega) hB1 (fun i hi => by have := y1.2 i hi; omega) (by omega) hopt hT hE hX).mono fun e W' ⟨he, hk⟩ => ?_
  subst he
  exact ⟨_, rfl, law_post (by kernel_rfl) (T := 4) (hts_of (by kernel_rfl)) hW' rfl rfl rfl Tryz.underlying4 hk⟩

theorem reads (os : Os) {H : Type} (enc : TypeId × Value → H) : ∃ places, DataW.whole enc Tryz.prog ((laidW os).forCall (fun _ _ => 0) ⟨#[], #[.slice none 0 0, .slice none 0 0], []⟩).memory Tryz.f3.params.toList Rows.realTextsSpec.vars false #[Value.slice none 0 0, Value.slice none 0 0].toList 8 = some ([.nil, .nil], [], places) :=
  ⟨[], by kernel_rfl⟩

set_option maxRecDepth 100000 in
theorem lifted (os : Os) (started : os.Started) (H : Type) (enc : TypeId × Value → H) (F : Stop.Interp) :
    ReturnsInHanded {} Tryz.checked os 3 .any ((Rows.OpenSpec.upto Rows.realTextsSpec).preRow enc Tryz.prog Tryz.f3 Rows.realTextsUptoRow.domain false Rows.realTextsUptoRow.laid) (((Rows.OpenSpec.upto Rows.realTextsSpec).at F).post enc Tryz.prog Tryz.f3 false true false false) := by
  obtain ⟨places, hx⟩ := reads os enc
  refine returnsInHanded_of_row (C := Tryz.checked) (s := Rows.OpenSpec.upto Rows.realTextsSpec) own started (by kernel_rfl) Tryz.func3
    (witness_of (enc := enc) (C := Tryz.checked) (laidW os) #[.slice none 0 0, .slice none 0 0] (laidW_os os) (laidW_shaped os _) (by kernel_rfl)
      (OpenSpec.preRow_of_cond 8 hx (by kernel_rfl) (fun k hk => by cases hk; kernel_rfl) (by kernel_rfl) (by rw [laid_eq]; exact laidW_met os _))) ?_
  intro W base args ds gs before hval hW _ hcond _ hL _ _
  exact contract H enc W base args ds gs before hval hW hL (hcond _ rfl)

theorem said : Rows.RealTextsUptoSaid :=
  OpenClaim.holds_of_cond 3 Tryz.f3 rfl rfl rfl rfl rfl rfl rfl ⟨rfl, rfl, rfl, rfl, rfl⟩ rfl rfl rfl rfl rfl (by kernel_rfl) Tryz.func3 (by kernel_rfl)
    (of_decide_eq_true (by kernel_rfl)) (by unfold Func.isWrapper; first | (rw [if_pos (by decide +kernel)]; kernel_rfl) | (rw [if_neg (by decide +kernel)]; exact ⟨rfl, rfl⟩))
    (fun os started H enc _ F => by rw [OpenClaim.pre_eq_preRow]; exact lifted os started H enc F)

theorem plain (f : FuncId) (fn : Func) (hf : Tryz.pinned.checked.prog.funcNamed "flume/flumelaw3.RealTexts" = some f) (hfn : Tryz.pinned.checked.prog.funcs[f]? = some fn) :
    true = Tryz.pinned.checked.prog.looks [] ∧ ∀ (j : Nat) t, fn.params[j]? = some t → Tryz.pinned.checked.prog.wantsStandIn t = false := by
  obtain rfl : f = 3 := Option.some.inj ((show Tryz.prog.funcNamed "flume/flumelaw3.RealTexts" = some 3 by kernel_rfl).symm.trans hf) |>.symm
  obtain rfl : fn = Tryz.f3 := (Option.some.inj (Tryz.func3.symm.trans hfn)).symm
  refine ⟨by kernel_rfl, fun j t ht => ?_⟩
  rw [Tryz.params3] at ht
  have hm := Array.mem_of_getElem? ht
  simp only [List.mem_toArray, List.mem_cons, List.not_mem_nil, or_false] at hm
  have gs : Tryz.prog.wantsStandIn 22 = false := by kernel_rfl
  have gt : Tryz.prog.wantsStandIn 23 = false := by kernel_rfl
  rcases hm with rfl | rfl
  · exact gs
  · exact gt

theorem proved : Rows.RealTextsUptoCardSaid :=
  Claim7.holds_tied_plain_at .later [] _ _ _ _ said (fun _ h => by cases h) (by kernel_rfl) (fun _ h => by cases h) realTextsUpto_row_tie rfl ⟨rfl, rfl⟩ (by kernel_rfl) rfl plain (by kernel_rfl)
end Go.Proofs.YtemjlkmlodmmfaaGreatDoor.realTexts
