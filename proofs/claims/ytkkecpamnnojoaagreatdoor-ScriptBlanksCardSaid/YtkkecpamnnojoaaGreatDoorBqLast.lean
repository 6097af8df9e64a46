/- A part of the proof of ScriptBlanks: nothing is assumed. By an AI agent. -/
import Derived.Test.YtkkecpamnnojoaaGreatDoorBq21
import Derived.Test.YtkkecpamnnojoaaGreatDoorBq23
namespace Go.Proofs.YtkkecpamnnojoaaGreatDoor
open Go.ChangeShapes Go.WideShapes Go.ChangeAt Go.RowKit
open Bt Dc By
set_option linter.unusedVariables false
namespace scriptBlanks
open Sc
theorem two {H : Type} {enc : TypeId × Value → H} {P : Program} {w : World} {base : Nat} {spare : Nat → Bool} {held : Bool} {t0 t1 : TypeId} {args : Array Value} {ds : List (DataW H)} {ps : List MemPlace} (h : DataW.TrodAll enc P w base spare held [t0, t1] args.toList ds ps) :
  ∃ v0 v1 d0 d1 p0 p1, args = #[v0, v1] ∧ ds = [d0, d1] ∧ ps = (p0 ++ (p1 ++ [])) ∧ DataW.Trod enc P w base spare held t0 v0 d0 p0 ∧ DataW.Trod enc P w base spare held t1 v1 d1 p1 := by
 obtain ⟨v0, vs0, d0, ds', p0, q, ha, rfl, rfl, h0, h⟩ := trodAll_cons h
 obtain ⟨v1, vs1, d1, ds', p1, q, rfl, rfl, rfl, h1, h⟩ := trodAll_cons h
 obtain ⟨rfl, rfl, rfl⟩ := trodAll_nil h
 exact ⟨v0, v1, d0, d1, p0, p1, by cases args; simp_all, rfl, rfl, h0, h1⟩
theorem laid_eq : Rows.scriptBlanksRow.laid = Rows.scriptPrintsRow.laid := by kernel_rfl
set_option maxRecDepth 100000 in
theorem contract (H : Type) (enc : TypeId × Value → H) (W : World) (base : Nat) (args : Array Value) (ds gs : List (DataW H)) (before : List MemPlace)
  (hval : ∀ (j : Nat) t v, Tryz.f6.params[j]? = some t → args[j]? = some v → Value.okWide Tryz.prog W .any base t v)
  (hW : DataW.Whole enc Tryz.prog Tryz.f6.params.toList Rows.scriptBlanksSpec.vars false W args.toList ds gs before) (hL : laidMetH Tryz.prog Rows.scriptBlanksRow.laid W) (hS : W.ShapedOpen Tryz.prog) :
  Calls Tryz.prog 6 args W fun e W' => ∃ v, e = .returned v ∧ Rows.scriptBlanksSpec.post enc Tryz.prog Tryz.f6 false true false false W args v W' := by
 have hW' := hW
 rw [laid_eq] at hL
 have hEv := ev_of hL hS
 obtain ⟨p, q, hA0, hV, rfl, hfz, hnd⟩ := hW
 have hA : DataW.TrodAll enc Tryz.prog W 0 (fun _ => true) true Tryz.f6.params.toList args.toList ds p := hA0
 rw [Tryz.params6] at hA hval
 obtain ⟨v0, v1, d0, d1, p0, p1, rfl, rfl, rfl, h0, h1⟩ := two hA
 obtain ⟨f0, h0⟩ := h0
 obtain ⟨f1, h1⟩ := h1
 obtain ⟨s1, e0, -, hs⟩ := DataW.trod_string Tryz.underlying9 h0
 obtain ⟨s, rfl⟩ := okWide_string Tryz.underlying9 (hval 0 9 v0 rfl rfl)
 obtain rfl : s = s1 := by simpa [Value.cells] using e0
 obtain ⟨l, v, e1, hsl, hll, hlm⟩ := op_strs h1
 obtain ⟨a1, n1, c1, rfl⟩ := okWide_slice Tryz.underlying22 (hval 1 22 v1 rfl rfl)
 obtain rfl : v = .slice a1 n1 c1 := by simpa [Value.cells] using e1.symm
 obtain ⟨o, cap, e2, hws⟩ := ws_of hsl
 rw [e2] at hW' ⊢
 rw [← strB_data s] at hW' ⊢
 have hsl2 : s.data.toList.length ≤ maxLen := by
  have : s.data.toList.length = s.size := by rw [Array.length_toList]; rfl
  rw [this]; exact hs
 refine (blanks_any s.data.toList o cap l W hws hlm (fun i => ?_) hsl2 (Lib.hid (begun_any W hEv)) hEv).mono fun e W' ⟨he, hk⟩ => ?_
 ·rcases Nat.lt_or_ge i l.length with hi | hi
  ·rw [List.getD_eq_getElem?_getD, List.getElem?_eq_getElem hi]; exact hll _ (List.getElem_mem hi)
  ·rw [List.getD_eq_getElem?_getD, List.getElem?_eq_none hi]; simp
 subst he
 exact ⟨_, rfl, law_post (by kernel_rfl) (T := 4) (hts_of (by kernel_rfl)) hW' rfl rfl rfl Tryz.underlying4 hk.none⟩
theorem reads (os : Os) {H : Type} (enc : TypeId × Value → H) : ∃ places, DataW.whole enc Tryz.prog ((laidW os).forCall (fun _ _ => 0) ⟨#[], #[.string ⟨#[]⟩, .slice none 0 0], []⟩).memory Tryz.f6.params.toList Rows.scriptBlanksSpec.vars false #[Value.string ⟨#[]⟩, Value.slice none 0 0].toList 8 = some ([.lit (.string []), .nil], [], places) :=
 ⟨[], by kernel_rfl⟩
set_option maxRecDepth 100000 in
theorem lifted (os : Os) (started : os.Started) (H : Type) (enc : TypeId × Value → H) (F : Stop.Interp) :
  ReturnsInHanded {} Tryz.checked os 6 .any ((OpenSpec.ofChange Rows.scriptBlanksSpec).preRow enc Tryz.prog Tryz.f6 Rows.scriptBlanksRow.domain false Rows.scriptBlanksRow.laid) (((OpenSpec.ofChange Rows.scriptBlanksSpec).at F).post enc Tryz.prog Tryz.f6 false true false false) := by
 obtain ⟨places, hx⟩ := reads os enc
 refine returnsInHanded_of_row (C := Tryz.checked) (s := OpenSpec.ofChange Rows.scriptBlanksSpec) own started (by kernel_rfl) Tryz.func6
  (witness_of (enc := enc) (C := Tryz.checked) (laidW os) #[.string ⟨#[]⟩, .slice none 0 0] (laidW_os os) (laidW_shaped os _) (by kernel_rfl)
   (OpenSpec.preRow_of_cond 8 hx (by kernel_rfl) (fun k hk => by cases hk) (by kernel_rfl) (by rw [laid_eq]; exact laidW_met os _))) ?_
 intro W base args ds gs before hval hW _ _ _ hL hS _
 exact contract H enc W base args ds gs before hval hW hL hS
theorem said : Rows.ScriptBlanksSaid :=
 OpenClaim.holds_of_cond 6 Tryz.f6 rfl rfl rfl rfl rfl rfl rfl ⟨rfl, rfl, rfl, rfl, rfl⟩ rfl rfl rfl rfl rfl (by kernel_rfl) Tryz.func6 (by kernel_rfl)
  (of_decide_eq_true (by kernel_rfl)) (by unfold Func.isWrapper; first | (rw [if_pos (by decide +kernel)]; kernel_rfl) | (rw [if_neg (by decide +kernel)]; exact ⟨rfl, rfl⟩))
  (fun os started H enc _ F => by rw [OpenClaim.pre_eq_preRow]; exact lifted os started H enc F)
theorem plain (f : FuncId) (fn : Func) (hf : Tryz.pinned.checked.prog.funcNamed "flume/flumelaw26.ScriptBlanks" = some f) (hfn : Tryz.pinned.checked.prog.funcs[f]? = some fn) :
  true = Tryz.pinned.checked.prog.looks [] ∧ ∀ (j : Nat) t, fn.params[j]? = some t → Tryz.pinned.checked.prog.wantsStandIn t = false := by
 obtain rfl : f = 6 := Option.some.inj ((show Tryz.prog.funcNamed "flume/flumelaw26.ScriptBlanks" = some 6 by kernel_rfl).symm.trans hf) |>.symm
 obtain rfl : fn = Tryz.f6 := (Option.some.inj (Tryz.func6.symm.trans hfn)).symm
 refine ⟨by kernel_rfl, fun j t ht => ?_⟩
 rw [Tryz.params6] at ht
 have hm := Array.mem_of_getElem? ht
 simp only [List.mem_toArray, List.mem_cons, List.not_mem_nil, or_false] at hm
 have gs : Tryz.prog.wantsStandIn 9 = false := by kernel_rfl
 have gt : Tryz.prog.wantsStandIn 22 = false := by kernel_rfl
 rcases hm with rfl | rfl
 ·exact gs
 ·exact gt
theorem proved : Rows.ScriptBlanksCardSaid :=
 Claim7.holds_tied_plain_at .later [] _ _ _ _ said (fun _ h => by cases h) (by kernel_rfl) (fun _ h => by cases h) scriptBlanks_row_tie rfl ⟨rfl, rfl⟩ (by kernel_rfl) rfl plain (by kernel_rfl)
end scriptBlanks
end Go.Proofs.YtkkecpamnnojoaaGreatDoor
