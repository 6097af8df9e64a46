/- RealSums: the row. By an AI agent. Printed by genRow.py. -/
import Derived.Test.YtipkiiblghnoiaaGreatDoorReR
import Derived.Test.YtipkiiblghnoiaaGreatDoorOpen
import Derived.Test.YtipkiiblghnoiaaGreatDoorOpI
import Derived.Test.YtipkiiblghnoiaaGreatDoorReX
namespace Go.Proofs.YtipkiiblghnoiaaGreatDoor.realSums
open Go.ChangeShapes Go.WideShapes Go.ChangeAt Go.RowKit
open Bt
set_option linter.unusedVariables false

theorem i32_wf (z : Int) (hz : (Lit.int .i32 z).wf = true) : -2147483648 ≤ z ∧ z ≤ 2147483647 := by
  simpa [Lit.wf, IntKind.min, IntKind.max, IntKind.signed, IntKind.bits] using hz

theorem parts {H : Type} {enc : TypeId × Value → H} {P : Program} {w : World} {base : Nat} {spare : Nat → Bool} {held : Bool} {t0 t1 t2 : TypeId} {args : Array Value} {ds : List (DataW H)} {ps : List MemPlace} (h : DataW.TrodAll enc P w base spare held [t0, t1, t2] args.toList ds ps) :
    ∃ v0 v1 v2 d0 d1 d2 p0 p1 p2, args = #[v0, v1, v2] ∧ ds = [d0, d1, d2] ∧ ps = (p0 ++ (p1 ++ (p2 ++ []))) ∧ DataW.Trod enc P w base spare held t0 v0 d0 p0 ∧ DataW.Trod enc P w base spare held t1 v1 d1 p1 ∧ DataW.Trod enc P w base spare held t2 v2 d2 p2 := by
  obtain ⟨v0, vs0, d0, ds', p0, q, ha, rfl, rfl, h0, h⟩ := trodAll_cons h
  obtain ⟨v1, vs1, d1, ds', p1, q, rfl, rfl, rfl, h1, h⟩ := trodAll_cons h
  obtain ⟨v2, vs2, d2, ds', p2, q, rfl, rfl, rfl, h2, h⟩ := trodAll_cons h
  obtain ⟨rfl, rfl, rfl⟩ := trodAll_nil h
  exact ⟨v0, v1, v2, d0, d1, d2, p0, p1, p2, by cases args; simp_all, rfl, rfl, h0, h1, h2⟩

theorem laid_eq : Rows.realSumsRow.laid = Rows.realListsRow.laid := by kernel_rfl
set_option maxRecDepth 100000 in
theorem contract (H : Type) (enc : TypeId × Value → H) (W : World) (base : Nat) (args : Array Value) (ds gs : List (DataW H)) (before : List MemPlace)
    (hval : ∀ (j : Nat) t v, Tryz.f7.params[j]? = some t → args[j]? = some v → Value.okWide Tryz.prog W .any base t v)
    (hW : DataW.Whole enc Tryz.prog Tryz.f7.params.toList Rows.realSumsSpec.vars false W args.toList ds gs before) (hL : laidMetH Tryz.prog Rows.realSumsRow.laid W) :
    Calls Tryz.prog 7 args W fun e W' => ∃ v, e = .returned v ∧ Rows.realSumsSpec.post enc Tryz.prog Tryz.f7 false true false false W args v W' := by
  have hW' := hW
  rw [laid_eq] at hL
  obtain ⟨hopt, hT⟩ := tables hL
  obtain ⟨p, q, hA0, hV, rfl, hfz, hnd⟩ := hW
  have hA : DataW.TrodAll enc Tryz.prog W 0 (fun _ => true) true Tryz.f7.params.toList args.toList ds p := hA0
  rw [Tryz.params7] at hA hval
  obtain ⟨v0, v1, v2, d0, d1, d2, p0, p1, p2, rfl, rfl, rfl, h0, h1, h2⟩ := parts hA
  obtain ⟨s0, l0, c0, rfl⟩ := okWide_slice Tryz.underlying22 (hval 0 22 v0 rfl rfl)
  obtain ⟨o0, e0, B0, q0, hB0, vB0, -, -, -, z0⟩ := open_nats (M := 18446744073709551616) Tryz.underlying22 Tryz.underlying36 (by kernel_rfl) u64_wf (by omega) rfl h0
  obtain ⟨a1, rfl, rfl, rfl, w1⟩ := open_int Tryz.underlying36 (hval 1 36 v1 rfl rfl) h1
  have b1 := u64_wf a1 w1
  obtain ⟨n1, rfl⟩ := Int.eq_ofNat_of_zero_le b1.1
  obtain ⟨s2, l2, c2, rfl⟩ := okWide_slice Tryz.underlying44 (hval 2 44 v2 rfl rfl)
  obtain ⟨o2, e2, B2, q2, hB2, vB2⟩ := open_ints (lo := -2147483648) (hi := 2147483647) Tryz.underlying44 Tryz.underlying21 (by kernel_rfl) i32_wf (by omega) rfl h2
  rw [q0, q2] at hW' ⊢
  refine (walk o0 o2 B0 e0 e2 n1 B2 W hB0 vB0 (by omega) hB2 vB2 hopt hT).mono fun e W' ⟨he, hk⟩ => ?_
  subst he
  exact ⟨_, rfl, law_post (by kernel_rfl) (T := 4) (hts_of (by kernel_rfl)) hW' rfl rfl rfl Tryz.underlying4 hk⟩

theorem reads (os : Os) {H : Type} (enc : TypeId × Value → H) : ∃ places, DataW.whole enc Tryz.prog ((laidW os).forCall (fun _ _ => 0) ⟨#[], #[.slice none 0 0, .int .u64 0, .slice none 0 0], []⟩).memory Tryz.f7.params.toList Rows.realSumsSpec.vars false #[Value.slice none 0 0, Value.int .u64 0, Value.slice none 0 0].toList 8 = some ([.nil, .lit (.int .u64 0), .nil], [], places) :=
  ⟨[], by kernel_rfl⟩

set_option maxRecDepth 100000 in
theorem lifted (os : Os) (started : os.Started) (H : Type) (enc : TypeId × Value → H) (F : Stop.Interp) :
    ReturnsInHanded {} Tryz.checked os 7 .any ((OpenSpec.ofChange Rows.realSumsSpec).preRow enc Tryz.prog Tryz.f7 Rows.realSumsRow.domain false Rows.realSumsRow.laid) (((OpenSpec.ofChange Rows.realSumsSpec).at F).post enc Tryz.prog Tryz.f7 false true false false) := by
  obtain ⟨places, hx⟩ := reads os enc
  refine returnsInHanded_of_row (C := Tryz.checked) (s := OpenSpec.ofChange Rows.realSumsSpec) own started (by kernel_rfl) Tryz.func7
    (witness_of (enc := enc) (C := Tryz.checked) (laidW os) #[.slice none 0 0, .int .u64 0, .slice none 0 0] (laidW_os os) (laidW_shaped os _) (by kernel_rfl)
      (OpenSpec.preRow_of_cond 8 hx (by kernel_rfl) (fun k hk => by cases hk) (by kernel_rfl) (by rw [laid_eq]; exact laidW_met os _))) ?_
  intro W base args ds gs before hval hW _ _ _ hL _ _
  exact contract H enc W base args ds gs before hval hW hL

theorem said : Rows.RealSumsSaid :=
  OpenClaim.holds_of_cond 7 Tryz.f7 rfl rfl rfl rfl rfl rfl rfl ⟨rfl, rfl, rfl, rfl, rfl⟩ rfl rfl rfl rfl rfl (by kernel_rfl) Tryz.func7 (by kernel_rfl)
    (of_decide_eq_true (by kernel_rfl)) (by unfold Func.isWrapper; first | (rw [if_pos (by decide +kernel)]; kernel_rfl) | (rw [if_neg (by decide +kernel)]; exact ⟨rfl, rfl⟩))
    (fun os started H enc _ F => by rw [OpenClaim.pre_eq_preRow]; exact lifted os started H enc F)

theorem plain (f : FuncId) (fn : Func) (hf : Tryz.pinned.checked.prog.funcNamed "flume/flumelaw3.RealSums" = some f) (hfn : Tryz.pinned.checked.prog.funcs[f]? = some fn) :
    true = Tryz.pinned.checked.prog.looks [] ∧ ∀ (j : Nat) t, fn.params[j]? = some t → Tryz.pinned.checked.prog.wantsStandIn t = false := by
  obtain rfl : f = 7 := Option.some.inj ((show Tryz.prog.funcNamed "flume/flumelaw3.RealSums" = some 7 by kernel_rfl).symm.trans hf) |>.symm
  obtain rfl : fn = Tryz.f7 := (Option.some.inj (Tryz.func7.symm.trans hfn)).symm
  refine ⟨by kernel_rfl, fun j t ht => ?_⟩
  rw [Tryz.params7] at ht
  have hm := Array.mem_of_getElem? ht
  simp only [List.mem_toArray, List.mem_cons, List.not_mem_nil, or_false] at hm
  have gn : Tryz.prog.wantsStandIn 44 = false := by kernel_rfl
  have gs : Tryz.prog.wantsStandIn 22 = false := by kernel_rfl
  have gu : Tryz.prog.wantsStandIn 36 = false := by kernel_rfl
  rcases hm with rfl | rfl | rfl
  · exact gs
  · exact gu
  · exact gn

theorem proved : Rows.RealSumsCardSaid :=
  Claim7.holds_tied_plain_at .later [] _ _ _ _ said (fun _ h => by cases h) (by kernel_rfl) (fun _ h => by cases h) realSums_row_tie rfl ⟨rfl, rfl⟩ (by kernel_rfl) rfl plain (by kernel_rfl)
end Go.Proofs.YtipkiiblghnoiaaGreatDoor.realSums
