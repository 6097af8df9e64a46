/- ModelOrder: the row. By an AI agent. -/
import Derived.Test.YtjiehgfamlidnaaModR
import Derived.Deep.Strs
import Derived.Lib.SmallJoins
namespace Go.Proofs.Ytjiehgfamlidnaa.modelOrder
open Go.ChangeShapes Go.WideShapes Go.ChangeAt Go.RowKit
open Md
set_option linter.unusedVariables false
set_option linter.unusedSimpArgs false
section
variable {H : Type} {enc : TypeId × Value → H} {P : Program} {w : World} {base : Nat} {spare : Nat → Bool} {held : Bool}

/-- A slice of bytes, by the cells of its reading. -/
theorem open_bytes {t e : TypeId} {fuel : Nat} {cs : List Value} {x : DataW H × List MemPlace} (ht : P.underlying t = some (.slice e)) (he : P.underlying e = some (.int .u8)) (hC : P.cellsOf e = 1)
    (h : DataW.trod enc P w base spare held fuel t cs = some x) : ∃ (o : Option Addr) (B : List Nat) (cap : Nat), cs = [.slice o B.length cap] ∧ Bys w o B ∧ (o = none → cap = 0) ∧ (∀ i, B.getD i 0 < 256) ∧ B.length ≤ cap ∧ cap ≤ maxLen := by
  rcases Go.Deep.open_slice1 ht hC h with ⟨h1, h2⟩ | ⟨a, len, cap, m, n, V, D, Pl, hcs, hb, hl1, hm, hmm, hx, hi⟩
  · exact ⟨none, [], 0, h1, fun i hi => absurd hi (by simp), fun _ => rfl, fun i => by simp, Nat.le_refl _, by unfold maxLen; omega⟩
  · have hlm : len ≤ m := by subst hmm; split <;> omega
    have key : ∀ i, i < len → ∃ z : Nat, V i = .int .u8 (z : Int) ∧ z < 256 := by
      intro i hil
      obtain ⟨-, h2⟩ := hi i (by omega)
      obtain ⟨z, h3, -, h4⟩ := DataW.trod_int he h2
      have h5 : 0 ≤ z ∧ z ≤ 255 := by simpa [Lit.wf, IntKind.min, IntKind.max, IntKind.signed, IntKind.bits] using h4
      obtain ⟨q, rfl⟩ := Int.eq_ofNat_of_zero_le h5.1
      exact ⟨q, by simpa using h3, by omega⟩
    have hf2 : ∃ f : Nat → Nat, ∀ i, i < len → V i = .int .u8 (f i : Int) ∧ f i < 256 := by
      classical
      refine ⟨fun i => if h : i < len then (key i h).choose else 0, fun i hil => ?_⟩
      simp only [hil, dite_true]
      exact (key i hil).choose_spec
    obtain ⟨f, hff⟩ := hf2
    have hg : ∀ i, i < len → ((List.range len).map f).getD i 0 = f i := fun i hil => by
      rw [List.getD_eq_getElem?_getD]; simp [hil]
    have hlen : ((List.range len).map f).length = len := by simp
    refine ⟨some a, (List.range len).map f, cap, by rw [hlen]; exact hcs, fun i hil => ?_, (fun h => by cases h), fun i => ?_, by rw [hlen]; exact hl1, hm⟩
    · rw [hlen] at hil
      refine ⟨a, rfl, ?_⟩
      rw [hg i hil, ← (hff i hil).1]
      exact (hi i (by omega)).1
    · rcases Nat.lt_or_ge i len with hil | hil
      · rw [hg i hil]; exact (hff i hil).2
      · rw [List.getD_eq_getElem?_getD, List.getElem?_eq_none (by omega)]; decide

end

section
variable {H : Type} {enc : TypeId × Value → H} {w : World} {base : Nat} {spare : Nat → Bool} {held : Bool}

/-- A call, by its three cells. -/
theorem open_call {n : Nat} {c0 c1 c2 : Value} {x : DataW H × List MemPlace} (h : DataW.trod enc Try.prog w base spare held n 32 [c0, c1, c2] = some x) :
    ∃ (kind cl : Int) (od : Option Addr) (D : List Nat) (cd : Nat), c0 = .int .i64 kind ∧ c1 = .int .i64 cl ∧ c2 = .slice od D.length cd ∧ Bys w od D ∧ (od = none → cd = 0) ∧ (∀ i, D.getD i 0 < 256) ∧ D.length ≤ cd ∧ cd ≤ maxLen ∧ (Lit.int .i64 kind).wf = true ∧ (Lit.int .i64 cl).wf = true := by
  obtain ⟨x0, x1, x2, m, -, -, h0, h1, h2⟩ := Go.Deep.trod_struct3 Try.underlying32 h
  · skip
    have k0 : Try.prog.cellsOf 3 = 1 := by kernel_rfl
    have k1 : Try.prog.cellsOf 2 = 1 := by kernel_rfl
    have k2 : Try.prog.cellsOf 30 = 1 := by kernel_rfl
    simp only [k0, k1, k2, List.drop_zero, List.drop_succ_cons, List.take_succ_cons, List.take_zero, List.take_nil, List.getElem?_cons_zero, List.getElem?_cons_succ] at h0 h1 h2
    obtain ⟨z0, e0, -, f0⟩ := DataW.trod_int Try.underlying3 h0
    obtain ⟨z1, e1, -, f1⟩ := DataW.trod_int Try.underlying2 h1
    obtain ⟨o, B, cap, e2, hB, hc, hv, hl, hm⟩ := open_bytes Try.underlying30 Try.underlying5 (by kernel_rfl) h2
    exact ⟨z0, z1, o, B, cap, by simpa using e0, by simpa using e1, by simpa using e2, hB, hc, hv, hl, hm, f0, f1⟩

theorem open_result {n : Nat} {c0 c1 c2 : Value} {x : DataW H × List MemPlace} (h : DataW.trod enc Try.prog w base spare held n 34 [c0, c1, c2] = some x) :
    ∃ (err lsn : Int) (od : Option Addr) (D : List Nat) (cd : Nat), c0 = .int .i64 err ∧ c1 = .int .i64 lsn ∧ c2 = .slice od D.length cd ∧ Bys w od D ∧ (od = none → cd = 0) ∧ (∀ i, D.getD i 0 < 256) ∧ D.length ≤ cd ∧ cd ≤ maxLen := by
  obtain ⟨x0, x1, x2, m, -, -, h0, h1, h2⟩ := Go.Deep.trod_struct3 Try.underlying34 h
  · skip
    have k0 : Try.prog.cellsOf 27 = 1 := by kernel_rfl
    have k1 : Try.prog.cellsOf 2 = 1 := by kernel_rfl
    have k2 : Try.prog.cellsOf 30 = 1 := by kernel_rfl
    simp only [k0, k1, k2, List.drop_zero, List.drop_succ_cons, List.take_succ_cons, List.take_zero, List.take_nil, List.getElem?_cons_zero, List.getElem?_cons_succ] at h0 h1 h2
    obtain ⟨z0, e0, -, f0⟩ := DataW.trod_int Try.underlying27 h0
    obtain ⟨z1, e1, -, f1⟩ := DataW.trod_int Try.underlying2 h1
    obtain ⟨o, B, cap, e2, hB, hc, hv, hl, hm⟩ := open_bytes Try.underlying30 Try.underlying5 (by kernel_rfl) h2
    exact ⟨z0, z1, o, B, cap, by simpa using e0, by simpa using e1, by simpa using e2, hB, hc, hv, hl, hm⟩

theorem open_ops {b0 : Nat} {r : Reach} {v : Value} {d : DataW H} {p : List MemPlace} (hv : Value.okWide Try.prog w r b0 22 v) (h : DataW.Trod enc Try.prog w base spare held 22 v d p) :
    ∃ (o : Option Addr) (n cap : Nat), v = .slice o n cap ∧ Ops n o w ∧ n ≤ 9223372036854775807 := by
  obtain ⟨fuel, hf⟩ := h
  obtain ⟨a, len, cap, rfl⟩ := okWide_slice Try.underlying22 hv
  refine ⟨a, len, cap, rfl, ?_⟩
  rcases Go.Deep.open_slice Try.underlying22 hf with ⟨h1, -⟩ | ⟨a', len', cap', m, n, D, Pl, hcs, hb, hl1, hm, hmm, hx, hi⟩
  · obtain ⟨rfl, rfl, rfl⟩ : a = none ∧ len = 0 ∧ cap = 0 := by simpa [Value.cells] using h1
    exact ⟨fun i hi => absurd hi (by omega), by omega⟩
  · obtain ⟨rfl, rfl, rfl⟩ : a = some a' ∧ len = len' ∧ cap = cap' := by simpa [Value.cells] using hcs
    have hlm : len ≤ m := by subst hmm; split <;> omega
    have hC : Try.prog.cellsOf 36 = 8 := by kernel_rfl
    refine ⟨fun i hil => ?_, by unfold maxLen at hm; omega⟩
    have hspot : a'.spot = none := by
      obtain ⟨cs0, hc0, -⟩ := hi 0 (by omega)
      rw [hC] at hc0
      obtain ⟨_, hcl0, hat0⟩ := World.cells?_some hc0
      have hx0 := hat0 0 (by omega)
      cases hsp : a'.spot with
      | none => rfl
      | some s =>
        exfalso
        have : cs0[0]? = some (cs0[0]'(by omega)) := List.getElem?_eq_getElem _
        rw [this] at hx0
        simp [Addr.add, World.cell?, hsp] at hx0
        split at hx0 <;> simp at hx0
    obtain ⟨cs', hc, ht'⟩ := hi i (by omega)
    rw [hC] at hc
    obtain ⟨_, hcl, hat⟩ := World.cells?_some hc
    obtain ⟨ab, ao, sp⟩ := a'
    obtain rfl : sp = none := hspot
    match cs', hcl with
    | [c0, c1, c2, c3, c4, c5, c6, c7], _ =>
      obtain ⟨x0, x1, x2, x3, n', -, -, h0, h1, h2, h3⟩ := Go.Joins.trod_struct4 Try.underlying36 ht'
      · skip
        have k0 : Try.prog.cellsOf 32 = 3 := by kernel_rfl
        have k1 : Try.prog.cellsOf 34 = 3 := by kernel_rfl
        have k2 : Try.prog.cellsOf 4 = 1 := by kernel_rfl
        simp only [k0, k1, k2, List.drop_zero, List.drop_succ_cons, List.take_succ_cons, List.take_zero, List.take_nil, List.getElem?_cons_zero, List.getElem?_cons_succ] at h0 h1 h2 h3
        obtain ⟨kind, cl, od, Da, cd, rfl, rfl, rfl, g1, g2, g3, -⟩ := open_call h0
        obtain ⟨err, lsn, ord, R, crd, rfl, rfl, rfl, g4, g5, g6, -⟩ := open_result h1
        obtain ⟨bh, e2, -⟩ := DataW.trod_bool Try.underlying4 h2
        obtain ⟨bs, e3, -⟩ := DataW.trod_bool Try.underlying4 h3
        obtain rfl : c6 = .bool bh := by simpa using e2
        obtain rfl : c7 = .bool bs := by simpa using e3
        simp only [Go.Proofs.Ytjiehgfamlidnaa.addr_add] at hat
        exact ⟨ab, ao, rfl, kind, cl, err, lsn, od, Da, cd, ord, R, crd, bh, bs, hat 0 (by omega), hat 1 (by omega), hat 2 (by omega), hat 3 (by omega), hat 4 (by omega), hat 5 (by omega), hat 6 (by omega), hat 7 (by omega), g1, g2, g3, g4, g6⟩
end

/-! ### the row -/
theorem own : ownKnob Try.prog.godebug = none := by kernel_rfl
set_option maxRecDepth 100000 in
theorem lifted (os : Os) (started : os.Started) (H : Type) (enc : TypeId × Value → H) :
    ReturnsInHanded {} Try.checked os 3 .any (Rows.modelOrderSpec.pre6 enc Try.prog Try.f3 Rows.modelOrderRow.domain false) (Rows.modelOrderSpec.post enc Try.prog Try.f3 false true false false) := by
  refine returnsInHanded_of_change (C := Try.checked) own started (by kernel_rfl) Try.func3
    (ChangeSpec.witness6 (enc := enc) (C := Try.checked) false ⟨#[], #[.int .i64 0, .slice none 0 0], []⟩ 8 (by kernel_rfl) (by kernel_rfl) (by kernel_rfl) (by kernel_rfl)) ?_
  intro W base args ds gs before hval0 hW hcnd _
  have hval : ∀ (j : Nat) t v, Try.f3.params[j]? = some t → args[j]? = some v → Value.okWide Try.prog W .any base t v := hval0
  have hW' := hW
  obtain ⟨p, q, hA0, hV, rfl, hfz, hnd⟩ := hW
  have hA : DataW.TrodAll enc Try.prog W 0 (fun _ => true) true Try.f3.params.toList args.toList ds p := hA0
  rw [Try.params3] at hA hval
  obtain ⟨v0, v1, d0, d1, p0, p1, rfl, rfl, rfl, h0, h1⟩ := trodAll_two hA
  obtain ⟨a0, rfl, rfl, rfl, w0⟩ := open_int Try.underlying2 (hval 0 2 v0 rfl rfl) h0
  obtain ⟨o, n, cap, rfl, hO, hn⟩ := open_ops (hval 1 22 v1 rfl rfl) h1
  have b0 : -9223372036854775808 ≤ a0 ∧ a0 ≤ 9223372036854775807 := by simpa [Lit.wf, IntKind.min, IntKind.max, IntKind.signed, IntKind.bits] using w0
  refine (walk a0 o n cap W hO (by omega) b0.2).mono fun e W' ⟨he, hk⟩ => ?_
  subst he
  exact ⟨_, rfl, law_post (by kernel_rfl) (T := 4) (hts_of (by kernel_rfl)) hW' rfl rfl rfl Try.underlying4 hk⟩

theorem proved : Rows.ModelOrderSaid :=
  OpenClaim.holds_of_wide 3 Try.f3 rfl rfl rfl rfl rfl rfl rfl ⟨rfl, rfl, rfl, rfl, rfl⟩ rfl rfl rfl rfl rfl (by kernel_rfl) Try.func3 (by kernel_rfl)
    (of_decide_eq_true (by kernel_rfl)) (by unfold Func.isWrapper; first | (rw [if_pos (by decide +kernel)]; kernel_rfl) | (rw [if_neg (by decide +kernel)]; exact ⟨rfl, rfl⟩))
    (fun os started H enc _ => lifted os started H enc)
end Go.Proofs.Ytjiehgfamlidnaa.modelOrder
