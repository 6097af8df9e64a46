/- LinearFirst, LinearLine: a slice of pasts off a row. By an AI agent. -/
import Derived.Test.YtjiehgfamlidnaaLinE
import Derived.Test.YtjiehgfamlidnaaOpen
import Derived.Deep.Strs
import Derived.Lib.SmallJoins
namespace Go.Proofs.Ytjiehgfamlidnaa.Lin
open Go.ChangeShapes Go.WideShapes Go.ChangeAt Go.RowKit
open Md
set_option linter.unusedVariables false
set_option linter.unusedSimpArgs false
section
variable {H : Type} {enc : TypeId × Value → H} {P : Program} {w : World} {base : Nat} {spare : Nat → Bool} {held : Bool}

/-- A slice of bytes, by the cells of its reading. -/
theorem open_bytes {t e : TypeId} {fuel : Nat} {cs : List Value} {x : DataW H × List MemPlace} (ht : P.underlying t = some (.slice e)) (he : P.underlying e = some (.int .u8)) (hC : P.cellsOf e = 1)
    (h : DataW.trod enc P w base spare held fuel t cs = some x) : ∃ (o : Option Addr) (B : List Nat) (cap : Nat), cs = [.slice o B.length cap] ∧ Bys w o B ∧ (o = none → cap = 0) ∧ (∀ i, B.getD i 0 < 256) ∧ B.length ≤ cap ∧ cap ≤ maxLen := by
  rcases Go.Deep.open_slice1 ht hC h with ⟨h1, h2⟩ | ⟨a, len, cap, m, n, V, D, Pl, hcs, hb, hl1, hm, hmm, hx, hi⟩
  · exact ⟨none, [], 0, h1, fun i hi => absurd hi (by simp), fun _ => rfl, fun i => by simp, Nat.le_refl _, by unfold maxLen; omega⟩
  · have hlm : len ≤ m := by subst hmm; split <;> omega
    have key : ∀ i, i < len → ∃ z : Nat, V i = .int .u8 (z : Int) ∧ z < 256 := by
      intro i hil
      obtain ⟨-, h2⟩ := hi i (by omega)
      obtain ⟨z, h3, -, h4⟩ := DataW.trod_int he h2
      have h5 : 0 ≤ z ∧ z ≤ 255 := by simpa [Lit.wf, IntKind.min, IntKind.max, IntKind.signed, IntKind.bits] using h4
      obtain ⟨q, rfl⟩ := Int.eq_ofNat_of_zero_le h5.1
      exact ⟨q, by simpa using h3, by omega⟩
    have hf2 : ∃ f : Nat → Nat, ∀ i, i < len → V i = .int .u8 (f i : Int) ∧ f i < 256 := by
      classical
      refine ⟨fun i => if h : i < len then (key i h).choose else 0, fun i hil => ?_⟩
      simp only [hil, dite_true]
      exact (key i hil).choose_spec
    obtain ⟨f, hff⟩ := hf2
    have hg : ∀ i, i < len → ((List.range len).map f).getD i 0 = f i := fun i hil => by
      rw [List.getD_eq_getElem?_getD]; simp [hil]
    have hlen : ((List.range len).map f).length = len := by simp
    refine ⟨some a, (List.range len).map f, cap, by rw [hlen]; exact hcs, fun i hil => ?_, (fun h => by cases h), fun i => ?_, by rw [hlen]; exact hl1, hm⟩
    · rw [hlen] at hil
      refine ⟨a, rfl, ?_⟩
      rw [hg i hil, ← (hff i hil).1]
      exact (hi i (by omega)).1
    · rcases Nat.lt_or_ge i len with hil | hil
      · rw [hg i hil]; exact (hff i hil).2
      · rw [List.getD_eq_getElem?_getD, List.getElem?_eq_none (by omega)]; decide

end

section
variable {H : Type} {enc : TypeId × Value → H} {w : World} {base : Nat} {spare : Nat → Bool} {held : Bool}

/-- A call, by its three cells. -/
theorem open_call {n : Nat} {c0 c1 c2 : Value} {x : DataW H × List MemPlace} (h : DataW.trod enc Try.prog w base spare held n 32 [c0, c1, c2] = some x) :
    ∃ (kind cl : Int) (od : Option Addr) (D : List Nat) (cd : Nat), c0 = .int .i64 kind ∧ c1 = .int .i64 cl ∧ c2 = .slice od D.length cd ∧ Bys w od D ∧ (od = none → cd = 0) ∧ (∀ i, D.getD i 0 < 256) ∧ D.length ≤ cd ∧ cd ≤ maxLen ∧ (Lit.int .i64 kind).wf = true ∧ (Lit.int .i64 cl).wf = true := by
  obtain ⟨x0, x1, x2, m, -, -, h0, h1, h2⟩ := Go.Deep.trod_struct3 Try.underlying32 h
  · skip
    have k0 : Try.prog.cellsOf 3 = 1 := by kernel_rfl
    have k1 : Try.prog.cellsOf 2 = 1 := by kernel_rfl
    have k2 : Try.prog.cellsOf 30 = 1 := by kernel_rfl
    simp only [k0, k1, k2, List.drop_zero, List.drop_succ_cons, List.take_succ_cons, List.take_zero, List.take_nil, List.getElem?_cons_zero, List.getElem?_cons_succ] at h0 h1 h2
    obtain ⟨z0, e0, -, f0⟩ := DataW.trod_int Try.underlying3 h0
    obtain ⟨z1, e1, -, f1⟩ := DataW.trod_int Try.underlying2 h1
    obtain ⟨o, B, cap, e2, hB, hc, hv, hl, hm⟩ := open_bytes Try.underlying30 Try.underlying5 (by kernel_rfl) h2
    exact ⟨z0, z1, o, B, cap, by simpa using e0, by simpa using e1, by simpa using e2, hB, hc, hv, hl, hm, f0, f1⟩

theorem open_result {n : Nat} {c0 c1 c2 : Value} {x : DataW H × List MemPlace} (h : DataW.trod enc Try.prog w base spare held n 34 [c0, c1, c2] = some x) :
    ∃ (err lsn : Int) (od : Option Addr) (D : List Nat) (cd : Nat), c0 = .int .i64 err ∧ c1 = .int .i64 lsn ∧ c2 = .slice od D.length cd ∧ Bys w od D ∧ (od = none → cd = 0) ∧ (∀ i, D.getD i 0 < 256) ∧ D.length ≤ cd ∧ cd ≤ maxLen := by
  obtain ⟨x0, x1, x2, m, -, -, h0, h1, h2⟩ := Go.Deep.trod_struct3 Try.underlying34 h
  · skip
    have k0 : Try.prog.cellsOf 27 = 1 := by kernel_rfl
    have k1 : Try.prog.cellsOf 2 = 1 := by kernel_rfl
    have k2 : Try.prog.cellsOf 30 = 1 := by kernel_rfl
    simp only [k0, k1, k2, List.drop_zero, List.drop_succ_cons, List.take_succ_cons, List.take_zero, List.take_nil, List.getElem?_cons_zero, List.getElem?_cons_succ] at h0 h1 h2
    obtain ⟨z0, e0, -, f0⟩ := DataW.trod_int Try.underlying27 h0
    obtain ⟨z1, e1, -, f1⟩ := DataW.trod_int Try.underlying2 h1
    obtain ⟨o, B, cap, e2, hB, hc, hv, hl, hm⟩ := open_bytes Try.underlying30 Try.underlying5 (by kernel_rfl) h2
    exact ⟨z0, z1, o, B, cap, by simpa using e0, by simpa using e1, by simpa using e2, hB, hc, hv, hl, hm⟩

theorem open_pasts {b0 : Nat} {r : Reach} {v : Value} {d : DataW H} {p : List MemPlace} (hv : Value.okWide Try.prog w r b0 43 v) (h : DataW.Trod enc Try.prog w base spare held 43 v d p) :
    ∃ (o : Option Addr) (ps : List Past) (cap : Nat), v = .slice o ps.length cap ∧ Ps w o ps ∧ ps.length ≤ maxLen := by
  obtain ⟨fuel, hf⟩ := h
  obtain ⟨a, len, cap, rfl⟩ := okWide_slice Try.underlying43 hv
  rcases Go.Deep.open_slice Try.underlying43 hf with ⟨h1, -⟩ | ⟨a', len', cap', m, n, D, Pl, hcs, hb, hl1, hm, hmm, hx, hi⟩
  · obtain ⟨rfl, rfl, rfl⟩ : a = none ∧ len = 0 ∧ cap = 0 := by simpa [Value.cells] using h1
    exact ⟨none, [], 0, rfl, fun i hi => absurd hi (by simp), by simp⟩
  · obtain ⟨rfl, rfl, rfl⟩ : a = some a' ∧ len = len' ∧ cap = cap' := by simpa [Value.cells] using hcs
    have hlm : len ≤ m := by subst hmm; split <;> omega
    have hC : Try.prog.cellsOf 50 = 8 := by kernel_rfl
    rcases Nat.eq_zero_or_pos len with rfl | hpos
    · exact ⟨some a', [], cap, rfl, fun i hi => absurd hi (by simp), by simp⟩
    have hspot : a'.spot = none := by
      obtain ⟨cs0, hc0, -⟩ := hi 0 (by omega)
      rw [hC] at hc0
      obtain ⟨_, hcl0, hat0⟩ := World.cells?_some hc0
      have hx0 := hat0 0 (by omega)
      cases hsp : a'.spot with
      | none => rfl
      | some s =>
        exfalso
        have : cs0[0]? = some (cs0[0]'(by omega)) := List.getElem?_eq_getElem _
        rw [this] at hx0
        simp [Addr.add, World.cell?, hsp] at hx0
        split at hx0 <;> simp at hx0
    obtain ⟨ab, ao, sp⟩ := a'
    obtain rfl : sp = none := hspot
    have key : ∀ i, i < len → ∃ pp : Past, ∃ od cd ord crd, PS w pp od cd ord crd ∧ ∀ j, j < 8 → w.cell? ⟨ab, ao + i * 8 + j, none⟩ = (pcells pp od cd ord crd)[j]? := by
      intro i hil
      obtain ⟨cs', hc, ht'⟩ := hi i (by omega)
      rw [hC] at hc
      obtain ⟨_, hcl, hat⟩ := World.cells?_some hc
      match cs', hcl with
      | [c0, c1, c2, c3, c4, c5, c6, c7], _ =>
        obtain ⟨x0, x1, x2, x3, n', -, -, h0, h1, h2, h3⟩ := Go.Joins.trod_struct4 Try.underlying50 ht'
        · skip
          have k0 : Try.prog.cellsOf 32 = 3 := by kernel_rfl
          have k1 : Try.prog.cellsOf 34 = 3 := by kernel_rfl
          have k2 : Try.prog.cellsOf 3 = 1 := by kernel_rfl
          simp only [k0, k1, k2, List.drop_zero, List.drop_succ_cons, List.take_succ_cons, List.take_zero, List.take_nil, List.getElem?_cons_zero, List.getElem?_cons_succ] at h0 h1 h2 h3
          obtain ⟨kind, cl, od, Da, cd, rfl, rfl, rfl, g1, g2, g3, -⟩ := open_call h0
          obtain ⟨err, lsn, ord, R, crd, rfl, rfl, rfl, g4, g5, g6, -⟩ := open_result h1
          obtain ⟨beg, e2, -, -⟩ := DataW.trod_int Try.underlying3 h2
          obtain ⟨en, e3, -, -⟩ := DataW.trod_int Try.underlying3 h3
          obtain rfl : c6 = .int .i64 beg := by simpa using e2
          obtain rfl : c7 = .int .i64 en := by simpa using e3
          simp only [Go.Proofs.Ytjiehgfamlidnaa.addr_add] at hat
          refine ⟨⟨kind, cl, Da, err, lsn, R, beg, en⟩, od, cd, ord, crd, ⟨g1, g2, g3, g4, g6⟩, fun j hj => ?_⟩
          have := hat j (by omega)
          rw [this]
          have : j = 0 ∨ j = 1 ∨ j = 2 ∨ j = 3 ∨ j = 4 ∨ j = 5 ∨ j = 6 ∨ j = 7 := by omega
          rcases this with rfl | rfl | rfl | rfl | rfl | rfl | rfl | rfl <;> rfl
    have hf2 : ∃ f : Nat → Past, ∀ i, i < len → ∃ od cd ord crd, PS w (f i) od cd ord crd ∧ ∀ j, j < 8 → w.cell? ⟨ab, ao + i * 8 + j, none⟩ = (pcells (f i) od cd ord crd)[j]? := by
      classical
      refine ⟨fun i => if h : i < len then (key i h).choose else zP, fun i hil => ?_⟩
      simp only [hil, dite_true]
      exact (key i hil).choose_spec
    obtain ⟨f, hff⟩ := hf2
    have hg : ∀ i, i < len → ((List.range len).map f).getD i zP = f i := fun i hil => by
      rw [List.getD_eq_getElem?_getD]; simp [hil]
    have hlen : ((List.range len).map f).length = len := by simp
    refine ⟨some ⟨ab, ao, none⟩, (List.range len).map f, cap, by rw [hlen], fun i hil => ?_, by rw [hlen]; omega⟩
    rw [hlen] at hil
    rw [hg i hil]
    exact ⟨ab, ao, rfl, hff i hil⟩
end

section
variable {H : Type} {enc : TypeId × Value → H} {w : World} {base : Nat} {spare : Nat → Bool} {held : Bool}
/-- A slice of ints off a row. -/
theorem open_ints24 {b0 : Nat} {r : Reach} {v : Value} {d : DataW H} {p : List MemPlace} (hv : Value.okWide Try.prog w r b0 44 v) (h : DataW.Trod enc Try.prog w base spare held 44 v d p) :
    ∃ (o : Option Addr) (L : List Int) (cap : Nat), v = .slice o L.length cap ∧ (∀ i, i < L.length → ∃ ab ao, o = some ⟨ab, ao, none⟩ ∧ w.cell? ⟨ab, ao + i, none⟩ = some (.int .i64 (L.getD i 0))) ∧ L.length ≤ maxLen := by
  obtain ⟨fuel, hf⟩ := h
  obtain ⟨a, len, cap, rfl⟩ := okWide_slice Try.underlying44 hv
  rcases Go.Deep.open_slice1 Try.underlying44 (by kernel_rfl) hf with ⟨h1, -⟩ | ⟨a', len', cap', m, n, V, D, Pl, hcs, hb, hl1, hm, hmm, hx, hi⟩
  · obtain ⟨rfl, rfl, rfl⟩ : a = none ∧ len = 0 ∧ cap = 0 := by simpa [Value.cells] using h1
    exact ⟨none, [], 0, rfl, fun i hi => absurd hi (by simp), by simp⟩
  · obtain ⟨rfl, rfl, rfl⟩ : a = some a' ∧ len = len' ∧ cap = cap' := by simpa [Value.cells] using hcs
    have hlm : len ≤ m := by subst hmm; split <;> omega
    rcases Nat.eq_zero_or_pos len with rfl | hpos
    · exact ⟨some a', [], cap, rfl, fun i hi => absurd hi (by simp), by simp⟩
    have key : ∀ i, i < len → ∃ z : Int, V i = .int .i64 z := by
      intro i hil
      obtain ⟨-, h2⟩ := hi i (by omega)
      obtain ⟨z, h3, -, h4⟩ := DataW.trod_int Try.underlying3 h2
      exact ⟨z, by simpa using h3⟩
    have hspot : a'.spot = none := by
      have h0 := (hi 0 (by omega)).1
      obtain ⟨z, hz⟩ := key 0 hpos
      rw [hz] at h0
      cases hsp : a'.spot with
      | none => rfl
      | some s =>
        exfalso
        simp [Addr.add, World.cell?, hsp] at h0
        split at h0 <;> simp at h0
    obtain ⟨ab, ao, sp⟩ := a'
    obtain rfl : sp = none := hspot
    have hf2 : ∃ f : Nat → Int, ∀ i, i < len → V i = .int .i64 (f i) := by
      classical
      refine ⟨fun i => if h : i < len then (key i h).choose else 0, fun i hil => ?_⟩
      simp only [hil, dite_true]
      exact (key i hil).choose_spec
    obtain ⟨f, hff⟩ := hf2
    have hg : ∀ i, i < len → ((List.range len).map f).getD i 0 = f i := fun i hil => by
      rw [List.getD_eq_getElem?_getD]; simp [hil]
    have hlen : ((List.range len).map f).length = len := by simp
    refine ⟨some ⟨ab, ao, none⟩, (List.range len).map f, cap, by rw [hlen], fun i hil => ?_, by rw [hlen]; omega⟩
    rw [hlen] at hil
    refine ⟨ab, ao, rfl, ?_⟩
    rw [hg i hil, ← hff i hil]
    have := (hi i (by omega)).1
    rw [Go.Proofs.Ytjiehgfamlidnaa.addr_add] at this
    exact this
end
end Go.Proofs.Ytjiehgfamlidnaa.Lin
