/- How a law's row is closed: the call returned true, and below the heap's end nothing has turned. By an AI agent. -/
import Derived.Test.YtafglefiodanbaaRows
import Derived.WalkKit
import Derived.ProofKit
import Derived.OpenShut
import Derived.Carry
import Derived.Deep.Slices
import Derived.Deep.Fields
namespace Go.Proofs.Ytafglefiodanbaa
open Go.ChangeShapes Go.WideShapes Go.ChangeAt Go.RowKit
section
variable {H : Type} {enc : TypeId × Value → H} {P : Program}

theorem trodAll_below (hl : laidOutB P = true) {W W' : World} (hb : Below W.heap.size W W') : ∀ {ts : List TypeId} {vs : List Value} {ds : List (DataW H)} {ps : List MemPlace},
    (∀ t ∈ ts, P.readableRec t = true ∧ t < P.types.size) → DataW.TrodAll enc P W 0 (fun _ => true) true ts vs ds ps → (∀ x ∈ ps, x.block < W.heap.size) →
    DataW.TrodAll enc P W' 0 (fun b => decide (b < W.heap.size)) true ts vs ds ps
  | [], vs, ds, ps, _, h, _ => by
    obtain ⟨rfl, rfl, rfl⟩ := trodAll_nil h
    exact trodAll_mk0
  | t :: ts, vs, ds, ps, ht, h, hlt => by
    obtain ⟨v, vs', d, ds', p, q, rfl, rfl, rfl, h1, h2⟩ := trodAll_cons h
    have a := ht t (by simp)
    exact trodAll_cons_mk (Below.trod hl a.1 a.2 h1 hb (fun x hx => hlt x (by simp [hx]))) (trodAll_below hl hb (fun t' h' => ht t' (by simp [h'])) h2 (fun x hx => hlt x (by simp [hx])))

/-- Every parameter's type can be read: one closed fact for the kernel. -/
theorem hts_of {f : Func} (h : (f.params.toList.all fun t => P.readableRec t && decide (t < P.types.size)) = true) : ∀ t ∈ f.params.toList, P.readableRec t = true ∧ t < P.types.size := by
  intro t ht
  have := List.all_eq_true.1 h t ht
  simpa using this

theorem law_post (hl : laidOutB P = true) {f : Func} {s : ChangeSpec} {fresh handsOn : Bool} {W W' : World} {args : Array Value} {ds gs : List (DataW H)} {before : List MemPlace} {T : TypeId}
    (hts : ∀ t ∈ f.params.toList, P.readableRec t = true ∧ t < P.types.size) (hW : DataW.Whole enc P f.params.toList s.vars false W args.toList ds gs before) (hvars : s.vars = [])
    (hfn : s.fn H ds = { results := [.lit (.bool true)], args := ds }) (hres : f.resultTypes = #[T]) (hT : P.underlying T = some .bool) (hb : Below W.heap.size W W') :
    s.post enc P f false fresh handsOn false W args (.bool true) W' := by
  have hW' := hW
  obtain ⟨p, q, h1, h2, rfl, h3, h4⟩ := hW
  rw [hvars] at h2
  obtain ⟨rfl, rfl⟩ := trodVars_none h2
  have hlt : ∀ x ∈ p, x.block < W.heap.size := fun x hx => hW'.lt x (by simp [hx])
  refine ⟨ds, [], p ++ [], [], p, [], hW', ?_, ?_, ?_, ?_, fun h => by cases h⟩
  · rw [List.append_nil, hfn, hres]
    exact trodAll_mk1 (shut_bool hT true)
  · rw [List.append_nil, hfn]
    exact trodAll_below hl hb hts h1 hlt
  · rw [hvars, List.append_nil, hfn]
    rfl
  · exact World.keptBut_mono (fun x hx => ⟨hx, Or.inr (Or.inl (by simpa using hx))⟩) (hb.frame (· ∈ p ++ []))

theorem addr_add (B off n : Nat) : (⟨B, off, none⟩ : Addr).add n = ⟨B, off + n, none⟩ := by
  unfold Addr.add
  by_cases h : n = 0
  · subst h; rfl
  · rw [if_neg h]

/-- A slice of structs whose fields have a cell each: empty, or every field of every element by its cell and its own reading. -/
theorem open_structs {w : World} {base b0 : Nat} {spare : Nat → Bool} {held : Bool} {r : Reach} {t e : TypeId} {fs : Array Field} {v : Value} {d : DataW H} {p : List MemPlace}
    (ht : P.underlying t = some (.slice e)) (he : P.underlying e = some (.struct fs)) (hone : Go.Deep.oneCellFields P fs = true) (hC : P.cellsOf e = fs.size) (h0 : 0 < fs.size)
    (hv : Value.okWide P w r b0 t v) (h : DataW.Trod enc P w base spare held t v d p) :
    (∃ a cap, v = .slice a 0 cap) ∨ ∃ B off len cap, v = .slice (some ⟨B, off, none⟩) len cap ∧ 0 < len ∧ len ≤ cap ∧ cap ≤ maxLen ∧
      ∀ i, i < len → ∀ (j : Nat) (f : Field), fs[j]? = some f → ∃ (x : Value) (y : DataW H × List MemPlace) (n : Nat), w.cell? ⟨B, off + i * fs.size + j, none⟩ = some x ∧ DataW.trod enc P w base spare held n f.type [x] = some y := by
  obtain ⟨a, len, cap, rfl⟩ := okWide_slice ht hv
  obtain ⟨fuel, hf⟩ := h
  by_cases hl : len = 0
  · subst hl; exact Or.inl ⟨a, cap, rfl⟩
  right
  rcases Go.Deep.open_slice ht hf with ⟨h1, -⟩ | ⟨a', len', cap', m, n, D, Pl, hcs, hb, hl1, hm, hmm, hx, hi⟩
  · simp [Value.cells] at h1; omega
  · obtain ⟨rfl, rfl, rfl⟩ : a = some a' ∧ len = len' ∧ cap = cap' := by simpa [Value.cells] using hcs
    have hlm : len ≤ m := by subst hmm; split <;> omega
    have key : ∀ i, i < len → ∀ (j : Nat) (f : Field), fs[j]? = some f → ∃ (x : Value) (y : DataW H × List MemPlace) (n : Nat), w.cell? (a'.add (i * fs.size + j)) = some x ∧ DataW.trod enc P w base spare held n f.type [x] = some y := by
      intro i hil j f hj
      obtain ⟨cs', hc, ht'⟩ := hi i (by omega)
      rw [hC] at hc
      obtain ⟨ys, n', hn', hy, hlen, hyl, hff⟩ := DataW.trod_struct he ht'
      obtain ⟨_, hcl, hat⟩ := World.cells?_some hc
      obtain ⟨ho, hk⟩ := Go.Deep.hone_of hone j f hj
      have hjl : j < fs.size := (Array.getElem?_eq_some_iff.1 hj).1
      have hv : cs'[j]? = some (cs'[j]'(by omega)) := List.getElem?_eq_getElem (by omega)
      have hf1 := hff j f hj
      rw [ho, hk] at hf1
      have hone' : (cs'.drop j).take 1 = [cs'[j]'(by omega)] := by
        rw [List.drop_eq_getElem_cons (by omega)]
        rfl
      rw [hone'] at hf1
      refine ⟨_, ys[j]'(by omega), n', ?_, hf1.trans (List.getElem?_eq_getElem (by omega))⟩
      rw [← Go.Deep.add_add, hat j hjl, hv]
    obtain ⟨B, off, sp⟩ := a'
    obtain rfl : sp = none := by
      obtain ⟨x, y, n, hx0, -⟩ := key 0 (by omega) 0 (fs[0]'h0) (Array.getElem?_eq_getElem h0)
      cases sp with
      | none => rfl
      | some s =>
        exfalso
        simp [Addr.add, World.cell?] at hx0
        split at hx0 <;> simp at hx0
    refine ⟨B, off, len, cap, rfl, by omega, hl1, hm, fun i hil j f hj => ?_⟩
    obtain ⟨x, y, n, hx, hy⟩ := key i hil j f hj
    rw [addr_add, ← Nat.add_assoc] at hx
    exact ⟨x, y, n, hx, hy⟩

/-- A slice whose elements have a cell each. -/
theorem open_ones {w : World} {base b0 : Nat} {spare : Nat → Bool} {held : Bool} {r : Reach} {t e : TypeId} {v : Value} {d : DataW H} {p : List MemPlace}
    (ht : P.underlying t = some (.slice e)) (hC : P.cellsOf e = 1)
    (hv : Value.okWide P w r b0 t v) (h : DataW.Trod enc P w base spare held t v d p) :
    (∃ a cap, v = .slice a 0 cap) ∨ ∃ B off len cap, v = .slice (some ⟨B, off, none⟩) len cap ∧ 0 < len ∧ len ≤ cap ∧ cap ≤ maxLen ∧
      ∀ i, i < len → ∃ (x : Value) (y : DataW H × List MemPlace) (n : Nat), w.cell? ⟨B, off + i, none⟩ = some x ∧ DataW.trod enc P w base spare held n e [x] = some y := by
  obtain ⟨a, len, cap, rfl⟩ := okWide_slice ht hv
  obtain ⟨fuel, hf⟩ := h
  by_cases hl : len = 0
  · subst hl; exact Or.inl ⟨a, cap, rfl⟩
  right
  rcases Go.Deep.open_slice ht hf with ⟨h1, -⟩ | ⟨a', len', cap', m, n, D, Pl, hcs, hb, hl1, hm, hmm, hx, hi⟩
  · simp [Value.cells] at h1; omega
  · obtain ⟨rfl, rfl, rfl⟩ : a = some a' ∧ len = len' ∧ cap = cap' := by simpa [Value.cells] using hcs
    have hlm : len ≤ m := by subst hmm; split <;> omega
    have key : ∀ i, i < len → ∃ (x : Value) (y : DataW H × List MemPlace) (n : Nat), w.cell? (a'.add i) = some x ∧ DataW.trod enc P w base spare held n e [x] = some y := by
      intro i hil
      obtain ⟨cs', hc, ht'⟩ := hi i (by omega)
      rw [hC, Nat.mul_one] at hc
      obtain ⟨_, hcl, hat⟩ := World.cells?_some hc
      obtain ⟨x, rfl⟩ : ∃ x, cs' = [x] := List.length_eq_one_iff.1 hcl
      have := hat 0 (by omega)
      rw [show (a'.add i).add 0 = a'.add i from rfl] at this
      exact ⟨x, _, n, this, ht'⟩
    obtain ⟨B, off, sp⟩ := a'
    obtain rfl : sp = none := by
      obtain ⟨x, y, n, hx0, -⟩ := key 0 (by omega)
      cases sp with
      | none => rfl
      | some s =>
        exfalso
        simp [Addr.add, World.cell?] at hx0
        split at hx0 <;> simp at hx0
    refine ⟨B, off, len, cap, rfl, by omega, hl1, hm, fun i hil => ?_⟩
    obtain ⟨x, y, n, hx, hy⟩ := key i hil
    rw [addr_add] at hx
    exact ⟨x, y, n, hx, hy⟩
end
end Go.Proofs.Ytafglefiodanbaa
