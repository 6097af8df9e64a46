/- How a law's row is closed: the call returned true, and below the heap's end nothing has turned. By an AI agent. -/
import Derived.Test.YtemjlkmlodmmfaaGreatDoorRows
import Derived.WalkKit
import Derived.ProofKit
import Derived.OpenShut
import Derived.Carry
import Derived.Deep.Slices
import Derived.Deep.Fields
import Derived.WalkLawsBesides
import Derived.Outline
import Derived.Handy
import Derived.Deep.QuietTactic
import Derived.BigQuiet
import Derived.Lib.Hide
import Derived.RegionCalls
import Derived.Deep.RegionWith
import Derived.Deep.RegionHeld3
import Derived.Deep.DeepCutAuto
import Derived.Deep.CutBlock
import Derived.Deep.LoopGhost
import Derived.StillTailTactics
import Derived.Maps.AppendAt
import Derived.BigRegion
import Derived.Laws.BitsAllLaws
import Derived.Laws.Bits64
import Derived.WalkSpells
import Derived.Deep.AppendLies
import Derived.Deep.DeepMust
namespace Go.Proofs.YtemjlkmlodmmfaaGreatDoor
open Go.ChangeShapes Go.WideShapes Go.ChangeAt Go.RowKit
section
variable {H : Type} {enc : TypeId × Value → H} {P : Program}

theorem trodAll_below (hl : laidOutB P = true) {W W' : World} (hb : Below W.heap.size W W') : ∀ {ts : List TypeId} {vs : List Value} {ds : List (DataW H)} {ps : List MemPlace},
    (∀ t ∈ ts, P.readableRec t = true ∧ t < P.types.size) → DataW.TrodAll enc P W 0 (fun _ => true) true ts vs ds ps → (∀ x ∈ ps, x.block < W.heap.size) →
    DataW.TrodAll enc P W' 0 (fun b => decide (b < W.heap.size)) true ts vs ds ps
  | [], vs, ds, ps, _, h, _ => by
    obtain ⟨rfl, rfl, rfl⟩ := trodAll_nil h
    exact trodAll_mk0
  | t :: ts, vs, ds, ps, ht, h, hlt => by
    obtain ⟨v, vs', d, ds', p, q, rfl, rfl, rfl, h1, h2⟩ := trodAll_cons h
    have a := ht t (by simp)
    exact trodAll_cons_mk (Below.trod hl a.1 a.2 h1 hb (fun x hx => hlt x (by simp [hx]))) (trodAll_below hl hb (fun t' h' => ht t' (by simp [h'])) h2 (fun x hx => hlt x (by simp [hx])))

/-- Every parameter's type can be read: one closed fact for the kernel. -/
theorem hts_of {f : Func} (h : (f.params.toList.all fun t => P.readableRec t && decide (t < P.types.size)) = true) : ∀ t ∈ f.params.toList, P.readableRec t = true ∧ t < P.types.size := by
  intro t ht
  have := List.all_eq_true.1 h t ht
  simpa using this

theorem law_post (hl : laidOutB P = true) {f : Func} {s : ChangeSpec} {fresh handsOn : Bool} {W W' : World} {args : Array Value} {ds gs : List (DataW H)} {before : List MemPlace} {T : TypeId}
    (hts : ∀ t ∈ f.params.toList, P.readableRec t = true ∧ t < P.types.size) (hW : DataW.Whole enc P f.params.toList s.vars false W args.toList ds gs before) (hvars : s.vars = [])
    (hfn : s.fn H ds = { results := [.lit (.bool true)], args := ds }) (hres : f.resultTypes = #[T]) (hT : P.underlying T = some .bool) (hb : Below W.heap.size W W') :
    s.post enc P f false fresh handsOn false W args (.bool true) W' := by
  have hW' := hW
  obtain ⟨p, q, h1, h2, rfl, h3, h4⟩ := hW
  rw [hvars] at h2
  obtain ⟨rfl, rfl⟩ := trodVars_none h2
  have hlt : ∀ x ∈ p, x.block < W.heap.size := fun x hx => hW'.lt x (by simp [hx])
  refine ⟨ds, [], p ++ [], [], p, [], hW', ?_, ?_, ?_, ?_, fun h => by cases h⟩
  · rw [List.append_nil, hfn, hres]
    exact trodAll_mk1 (shut_bool hT true)
  · rw [List.append_nil, hfn]
    exact trodAll_below hl hb hts h1 hlt
  · rw [hvars, List.append_nil, hfn]
    rfl
  · exact World.keptBut_mono (fun x hx => ⟨hx, Or.inr (Or.inl (by simpa using hx))⟩) (hb.frame (· ∈ p ++ []))

theorem addr_add (B off n : Nat) : (⟨B, off, none⟩ : Addr).add n = ⟨B, off + n, none⟩ := by
  unfold Addr.add
  by_cases h : n = 0
  · subst h; rfl
  · rw [if_neg h]

/-- A slice of structs whose fields have a cell each: empty, or every field of every element by its cell and its own reading. -/
theorem open_structs {w : World} {base b0 : Nat} {spare : Nat → Bool} {held : Bool} {r : Reach} {t e : TypeId} {fs : Array Field} {v : Value} {d : DataW H} {p : List MemPlace}
    (ht : P.underlying t = some (.slice e)) (he : P.underlying e = some (.struct fs)) (hone : Go.Deep.oneCellFields P fs = true) (hC : P.cellsOf e = fs.size) (h0 : 0 < fs.size)
    (hv : Value.okWide P w r b0 t v) (h : DataW.Trod enc P w base spare held t v d p) :
    (∃ a cap, v = .slice a 0 cap) ∨ ∃ B off len cap, v = .slice (some ⟨B, off, none⟩) len cap ∧ 0 < len ∧ len ≤ cap ∧ cap ≤ maxLen ∧
      ∀ i, i < len → ∀ (j : Nat) (f : Field), fs[j]? = some f → ∃ (x : Value) (y : DataW H × List MemPlace) (n : Nat), w.cell? ⟨B, off + i * fs.size + j, none⟩ = some x ∧ DataW.trod enc P w base spare held n f.type [x] = some y := by
  obtain ⟨a, len, cap, rfl⟩ := okWide_slice ht hv
  obtain ⟨fuel, hf⟩ := h
  by_cases hl : len = 0
  · subst hl; exact Or.inl ⟨a, cap, rfl⟩
  right
  rcases Go.Deep.open_slice ht hf with ⟨h1, -⟩ | ⟨a', len', cap', m, n, D, Pl, hcs, hb, hl1, hm, hmm, hx, hi⟩
  · simp [Value.cells] at h1; omega
  · obtain ⟨rfl, rfl, rfl⟩ : a = some a' ∧ len = len' ∧ cap = cap' := by simpa [Value.cells] using hcs
    have hlm : len ≤ m := by subst hmm; split <;> omega
    have key : ∀ i, i < len → ∀ (j : Nat) (f : Field), fs[j]? = some f → ∃ (x : Value) (y : DataW H × List MemPlace) (n : Nat), w.cell? (a'.add (i * fs.size + j)) = some x ∧ DataW.trod enc P w base spare held n f.type [x] = some y := by
      intro i hil j f hj
      obtain ⟨cs', hc, ht'⟩ := hi i (by omega)
      rw [hC] at hc
      obtain ⟨ys, n', hn', hy, hlen, hyl, hff⟩ := DataW.trod_struct he ht'
      obtain ⟨_, hcl, hat⟩ := World.cells?_some hc
      obtain ⟨ho, hk⟩ := Go.Deep.hone_of hone j f hj
      have hjl : j < fs.size := (Array.getElem?_eq_some_iff.1 hj).1
      have hv : cs'[j]? = some (cs'[j]'(by omega)) := List.getElem?_eq_getElem (by omega)
      have hf1 := hff j f hj
      rw [ho, hk] at hf1
      have hone' : (cs'.drop j).take 1 = [cs'[j]'(by omega)] := by
        rw [List.drop_eq_getElem_cons (by omega)]
        rfl
      rw [hone'] at hf1
      refine ⟨_, ys[j]'(by omega), n', ?_, hf1.trans (List.getElem?_eq_getElem (by omega))⟩
      rw [← Go.Deep.add_add, hat j hjl, hv]
    obtain ⟨B, off, sp⟩ := a'
    obtain rfl : sp = none := by
      obtain ⟨x, y, n, hx0, -⟩ := key 0 (by omega) 0 (fs[0]'h0) (Array.getElem?_eq_getElem h0)
      cases sp with
      | none => rfl
      | some s =>
        exfalso
        simp [Addr.add, World.cell?] at hx0
        split at hx0 <;> simp at hx0
    refine ⟨B, off, len, cap, rfl, by omega, hl1, hm, fun i hil j f hj => ?_⟩
    obtain ⟨x, y, n, hx, hy⟩ := key i hil j f hj
    rw [addr_add, ← Nat.add_assoc] at hx
    exact ⟨x, y, n, hx, hy⟩

/-- A slice whose elements have a cell each. -/
theorem open_ones {w : World} {base b0 : Nat} {spare : Nat → Bool} {held : Bool} {r : Reach} {t e : TypeId} {v : Value} {d : DataW H} {p : List MemPlace}
    (ht : P.underlying t = some (.slice e)) (hC : P.cellsOf e = 1)
    (hv : Value.okWide P w r b0 t v) (h : DataW.Trod enc P w base spare held t v d p) :
    (∃ a cap, v = .slice a 0 cap) ∨ ∃ B off len cap, v = .slice (some ⟨B, off, none⟩) len cap ∧ 0 < len ∧ len ≤ cap ∧ cap ≤ maxLen ∧
      ∀ i, i < len → ∃ (x : Value) (y : DataW H × List MemPlace) (n : Nat), w.cell? ⟨B, off + i, none⟩ = some x ∧ DataW.trod enc P w base spare held n e [x] = some y := by
  obtain ⟨a, len, cap, rfl⟩ := okWide_slice ht hv
  obtain ⟨fuel, hf⟩ := h
  by_cases hl : len = 0
  · subst hl; exact Or.inl ⟨a, cap, rfl⟩
  right
  rcases Go.Deep.open_slice ht hf with ⟨h1, -⟩ | ⟨a', len', cap', m, n, D, Pl, hcs, hb, hl1, hm, hmm, hx, hi⟩
  · simp [Value.cells] at h1; omega
  · obtain ⟨rfl, rfl, rfl⟩ : a = some a' ∧ len = len' ∧ cap = cap' := by simpa [Value.cells] using hcs
    have hlm : len ≤ m := by subst hmm; split <;> omega
    have key : ∀ i, i < len → ∃ (x : Value) (y : DataW H × List MemPlace) (n : Nat), w.cell? (a'.add i) = some x ∧ DataW.trod enc P w base spare held n e [x] = some y := by
      intro i hil
      obtain ⟨cs', hc, ht'⟩ := hi i (by omega)
      rw [hC, Nat.mul_one] at hc
      obtain ⟨_, hcl, hat⟩ := World.cells?_some hc
      obtain ⟨x, rfl⟩ : ∃ x, cs' = [x] := List.length_eq_one_iff.1 hcl
      have := hat 0 (by omega)
      rw [show (a'.add i).add 0 = a'.add i from rfl] at this
      exact ⟨x, _, n, this, ht'⟩
    obtain ⟨B, off, sp⟩ := a'
    obtain rfl : sp = none := by
      obtain ⟨x, y, n, hx0, -⟩ := key 0 (by omega)
      cases sp with
      | none => rfl
      | some s =>
        exfalso
        simp [Addr.add, World.cell?] at hx0
        split at hx0 <;> simp at hx0
    refine ⟨B, off, len, cap, rfl, by omega, hl1, hm, fun i hil => ?_⟩
    obtain ⟨x, y, n, hx, hy⟩ := key i hil
    rw [addr_add] at hx
    exact ⟨x, y, n, hx, hy⟩
end
end Go.Proofs.YtemjlkmlodmmfaaGreatDoor

/- PLAIN: unrounded scaling, as strconv does it: what it computes, and that it is right where no product comes near a whole number without being one. No program in sight. By an AI agent. -/
namespace Go.Proofs.YtemjlkmlodmmfaaGreatDoor.Us
set_option linter.unusedVariables false

/-- The floor of the logarithms, as the text takes them. -/
def lgp (p : Int) : Int := p * 108853 / 32768
def lg2 (x : Int) : Int := x * 78913 / 262144
def skw (e : Int) : Int := (e * 631305 - 261663) / 2097152

/-- 10 to the power p times 2 to the power k, as a fraction. -/
def num (p k : Int) : Nat := 10 ^ p.toNat * 2 ^ k.toNat
def den (p k : Int) : Nat := 10 ^ (-p).toNat * 2 ^ (-k).toNat
theorem den_pos (p k : Int) : 0 < den p k := Nat.mul_pos (Nat.pow_pos (by omega)) (Nat.pow_pos (by omega))
theorem num_pos (p k : Int) : 0 < num p k := Nat.mul_pos (Nat.pow_pos (by omega)) (Nat.pow_pos (by omega))

/-- The mantissa of 10 to the power p, rounded up. -/
def pm (p : Int) : Nat := (num p (127 - lgp p) + den p (127 - lgp p) - 1) / den p (127 - lgp p)
def pmHi (p : Int) : Nat := (pm p + 18446744073709551615) / 18446744073709551616
def pmLo (p : Int) : Nat := pmHi p * 18446744073709551616 - pm p

/-- With the last bit set where there is a rest. -/
def stk (q : Nat) (b : Bool) : Nat := if b then q / 2 * 2 + 1 else q

def usc (x s hi lo : Nat) : Nat :=
  let h := x * hi / 18446744073709551616
  let m := x * hi % 18446744073709551616
  if h % 2 ^ s ≠ 0 then stk (h / 2 ^ s) true
  else
    let m2 := x * lo / 18446744073709551616
    let h2 := if m < m2 then (h + 18446744073709551615) % 18446744073709551616 else h
    stk (h2 / 2 ^ s) (decide (1 < (m + 18446744073709551616 - m2) % 18446744073709551616))

/-- What it means to be: four times the number, its whole part, with the last bit set where there is a rest. -/
def unr (n d : Nat) : Nat := stk (n / d) (decide (n % d ≠ 0))

/-- x A / B, B > 0, where A / B lies within the last place of pm: the unrounded number of x A / (B 2^(128+s)). -/
theorem usc_ok {x s hi lo A B : Nat} (hx : x < 18446744073709551616) (hx1 : 0 < x) (hhi : hi < 18446744073709551616) (hlo : lo < 18446744073709551616) (hle : lo ≤ hi * 18446744073709551616)
    (hB : 0 < B) (hs : s < 64) (hA : A ≤ (hi * 18446744073709551616 - lo) * B) (hA2 : (hi * 18446744073709551616 - lo) * B < A + B) (hh : 0 < x * hi / 18446744073709551616)
    (gap : ∀ n, x * A = n * (B * 2 ^ (128 + s)) ∨ x * A + B * 36893488147419103232 ≤ n * (B * 2 ^ (128 + s)) ∨ n * (B * 2 ^ (128 + s)) + B * 36893488147419103232 ≤ x * A) :
    usc x s hi lo = unr (x * A) (B * 2 ^ (128 + s)) := by
  have e1 := Nat.div_add_mod (x * hi) 18446744073709551616
  have e2 := Nat.div_add_mod (x * lo) 18446744073709551616
  have l1 := Nat.mod_lt (x * hi) (y := 18446744073709551616) (by omega)
  have l2 := Nat.mod_lt (x * lo) (y := 18446744073709551616) (by omega)
  have u2 : x * lo ≤ 18446744073709551615 * 18446744073709551615 := Nat.mul_le_mul (by omega) (by omega)
  have u1 : x * hi ≤ 18446744073709551615 * 18446744073709551615 := Nat.mul_le_mul (by omega) (by omega)
  unfold usc
  generalize hH : x * hi / 18446744073709551616 = h at *
  generalize hM : x * hi % 18446744073709551616 = m at *
  generalize hM2 : x * lo / 18446744073709551616 = m2 at *
  generalize hL2 : x * lo % 18446744073709551616 = r2 at *
  have hT : x * ((hi * 18446744073709551616 - lo)) + (m2 * 18446744073709551616 + r2) = h * 340282366920938463463374607431768211456 + m * 18446744073709551616 := by
    have a : x * (hi * 18446744073709551616 - lo) + x * lo = x * hi * 18446744073709551616 := by
      rw [← Nat.mul_add, Nat.sub_add_cancel hle, Nat.mul_assoc]
    omega
  have t1 : x * A ≤ x * (hi * 18446744073709551616 - lo) * B := by rw [Nat.mul_assoc]; exact Nat.mul_le_mul_left x hA
  have t2 : x * (hi * 18446744073709551616 - lo) * B < x * A + x * B := by
    rw [Nat.mul_assoc, ← Nat.mul_add]; exact Nat.mul_lt_mul_of_pos_left hA2 hx1
  generalize hTT : x * (hi * 18446744073709551616 - lo) = T at *
  generalize hX : x * A = X at *
  -- in whole numbers: X lies above (T - x) B and at most at T B
  have key : ∀ c : Nat, T ≤ c → X ≤ c * B := fun c hc => Nat.le_trans t1 (Nat.mul_le_mul_right B hc)
  have key2 : ∀ c : Nat, c + x ≤ T → c * B < X := fun c hc => by
    have := Nat.mul_le_mul_right B hc
    rw [Nat.add_mul] at this
    omega
  have hP : 2 ^ (128 + s) = 2 ^ s * 340282366920938463463374607431768211456 := by rw [Nat.pow_add, Nat.mul_comm]
  have hS := Nat.two_pow_pos s
  rw [hP] at gap ⊢
  have e3 := Nat.div_add_mod h (2 ^ s)
  have l3 := Nat.mod_lt h hS
  have floor : ∀ q, q * (2 ^ s * 340282366920938463463374607431768211456) * B < X → X < (q + 1) * (2 ^ s * 340282366920938463463374607431768211456) * B →
      unr X (B * (2 ^ s * 340282366920938463463374607431768211456)) = stk q true := by
    intro q h1 h2
    have d0 : B * (2 ^ s * 340282366920938463463374607431768211456) = 2 ^ s * 340282366920938463463374607431768211456 * B := Nat.mul_comm _ _
    have hpos : 0 < 2 ^ s * 340282366920938463463374607431768211456 * B := Nat.mul_pos (Nat.mul_pos hS (by omega)) hB
    unfold unr
    rw [d0]
    rw [Nat.mul_assoc] at h1 h2
    generalize 2 ^ s * 340282366920938463463374607431768211456 * B = D at *
    have hq : X / D = q := Nat.div_eq_of_lt_le (Nat.le_of_lt h1) h2
    have hr := Nat.div_add_mod X D
    rw [hq] at hr
    have : X % D ≠ 0 := by
      intro h0; rw [h0, Nat.mul_comm] at hr; omega
    rw [hq, decide_eq_true this]
  by_cases hr : h % 2 ^ s ≠ 0
  · simp only [if_pos hr]
    generalize hq : h / 2 ^ s = q at *
    generalize hrr : h % 2 ^ s = r at *
    refine (floor q ?_ ?_).symm
    · have a1 : q * (2 ^ s * 340282366920938463463374607431768211456) ≤ (h - 1) * 340282366920938463463374607431768211456 := by
        rw [← Nat.mul_assoc, Nat.mul_comm q]; exact Nat.mul_le_mul_right _ (by omega)
      refine Nat.lt_of_le_of_lt (Nat.mul_le_mul_right B a1) (key2 _ ?_)
      have : 1 ≤ h := by omega
      omega
    · have a1 : (h + 1) * 340282366920938463463374607431768211456 ≤ (q + 1) * (2 ^ s * 340282366920938463463374607431768211456) := by
        rw [← Nat.mul_assoc]; refine Nat.mul_le_mul_right _ ?_
        rw [Nat.add_mul, Nat.one_mul, Nat.mul_comm q]; omega
      refine Nat.lt_of_lt_of_le ?_ (Nat.mul_le_mul_right B a1)
      refine Nat.lt_of_le_of_lt (key ((h + 1) * 340282366920938463463374607431768211456 - 1) (by omega)) (Nat.mul_lt_mul_of_pos_right (by omega) hB)
  · simp only [if_neg hr]
    have hr0 : h % 2 ^ s = 0 := by omega
    rw [hr0] at e3
    generalize hq : h / 2 ^ s = q at *
    have hh2 : h = q * 2 ^ s := by rw [Nat.mul_comm]; omega
    have hn : q * (B * (2 ^ s * 340282366920938463463374607431768211456)) = h * 340282366920938463463374607431768211456 * B := by
      rw [hh2, Nat.mul_comm B, ← Nat.mul_assoc, ← Nat.mul_assoc]
    have hn2 : ∀ q, q * (2 ^ s * 340282366920938463463374607431768211456) = q * 2 ^ s * 340282366920938463463374607431768211456 := fun q => by rw [Nat.mul_assoc]
    by_cases hm : m < m2
    · simp only [if_pos hm]
      have hq1 : 1 ≤ q := by
        refine Nat.succ_le_of_lt (Nat.pos_of_ne_zero fun h0 => ?_)
        rw [h0, Nat.zero_mul] at hh2; omega
      have hqs : (q - 1) * 2 ^ s + 2 ^ s = q * 2 ^ s := by
        have := Nat.add_mul (q - 1) 1 (2 ^ s)
        rw [Nat.sub_add_cancel hq1, Nat.one_mul] at this; exact this.symm
      have hhm : (h + 18446744073709551615) % 18446744073709551616 = h - 1 := by omega
      have hd1 : (h - 1) / 2 ^ s = q - 1 := Nat.div_eq_of_lt_le (by omega) (by rw [Nat.sub_add_cancel hq1]; omega)
      have hr1 : 1 < (m + 18446744073709551616 - m2) % 18446744073709551616 := by
        have : m2 ≤ 18446744073709551614 := by omega
        omega
      rw [hhm, hd1, decide_eq_true hr1]
      refine (floor (q - 1) ?_ ?_).symm
      · have a1 : (q - 1) * (2 ^ s * 340282366920938463463374607431768211456) ≤ (h - 1) * 340282366920938463463374607431768211456 := by
          rw [hn2]; exact Nat.mul_le_mul_right _ (by omega)
        refine Nat.lt_of_le_of_lt (Nat.mul_le_mul_right B a1) (key2 _ ?_)
        omega
      · rw [Nat.sub_add_cancel hq1, hn2, ← hh2]
        refine Nat.lt_of_le_of_lt (key (h * 340282366920938463463374607431768211456 - 1) (by omega)) (Nat.mul_lt_mul_of_pos_right (by omega) hB)
    · simp only [if_neg hm]
      rw [hq]
      by_cases hr1 : 1 < (m + 18446744073709551616 - m2) % 18446744073709551616
      · rw [decide_eq_true hr1]
        refine (floor q ?_ ?_).symm
        · rw [hn2, ← hh2]
          refine key2 _ ?_
          omega
        · have a1 : (h + 1) * 340282366920938463463374607431768211456 ≤ (q + 1) * (2 ^ s * 340282366920938463463374607431768211456) := by
            rw [hn2]; refine Nat.mul_le_mul_right _ ?_
            rw [Nat.add_mul, Nat.one_mul]; omega
          refine Nat.lt_of_lt_of_le ?_ (Nat.mul_le_mul_right B a1)
          refine Nat.lt_of_le_of_lt (key ((h + 1) * 340282366920938463463374607431768211456 - 1) (by omega)) (Nat.mul_lt_mul_of_pos_right (by omega) hB)
      · rw [decide_eq_false hr1]
        have g := gap q
        rw [hn] at g
        have hXe : X = h * 340282366920938463463374607431768211456 * B := by
          rcases g with g | g | g
          · exact g
          · exfalso
            have := key2 (h * 340282366920938463463374607431768211456 - 36893488147419103232) (by omega)
            rw [Nat.sub_mul] at this
            have e : B * 36893488147419103232 = 36893488147419103232 * B := Nat.mul_comm _ _
            omega
          · exfalso
            have := key (h * 340282366920938463463374607431768211456 + 18446744073709551616) (by omega)
            rw [Nat.add_mul] at this
            omega
        have hD : 0 < B * (2 ^ s * 340282366920938463463374607431768211456) := Nat.mul_pos hB (Nat.mul_pos hS (by omega))
        unfold unr
        rw [← hn] at hXe
        rw [hXe, Nat.mul_div_cancel _ hD, Nat.mul_mod_left]
        rfl

/-! ### the shortest form -/
def zz (e : Int) : Nat := if -1085 ≤ e then 11 else (-1074 - e).toNat
def skewd (m : Nat) (e : Int) : Bool := decide (m = 9223372036854775808) && decide (-1085 < e)
def pp (m : Nat) (e : Int) : Int := if skewd m e then -skw (e + 11) else -lg2 (e + zz e)
def mnv (m : Nat) (e : Int) : Nat := if skewd m e then m - 2 ^ 9 else m - 2 ^ (zz e - 1)
def mxv (m : Nat) (e : Int) : Nat := m + 2 ^ (zz e - 1)
def odd (m : Nat) (e : Int) : Nat := m / 2 ^ zz e % 2
def sft (m : Nat) (e : Int) : Nat := (-(e + lgp (pp m e) + 3)).toNat
def uu (m : Nat) (e : Int) (x : Nat) : Nat := usc x (sft m e) (pmHi (pp m e)) (pmLo (pp m e))
def dmn (m : Nat) (e : Int) : Nat := (uu m e (mnv m e) + odd m e + 3) / 4
def dmx (m : Nat) (e : Int) : Nat := (uu m e (mxv m e) - odd m e) / 4
def rnd (u : Nat) : Nat := (u + 1 + u / 4 % 2) / 4
/-- The digits and the power of ten that strconv finds for m 2^e. -/
def shD (m : Nat) (e : Int) : Nat := if dmn m e ≤ dmx m e / 10 * 10 then dmx m e / 10 else if dmn m e < dmx m e then rnd (uu m e m) else dmn m e
def shP (m : Nat) (e : Int) : Int := if dmn m e ≤ dmx m e / 10 * 10 then 1 - pp m e else -pp m e
def shortF (m : Nat) (e : Int) : Nat × Int := (shD m e, shP m e)
end Go.Proofs.YtemjlkmlodmmfaaGreatDoor.Us

/- Small words that the contracts share: what a call may have turned; blocks known whole; floats in cells. By an AI agent. -/
namespace Go.Proofs.YtemjlkmlodmmfaaGreatDoor
open Go.ChangeShapes Go.WideShapes Go.ChangeAt Go.RowKit
set_option linter.unusedVariables false

@[go_sem] theorem run_store_float (P : Program) (w : World) (a : Addr) (m : Mode) (k : FloatKind) (b : Nat) : (store a (.float k b) m).run P w = stored P w a (.float k b) m := run_store P w a _ m rfl

theorem ext_bits (x : Nat) (w : World) : (callFunc 25 #[.float .f64 x]).run Tryz.prog w = .ok (.value (.int .u64 x)) w := by kernel_rfl
theorem ext_from (x : Int) (w : World) : (callFunc 19 #[.int .u64 x]).run Tryz.prog w = .ok (.value (.float .f64 x.toNat)) w := by kernel_rfl

/-! ### what a call may have turned -/
/-- Of what was there only the blocks in 'bs' may have turned. -/
structure Keep (bs : Nat → Prop) (w w' : World) : Prop where
  os : w'.os = w.os
  tape : w'.tape = w.tape
  output : w'.output = w.output
  size : w.heap.size ≤ w'.heap.size
  block : ∀ k, k < w.heap.size → ¬ bs k → w'.heap[k]? = w.heap[k]?

theorem Keep.refl (bs : Nat → Prop) (w : World) : Keep bs w w := ⟨rfl, rfl, rfl, Nat.le_refl _, fun _ _ _ => rfl⟩
theorem Keep.trans {bs : Nat → Prop} {a b c : World} (h : Keep bs a b) (k : Keep bs b c) : Keep bs a c :=
  ⟨k.os.trans h.os, k.tape.trans h.tape, k.output.trans h.output, Nat.le_trans h.size k.size, fun i hi hn => (k.block i (Nat.lt_of_lt_of_le hi h.size) hn).trans (h.block i hi hn)⟩
theorem Keep.mono {bs cs : Nat → Prop} {w w' : World} (h : Keep bs w w') (hs : ∀ k, k < w.heap.size → bs k → cs k) : Keep cs w w' :=
  ⟨h.os, h.tape, h.output, h.size, fun k hk hn => h.block k hk fun hb => hn (hs k hk hb)⟩
theorem Keep.drewN {bs : Nat → Prop} {a w : World} (h : Keep bs a w) (n : Nat) : Keep bs a (w.drewN n) := h.trans ⟨rfl, rfl, rfl, Nat.le_refl _, fun _ _ _ => rfl⟩
theorem Keep.drew {bs : Nat → Prop} {a w : World} (h : Keep bs a w) : Keep bs a w.drew := h.trans ⟨rfl, rfl, rfl, Nat.le_refl _, fun _ _ _ => rfl⟩
theorem Keep.alloc {bs : Nat → Prop} {a w : World} (h : Keep bs a w) (o : Obj) : Keep bs a (w.alloc o) :=
  h.trans ⟨rfl, rfl, rfl, by simp, fun k hk _ => Below.heap_alloc _ _ _ hk⟩
theorem Keep.setCell {bs : Nat → Prop} {a w : World} (h : Keep bs a w) {p : Addr} (hp : bs p.block ∨ a.heap.size ≤ p.block) (u : Value) : Keep bs a (w.setCell p u) :=
  ⟨h.os, h.tape, h.output, by have := h.size; simpa [World.setCell] using this, fun k hk hn => (Below.heap_setCell _ _ _ _ (by rcases hp with hp | hp; (intro e; subst e; exact hn hp); omega)).trans (h.block k hk hn)⟩
theorem Keep.none {w w' : World} (h : Keep (fun _ => False) w w') : Below w.heap.size w w' := ⟨h.os, h.tape, h.output, h.size, fun k hk => h.block k hk id⟩
theorem Keep.below {bs : Nat → Prop} {B : Nat} {w w' : World} (h : Keep bs w w') (hB : B ≤ w.heap.size) (hs : ∀ k, bs k → B ≤ k) : Below B w w' :=
  ⟨h.os, h.tape, h.output, h.size, fun k hk => h.block k (by omega) fun hb => by have := hs k hb; omega⟩
theorem Keep.of_below {w w' : World} (h : Below w.heap.size w w') : Keep (fun _ => False) w w' := ⟨h.os, h.tape, h.output, h.size, fun k hk _ => h.block k hk⟩
theorem Keep.same {bs : Nat → Prop} {w w' : World} (h : Keep bs w w') {b : Nat} {o : Obj} (hb : w.heap[b]? = some o) (hn : ¬ bs b) : w'.heap[b]? = some o :=
  (h.block b (lt_of_block hb) hn).trans hb
theorem Keep.cell {bs : Nat → Prop} {w w' : World} (h : Keep bs w w') {p : Addr} (hp : p.block < w.heap.size) (hn : ¬ bs p.block) : w'.cell? p = w.cell? p := World.cell?_of_block (w := w) (h.block p.block hp hn)
theorem Keep.frozen {bs : Nat → Prop} {w w' : World} (h : Keep bs w w') {p : Addr} (hp : p.block < w.heap.size) (hn : ¬ bs p.block) : w'.frozen? p = w.frozen? p := World.frozen?_of_block (w := w) (h.block p.block hp hn)

/-- A block known whole: its cells; that they may be written; what it is behind a store. -/
theorem blk_cell {w : World} {b : Nat} {c : Array Value} {t : TypeId} (h : w.heap[b]? = some (.cells c t (0, 0))) (i : Nat) : w.cell? ⟨b, i, none⟩ = c[i]? := by simp [World.cell?, h]
theorem blk_free {w : World} {b : Nat} {c : Array Value} {t : TypeId} (h : w.heap[b]? = some (.cells c t (0, 0))) (i : Nat) : w.frozen? ⟨b, i, none⟩ = false := by simp [World.frozen?, h]
theorem blk_set {w : World} {b : Nat} {c : Array Value} {t : TypeId} (h : w.heap[b]? = some (.cells c t (0, 0))) (i : Nat) (u : Value) : (w.setCell ⟨b, i, none⟩ u).heap[b]? = some (.cells (c.setIfInBounds i u) t (0, 0)) := by
  have hlt := lt_of_block h
  have h' : w.heap[b] = .cells c t (0, 0) := by simpa [Array.getElem?_eq_getElem hlt] using h
  show (w.heap.modify b _)[b]? = _
  rw [Array.getElem?_eq_getElem (by simpa using hlt), Array.getElem_modify_self, h']
  rfl
theorem blk_new (w : World) (o : Obj) : (w.alloc o).heap[w.heap.size]? = some o := by
  show (w.heap.push o)[w.heap.size]? = _
  simp
theorem blk_alloc {w : World} {b : Nat} {x : Obj} (h : w.heap[b]? = some x) (o : Obj) : (w.alloc o).heap[b]? = some x := by
  rw [Below.heap_alloc _ _ _ (lt_of_block h)]; exact h

theorem blk_new_at (w : World) (o : Obj) {n : Nat} (h : w.heap.size = n) : (w.alloc o).heap[n]? = some o := by subst h; exact blk_new w o

/-- A new block of the call's own. -/
def NewAt (c : Array Value) (t : TypeId) (w : World) (e : Ending) (w' : World) : Prop :=
  ∃ b, e = .returned (.tuple #[.pointer (some ⟨b, 0, none⟩), .int .i64 0]) ∧ w.heap.size ≤ b ∧ w'.heap[b]? = some (.cells c t (0, 0)) ∧ Keep (fun _ => False) w w'

theorem past {w : World} {b i : Nat} {v : Value} (hz : b < w.heap.size) (h : w.cell? ⟨b, i, none⟩ = some v) (o : Obj) : (w.alloc o).cell? ⟨b, i, none⟩ = some v := by
  rw [World.cell?_alloc_past _ _ _ hz]; exact h

/-- What turned was the call's own. -/
theorem Keep.own {bs cs : Nat → Prop} {a b c : World} (h : Keep cs a b) (k : Keep bs b c) (hb : ∀ i, bs i → cs i ∨ a.heap.size ≤ i) : Keep cs a c :=
  ⟨k.os.trans h.os, k.tape.trans h.tape, k.output.trans h.output, Nat.le_trans h.size k.size, fun i hi hn => (k.block i (Nat.lt_of_lt_of_le hi h.size) (fun hx => by rcases hb i hx with h1 | h1; (exact hn h1); omega)).trans (h.block i hi hn)⟩

/-- 'append' of one value: the new slice is written out. -/
theorem wpList_append_one {P : Program} (w : World) {ops : Array Oper} {rest : List Oper} {o : Oper} {a : Act} {Q : Exit → Act → World → Prop} (hgd : o.guard = none) (s x : Operand) (t : TypeId)
    (ho : o.op = .call { callee := .builtin .append, args := #[s, x], argTypes := #[t, t] })
    (base : Nat) (e : TypeId) (i : TypeInfo) (z : Value) (bytes : Nat) (ht : P.underlying t = some (.slice e)) (hi : P.info? e = some i) (hz : i.zero = some z)
    (hsize : i.size = 1) (hby : i.bytes = bytes) (hzs : z.cells.size = 1)
    (v : Value) (n : Nat) (xs : List Value) (hs : a.eval s = v) (hown : w.ownsRow base e 1 v n xs)
    (ad : Addr) (c : Nat) (u : Value) (hx : a.eval x = .slice (some ad) 1 c) (hu : w.cell? ad = some u) (h1 : u.oneCell' = true)
    (h63 : n + 1 ≤ maxLen) (hbytes : (n + 1) * bytes ≤ 140737488355328) (hbase : base ≤ w.heap.size)
    (h : ∀ g cap w', w'.ownsRow base e 1 (.slice (some ⟨g, 0, none⟩) (n + 1) cap) (n + 1) (xs ++ [u]) → w.grownBy w' v.ownBlock → (v.ownBlock = some g ∨ g = w.heap.size) → base ≤ g → wpList P ops Q rest (a.put o.dst (.slice (some ⟨g, 0, none⟩) (n + 1) cap)) w') :
    wpList P ops Q (o :: rest) a w := by
  refine wpList_append_own_at (P := P) w hgd s x t ho base e i z 1 bytes ht hi hz hsize hby hzs (by omega) v n xs hs hown ad 1 c [u] hx rfl ?_ ?_ h63 hbytes hbase ?_
  · intro j u' hj
    cases j with
    | zero => simp at hj; subst hj; exact hu
    | succ j => simp at hj
  · intro u' hu'; simp at hu'; subst hu'; exact h1
  · intro v' w' h2 h3 _ h5
    rcases h2.2 with ⟨-, hz0⟩ | ⟨g, cap, cells, hv, hg, -⟩
    · omega
    · subst hv
      refine h g cap w' h2 h3 ?_ hg
      rcases h5 with h5 | h5
      · exact Or.inl (by rw [← h5]; rfl)
      · exact Or.inr (by simpa [Value.ownBlock] using h5)

theorem set_other {w : World} {p q : Addr} {u v : Value} (h : p ≠ q) (hc : w.cell? q = some v) : (w.setCell p u).cell? q = some v := by
  rw [World.cell?_setCell_other (h := h)]; exact hc
theorem set_same {w : World} {p : Addr} {u v : Value} (hc : w.cell? p = some v) : (w.setCell p u).cell? p = some u := World.cell?_setCell_same w p u hc
theorem set_free {w : World} {p q : Addr} {u : Value} (hc : w.frozen? q = false) : (w.setCell p u).frozen? q = false := by
  rw [World.frozen?_setCell]; exact hc
theorem keep_keep {w w' : World} (h : Keep (fun _ => False) w w') {b : Nat} {o : Obj} (hb : w.heap[b]? = some o) : w'.heap[b]? = some o := h.same hb id
theorem Keep.grown {bs : Nat → Prop} {a w w' : World} {row : Option Nat} (h : Keep bs a w) (hg : w.grownBy w' row) (hr : ∀ k, row = some k → bs k ∨ a.heap.size ≤ k) : Keep bs a w' :=
  ⟨hg.os.trans h.os, hg.tape.trans h.tape, hg.output.trans h.output, Nat.le_trans h.size hg.size, fun k hk hn => (hg.block k (by have := h.size; omega) (fun e => by rcases hr k e.symm with h1 | h1; (exact hn h1); omega)).trans (h.block k hk hn)⟩

end Go.Proofs.YtemjlkmlodmmfaaGreatDoor

/- PLAIN MATHEMATICS OF BIT STRINGS packed into bytes. No program in sight. By an AI agent. -/
namespace Go.Proofs.YtemjlkmlodmmfaaGreatDoor.Bt

/-- The lowest n bits of x, the highest first. -/
def bitsOf (x : Nat) : Nat → List Bool
  | 0 => []
  | n + 1 => x.testBit n :: bitsOf x n

theorem bitsOf_length (x n : Nat) : (bitsOf x n).length = n := by
  induction n with
  | zero => rfl
  | succ n ih => simp [bitsOf, ih]

/-- A bit string as a number. -/
def val (l : List Bool) : Nat := l.foldl (fun a b => 2 * a + b.toNat) 0

theorem foldl_val (l : List Bool) : ∀ a, l.foldl (fun a b => 2 * a + b.toNat) a = a * 2 ^ l.length + val l := by
  unfold val
  induction l with
  | nil => intro a; simp
  | cons b l ih =>
    intro a
    simp only [List.foldl_cons, List.length_cons]
    rw [ih, ih (2 * 0 + b.toNat), Nat.pow_succ, Nat.add_mul, Nat.add_mul]
    rw [Nat.mul_comm 2 a, Nat.mul_assoc a 2, Nat.mul_comm 2 (2 ^ l.length)]
    omega

theorem val_append (l r : List Bool) : val (l ++ r) = val l * 2 ^ r.length + val r := by
  unfold val
  rw [List.foldl_append, foldl_val]
  rfl
theorem val_cons (b : Bool) (l : List Bool) : val (b :: l) = b.toNat * 2 ^ l.length + val l := by
  have := val_append [b] l
  simpa [val] using this
theorem val_lt (l : List Bool) : val l < 2 ^ l.length := by
  induction l with
  | nil => simp [val]
  | cons b l ih =>
    rw [val_cons, List.length_cons, Nat.pow_succ]
    have : b.toNat ≤ 1 := by cases b <;> simp
    have h2 : b.toNat * 2 ^ l.length ≤ 1 * 2 ^ l.length := Nat.mul_le_mul_right _ this
    omega

theorem val_bitsOf (x n : Nat) : val (bitsOf x n) = x % 2 ^ n := by
  induction n with
  | zero => simp [bitsOf, val, Nat.mod_one]
  | succ n ih =>
    rw [bitsOf, val_cons, bitsOf_length, ih, Nat.mod_pow_succ, Nat.toNat_testBit]
    rw [Nat.mul_comm, Nat.add_comm]

theorem bitsOf_val (l : List Bool) : bitsOf (val l) l.length = l := by
  induction l with
  | nil => rfl
  | cons b l ih =>
    rw [List.length_cons, bitsOf, val_cons]
    have hl := val_lt l
    congr 1
    · rw [Nat.mul_comm, Nat.testBit_two_pow_mul_add _ hl]
      simp
      cases b <;> rfl
    · have : ∀ n, n ≤ l.length → bitsOf (b.toNat * 2 ^ l.length + val l) n = bitsOf (val l) n := by
        intro n hn
        induction n with
        | zero => rfl
        | succ n ih2 =>
          rw [bitsOf, bitsOf, ih2 (by omega), Nat.mul_comm, Nat.testBit_two_pow_mul_add _ hl, if_pos (by omega)]
      rw [this _ (Nat.le_refl _), ih]

/-! ### bytes -/
/-- Byte i of a bit string, filled up with 0. -/
def byteAt (bs : List Bool) (i : Nat) : Nat := val ((List.range 8).map fun j => bs.getD (8 * i + j) false)
/-- As many bytes as the bits need. -/
def pack (bs : List Bool) : List Nat := (List.range ((bs.length + 7) / 8)).map (byteAt bs)
/-- Bit k of bytes. -/
def bitAt (B : List Nat) (k : Nat) : Bool := (B.getD (k / 8) 0).testBit (7 - k % 8)
/-- All bits of bytes. -/
def unpack (B : List Nat) : List Bool := (List.range (8 * B.length)).map (bitAt B)

theorem byteAt_lt (bs : List Bool) (i : Nat) : byteAt bs i < 256 := by
  have := val_lt ((List.range 8).map fun j => bs.getD (8 * i + j) false)
  simpa [byteAt] using this

theorem pack_length (bs : List Bool) : (pack bs).length = (bs.length + 7) / 8 := by simp [pack]

theorem testBit_val (l : List Bool) : ∀ j, j < l.length → (val l).testBit (l.length - 1 - j) = l.getD j false := by
  induction l with
  | nil => intro j h; simp at h
  | cons b l ih =>
    intro j h
    rw [val_cons, List.length_cons, Nat.mul_comm, Nat.testBit_two_pow_mul_add _ (val_lt l)]
    cases j with
    | zero =>
      rw [if_neg (by omega), show l.length + 1 - 1 - 0 - l.length = 0 by omega]
      cases b <;> rfl
    | succ j =>
      simp only [List.length_cons] at h
      rw [if_pos (by omega), show l.length + 1 - 1 - (j + 1) = l.length - 1 - j by omega, ih j (by omega)]
      rfl

theorem byteAt_testBit (bs : List Bool) (i j : Nat) (h : j < 8) : (byteAt bs i).testBit (7 - j) = bs.getD (8 * i + j) false := by
  have := testBit_val ((List.range 8).map fun j => bs.getD (8 * i + j) false) j (by simpa using h)
  simp only [List.length_map, List.length_range] at this
  unfold byteAt
  rw [show 7 - j = 8 - 1 - j by omega, this]
  simp [List.getD_eq_getElem?_getD, h]

theorem pack_getD (bs : List Bool) (i : Nat) (h : i < (bs.length + 7) / 8) : (pack bs).getD i 0 = byteAt bs i := by
  unfold pack
  simp [List.getD_eq_getElem?_getD, h]

/-- What was packed is there, bit by bit; behind it 0. -/
theorem bitAt_pack (bs : List Bool) (k : Nat) : bitAt (pack bs) k = bs.getD k false := by
  unfold bitAt
  by_cases h : k / 8 < (bs.length + 7) / 8
  · rw [pack_getD bs _ h, byteAt_testBit bs _ _ (by omega), show 8 * (k / 8) + k % 8 = k by omega]
  · have h1 : (pack bs).getD (k / 8) 0 = 0 := by
      simp [List.getD_eq_getElem?_getD, List.getElem?_eq_none (show (pack bs).length ≤ k / 8 by rw [pack_length]; omega)]
    have h2 : bs.getD k false = false := by
      simp [List.getD_eq_getElem?_getD, List.getElem?_eq_none (show bs.length ≤ k by omega)]
    rw [h1, h2]
    simp

theorem eq_of_testBit {a b : Nat} (ha : a < 256) (hb : b < 256) (h : ∀ j, j < 8 → a.testBit (7 - j) = b.testBit (7 - j)) : a = b := by
  refine Nat.eq_of_testBit_eq fun i => ?_
  by_cases hi : i < 8
  · have := h (7 - i) (by omega)
    rwa [show 7 - (7 - i) = i by omega] at this
  · rw [Nat.testBit_lt_two_pow (Nat.lt_of_lt_of_le ha (by show 2 ^ 8 ≤ _; exact Nat.pow_le_pow_right (by omega) (by omega))), Nat.testBit_lt_two_pow (Nat.lt_of_lt_of_le hb (by show 2 ^ 8 ≤ _; exact Nat.pow_le_pow_right (by omega) (by omega)))]

/-- Bytes whose bits are those, filled up with 0, are the packed ones. -/
theorem pack_unique {B : List Nat} {bs : List Bool} (hl : B.length = (bs.length + 7) / 8) (hB : ∀ x ∈ B, x < 256) (h : ∀ k, k < 8 * B.length → bitAt B k = bs.getD k false) : B = pack bs := by
  refine List.ext_getElem (by rw [hl, pack_length]) fun i h1 h2 => ?_
  have h3 : (pack bs)[i] = byteAt bs i := by simp [pack]
  rw [h3]
  refine eq_of_testBit (hB _ (List.getElem_mem h1)) (byteAt_lt _ _) fun j hj => ?_
  rw [byteAt_testBit bs i j hj]
  have := h (8 * i + j) (by omega)
  unfold bitAt at this
  rw [show (8 * i + j) / 8 = i by omega, show (8 * i + j) % 8 = j by omega] at this
  rw [← this]
  congr 1
  simp [List.getD_eq_getElem?_getD, h1]

/-- A byte more, all 0, where a byte ends. -/
theorem byteAt_snoc (bs : List Bool) (c : Bool) (i : Nat) : byteAt (bs ++ [c]) i = if i = bs.length / 8 then byteAt bs i ||| c.toNat <<< (7 - bs.length % 8) else byteAt bs i := by
  have hc : c.toNat ≤ 1 := by cases c <;> simp
  have hs : c.toNat <<< (7 - bs.length % 8) < 256 := by
    rw [Nat.shiftLeft_eq]
    have : 2 ^ (7 - bs.length % 8) ≤ 2 ^ 7 := Nat.pow_le_pow_right (by omega) (by omega)
    have := Nat.mul_le_mul hc this
    omega
  refine eq_of_testBit (byteAt_lt _ _) ?_ fun j hj => ?_
  · split
    · exact Nat.or_lt_two_pow (n := 8) (byteAt_lt _ _) hs
    · exact byteAt_lt _ _
  · rw [byteAt_testBit _ _ _ hj]
    have hget : (bs ++ [c]).getD (8 * i + j) false = if 8 * i + j = bs.length then c else bs.getD (8 * i + j) false := by
      simp only [List.getD_eq_getElem?_getD]
      by_cases h1 : 8 * i + j < bs.length
      · rw [List.getElem?_append_left h1, if_neg (by omega)]
      · rw [List.getElem?_append_right (by omega)]
        by_cases h2 : 8 * i + j = bs.length
        · rw [if_pos h2, h2, Nat.sub_self]; rfl
        · rw [if_neg h2, List.getElem?_eq_none (by simp; omega), List.getElem?_eq_none (by omega)]
    rw [hget]
    by_cases hi : i = bs.length / 8
    · rw [if_pos hi, Nat.testBit_or, byteAt_testBit bs _ _ hj, Nat.testBit_shiftLeft]
      by_cases h2 : 8 * i + j = bs.length
      · rw [if_pos h2]
        have : bs.getD (8 * i + j) false = false := by
          simp [List.getD_eq_getElem?_getD, List.getElem?_eq_none (show bs.length ≤ 8 * i + j by omega)]
        rw [this, show 7 - j = 7 - bs.length % 8 by omega, Nat.sub_self]
        cases c <;> simp
      · rw [if_neg h2]
        have : (c.toNat.testBit (7 - j - (7 - bs.length % 8)) && decide (7 - bs.length % 8 ≤ 7 - j)) = false ∨ bs.getD (8 * i + j) false = true ∨ True := Or.inr (Or.inr trivial)
        by_cases h3 : 7 - bs.length % 8 ≤ 7 - j
        · have h4 : 7 - j - (7 - bs.length % 8) ≠ 0 := by omega
          have h5 : c.toNat.testBit (7 - j - (7 - bs.length % 8)) = false := by
            cases c
            · simp
            · exact Nat.testBit_lt_two_pow (by show 1 < _; exact Nat.one_lt_two_pow h4)
          rw [h5]; simp
        · simp [h3]
    · rw [if_neg hi, if_neg (by omega), byteAt_testBit bs _ _ hj]

/-- A bit more, where a byte ends: a byte more. -/
theorem pack_snoc_new (bs : List Bool) (c : Bool) (h : bs.length % 8 = 0) : pack (bs ++ [c]) = pack bs ++ [0 ||| c.toNat <<< 7] := by
  unfold pack
  rw [List.length_append, List.length_singleton, show (bs.length + 1 + 7) / 8 = (bs.length + 7) / 8 + 1 by omega, List.range_succ, List.map_append]
  congr 1
  · refine List.map_congr_left fun i hi => ?_
    rw [byteAt_snoc, if_neg (by have := List.mem_range.1 hi; omega)]
  · simp only [List.map_cons, List.map_nil]
    rw [byteAt_snoc, if_pos (by omega), h]
    congr 2
    refine eq_of_testBit (byteAt_lt _ _) (by omega) fun j hj => ?_
    rw [byteAt_testBit bs _ _ hj]
    simp [List.getD_eq_getElem?_getD, List.getElem?_eq_none (show bs.length ≤ 8 * ((bs.length + 7) / 8) + j by omega)]

/-- A bit more within a byte. -/
theorem pack_snoc_in (bs : List Bool) (c : Bool) (h : bs.length % 8 ≠ 0) : pack (bs ++ [c]) = (pack bs).set ((pack bs).length - 1) ((pack bs).getD ((pack bs).length - 1) 0 ||| c.toNat <<< (7 - bs.length % 8)) := by
  have hl : (pack (bs ++ [c])).length = (pack bs).length := by rw [pack_length, pack_length, List.length_append, List.length_singleton]; omega
  refine List.ext_getElem (by rw [List.length_set, hl]) fun i h1 h2 => ?_
  have hp := pack_length bs
  have h3 : (pack (bs ++ [c]))[i] = byteAt (bs ++ [c]) i := by simp [pack]
  rw [h3, byteAt_snoc, List.getElem_set]
  have h4 : i < (pack bs).length := by omega
  have h5 : (pack bs)[i] = byteAt bs i := by simp [pack]
  by_cases hi : i = bs.length / 8
  · rw [if_pos hi, if_pos (by omega), show (pack bs).length - 1 = i by omega, pack_getD bs _ (by omega)]
  · rw [if_neg hi, if_neg (by omega), h5]
end Go.Proofs.YtemjlkmlodmmfaaGreatDoor.Bt

/- What the real numbers' texts share: bytes and floats in rows; flumelaw3.Of. By an AI agent. -/
namespace Go.Proofs.YtemjlkmlodmmfaaGreatDoor
open Go.ChangeShapes Go.WideShapes Go.ChangeAt Go.RowKit
open Bt
set_option linter.unusedVariables false

/-- Bytes as cells. -/
def u8s (B : List Nat) : List Value := B.map fun n : Nat => Value.int .u8 (n : Int)
theorem u8s_length (B : List Nat) : (u8s B).length = B.length := by simp [u8s]
theorem u8s_append (A B : List Nat) : u8s (A ++ B) = u8s A ++ u8s B := by simp [u8s]
theorem u8s_get (B : List Nat) (i : Nat) (h : i < B.length) : (u8s B)[i]? = some (.int .u8 (B.getD i 0 : Nat)) := by
  simp [u8s, List.getD_eq_getElem?_getD, h]
theorem info_u8 : (Tryz.prog.info? 5).map (fun i => (i.zero, i.size, i.bytes)) = some (some (.int .u8 0), 1, 1) := by kernel_rfl

/-- A row of bytes of the call's own. -/
def Row (base : Nat) (B : List Nat) (w : World) (e : Ending) (w' : World) : Prop :=
  ∃ v, e = .returned v ∧ w'.ownsRow base 5 1 v B.length (u8s B) ∧ Below base w w'
theorem nil_row (w : World) (base : Nat) (e : TypeId) : w.ownsRow base e 1 (.slice none 0 0) 0 [] := ⟨rfl, Or.inl ⟨rfl, rfl⟩⟩

theorem cell_in {w : World} {a : Addr} {v : Value} (h : w.cell? a = some v) : a.block < w.heap.size := by
  refine Nat.lt_of_not_le fun hh => ?_
  unfold World.cell? at h
  rw [Array.getElem?_eq_none hh] at h
  simp at h

/-- A slice of floats, by their bits. -/
def Fls (w : World) (o : Option Addr) (us : List Nat) : Prop := ∀ i, i < us.length → ∃ ad, o = some ad ∧ w.cell? (ad.add i) = some (.float .f64 (us.getD i 0))

/-- Floats as cells. -/
def f64s (us : List Nat) : List Value := us.map fun u => Value.float .f64 u
theorem f64s_length (us : List Nat) : (f64s us).length = us.length := by simp [f64s]
theorem f64s_get (us : List Nat) (i : Nat) (h : i < us.length) : (f64s us)[i]? = some (.float .f64 (us.getD i 0)) := by
  simp [f64s, List.getD_eq_getElem?_getD, h]

theorem info_f64 : (Tryz.prog.info? 28).map (fun i => (i.zero, i.size, i.bytes)) = some (some (.float .f64 0), 1, 8) := by kernel_rfl

/-- A row of floats of somebody's own, as a slice. -/
theorem fls_of {w : World} {base : Nat} {v : Value} {us : List Nat} (h : w.ownsRow base 28 1 v us.length (f64s us)) : ∃ o cap, v = .slice o us.length cap ∧ Fls w o us := by
  rcases h.2 with ⟨h1, h2⟩ | ⟨g, cap, cells, rfl, -⟩
  · refine ⟨none, 0, by rw [h1, h2], fun i hi => absurd hi (by omega)⟩
  · refine ⟨_, cap, rfl, fun i hi => ⟨_, rfl, ?_⟩⟩
    exact h.cells rfl i _ (f64s_get us i hi)

/-- A slice of whole numbers. -/
def U64s (w : World) (o : Option Addr) (us : List Nat) : Prop := ∀ i, i < us.length → ∃ ad, o = some ad ∧ w.cell? (ad.add i) = some (.int .u64 (us.getD i 0 : Nat))

theorem take_succ_getD (us : List Nat) (i : Nat) (h : i < us.length) : us.take (i + 1) = us.take i ++ [us.getD i 0] := by
  rw [List.take_succ_eq_append_getElem h, List.getD_eq_getElem?_getD, List.getElem?_eq_getElem h]; rfl

set_option maxRecDepth 100000 in
set_option maxHeartbeats 2000000 in
theorem of_any (o : Option Addr) (us : List Nat) (cap : Nat) (w : World) (hF : U64s w o us) (hn : us.length ≤ 2000000) :
    Calls Tryz.prog 5 #[.slice o us.length cap] w fun e w' => ∃ v, e = .returned v ∧ w'.ownsRow w.heap.size 28 1 v us.length (f64s us) ∧ Below w.heap.size w w' := by
  obtain ⟨i0, hi, hz0, hz1, hz2⟩ := info_parts info_f64
  have HF := Lib.hid hF
  clear hF
  generalize hlen : us.length = n at *
  have HLEN := Lib.hid hlen
  clear hlen
  go_enter Tryz.func5, Tryz.ntmps5
  go_wp2_with fail
  go_loopg [3, 4] n (fun g v i wr => ∃ k : Nat, g + k = n ∧ i = .int .i64 (k : Int) ∧ Hid (wr.ownsRow w.heap.size 28 1 v k (f64s (us.take k)) ∧ Below w.heap.size w wr))
  case atStart => exact ⟨0, by omega, rfl, ⟨⟨rfl, Or.inl ⟨rfl, rfl⟩⟩, Below.refl _ _⟩⟩
  case round =>
    obtain ⟨k, hgk, rfl, HR⟩ := hrel
    by_cases hk : k < n
    · obtain ⟨ad, rfl, hcell⟩ := HF.out k (by rw [HLEN.out]; exact hk)
      have hcz : wr.cell? (ad.add k) = some (.int .u64 (us.getD k 0 : Nat)) := by
        rw [← hcell]; exact HR.out.2.cell (by exact cell_in hcell)
      have htk := take_succ_getD us k (by rw [HLEN.out]; exact hk)
      generalize hU : us.getD k 0 = U at *
      have HTK := Lib.hid htk
      clear hU hcell htk
      have e1 := ext_from U
      go_wp2_with (at_builtin; go_must (refine wpList_append_one _ rfl (.tmp 11) (.tmp 17) 25 rfl w.heap.size 28 i0 (.float .f64 0) 8 Tryz.underlying25 hi hz0 hz1 hz2 rfl _ k _ rfl (HR.out.1.alloc _) ⟨wr.heap.size, 0, none⟩ 1 (.float .f64 U) rfl ?_ rfl ?_ ?_ ?_ ?_))
      · exact cell_one_new _ _ _ 0 _ rfl
      · unfold maxLen; omega
      · omega
      · exact Nat.le_trans HR.out.2.size (by simp)
      · intro g cap1 w1 hown hgr hblk hg
        have HO := Lib.hid hown
        have HB := Lib.hid ((HR.out.2.alloc HR.out.2.size _).grown hgr (Nat.le_trans HR.out.2.size (by simp)) (fun b hb => (HR.out.1.lt b hb).1))
        clear hown hgr hblk
        go_wp2_with fail
        go_roundg (gk - 1)
        case measure => omega
        case rel => exact ⟨k + 1, by omega, rfl, by
          have h := HO.out
          refine ⟨?_, HB.out⟩
          rw [HTK.out]
          simpa [f64s] using h⟩
    · go_wp2_with fail
      go_ret
      have hkn : k = n := by omega
      subst hkn
      have h := HR.out
      rw [List.take_of_length_le (by rw [HLEN.out]; exact Nat.le_refl _)] at h
      exact ⟨_, rfl, h⟩
end Go.Proofs.YtemjlkmlodmmfaaGreatDoor
