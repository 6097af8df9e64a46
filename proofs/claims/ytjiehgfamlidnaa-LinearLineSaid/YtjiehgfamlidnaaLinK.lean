/- Package linear: what was made, as a map's key. By an AI agent. -/
import Derived.Test.YtjiehgfamlidnaaLaw
import Derived.Maps.OwnSet
import Derived.DeepKeys4
namespace Go.Proofs.Ytjiehgfamlidnaa.Lin
open Go.ChangeShapes Go.WideShapes Go.ChangeAt Go.RowKit Go.WideMaps
set_option linter.unusedVariables false
set_option linter.unusedSimpArgs false

def litsOf (s : Nat) (ls : List Int) : List Lit := Lit.int .u64 (s : Int) :: ls.map (Lit.int .i64)
def kLit (s : Nat) (ls : List Int) : Lit := .string (keyBytes (litsOf s ls))

theorem alike_ints : ∀ (l1 l2 : List Int), l1.length = l2.length → Alike (l1.map (Lit.int .i64)) (l2.map (Lit.int .i64))
  | [], [], _ => trivial
  | [], _ :: _, h => by simp at h
  | _ :: _, [], h => by simp at h
  | x :: l1, y :: l2, h => ⟨rfl, alike_ints l1 l2 (by simpa using h)⟩
theorem u64_wf (x : Nat) (h : x < 2 ^ 64) : (Lit.int .u64 (x : Int)).wf = true := by
  simp only [Lit.wf, IntKind.min, IntKind.max, IntKind.signed, IntKind.bits, Bool.and_eq_true, decide_eq_true_eq, if_true, Bool.false_eq_true, if_false]
  omega
theorem lits_wf (s : Nat) (ls : List Int) (hs : s < 2 ^ 64) (h : ∀ x ∈ ls, (Lit.int .i64 x).wf = true) : ∀ a ∈ litsOf s ls, a.keyWf := by
  intro a ha
  unfold litsOf at ha
  rcases List.mem_cons.1 ha with rfl | ha
  · exact u64_wf s hs
  · obtain ⟨x, hx, rfl⟩ := List.mem_map.1 ha
    exact h x hx
theorem lit_inj {s1 s2 : Nat} {l1 l2 : List Int} (hs1 : s1 < 2 ^ 64) (hs2 : s2 < 2 ^ 64) (h : l1.length = l2.length) (h1 : ∀ x ∈ l1, (Lit.int .i64 x).wf = true) (h2 : ∀ x ∈ l2, (Lit.int .i64 x).wf = true) (hk : kLit s1 l1 = kLit s2 l2) : s1 = s2 ∧ l1 = l2 := by
  unfold kLit at hk
  injection hk with hk
  have := keyBytes_inj (l := litsOf s1 l1) (l' := litsOf s2 l2) ⟨rfl, alike_ints l1 l2 h⟩ (lits_wf s1 l1 hs1 h1) (lits_wf s2 l2 hs2 h2) hk
  unfold litsOf at this
  injection this with e1 e2
  injection e1 with _ e1
  refine ⟨by omega, ?_⟩
  exact (List.map_inj_right (fun x y hxy => by injection hxy)).1 e2

theorem madeLaidOut : laidOutB Try.prog = true := by kernel_rfl
theorem madeRow : (71 : TypeId) < Try.prog.types.size := of_decide_eq_true (by kernel_rfl)
theorem madeDeep : Try.prog.keyTypeAt (Try.prog.types.size + 1) 71 = true := by kernel_rfl
theorem madeWide : (match Try.prog.underlying 71 with | some (.array _ _) | some (.struct _) => true | _ => false) = true := by rw [Try.underlying71]
theorem madeLaw : KeyLaw Try.prog 71 := deep_law_laid madeLaidOut (m := 4) (by omega) madeRow (by kernel_rfl) madeWide
theorem madeKeyed : Maps.Keyed Try.prog 71 := Maps.Keyed.of_law madeLaw
theorem madeCells : Try.prog.cellsOf 71 = 13 := by kernel_rfl
theorem arrCells : Try.prog.cellsOf 69 = 12 := by kernel_rfl
theorem i64Cells : Try.prog.cellsOf 2 = 1 := by kernel_rfl
theorem u64Cells : Try.prog.cellsOf 68 = 1 := by kernel_rfl
theorem typesBig : ∃ d, Try.prog.types.size + 1 = d + 3 := ⟨Try.prog.types.size - 2, by have : 2 < Try.prog.types.size := of_decide_eq_true (by kernel_rfl); omega⟩
theorem lits_int (d : Nat) (x : Int) (h : (Lit.int .i64 x).wf = true) : Try.prog.keyLits (d + 1) 2 [.int .i64 x] = some [.int .i64 x] := by
  unfold Program.keyLits
  rw [Try.underlying2]
  simp [h]
theorem lits_uint (d : Nat) (x : Nat) (h : x < 2 ^ 64) : Try.prog.keyLits (d + 1) 68 [.int .u64 (x : Int)] = some [.int .u64 (x : Int)] := by
  unfold Program.keyLits
  rw [Try.underlying68]
  have := u64_wf x h
  simp [this]
theorem lits_arr (d : Nat) (l0 l1 l2 l3 l4 l5 l6 l7 l8 l9 l10 l11 : Int) (h : ∀ x ∈ [l0, l1, l2, l3, l4, l5, l6, l7, l8, l9, l10, l11], (Lit.int .i64 x).wf = true) :
    Try.prog.keyLits (d + 2) 69 ([l0, l1, l2, l3, l4, l5, l6, l7, l8, l9, l10, l11].map fun l => Value.int .i64 l) = some ([l0, l1, l2, l3, l4, l5, l6, l7, l8, l9, l10, l11].map (Lit.int .i64)) := by
  unfold Program.keyLits
  rw [Try.underlying69]
  simp only [List.mem_cons, List.not_mem_nil, or_false, forall_eq_or_imp, forall_eq] at h
  obtain ⟨h0, h1, h2, h3, h4, h5, h6, h7, h8, h9, h10, h11⟩ := h
  simp [arrCells, i64Cells, List.range, List.range.loop, lits_int, h0, h1, h2, h3, h4, h5, h6, h7, h8, h9, h10, h11]

def kCells (s : Nat) (ls : List Int) : List Value := Value.int .u64 (s : Int) :: ls.map fun l => Value.int .i64 l
theorem key_of (s : Nat) (ls : List Int) (hs : s < 2 ^ 64) (hl : ls.length = 12) (h : ∀ x ∈ ls, (Lit.int .i64 x).wf = true) : keyOf Try.prog 71 (.agg (kCells s ls).toArray) = some (kLit s ls) := by
  have hf : (Value.agg (kCells s ls).toArray).formed Try.prog 71 = true := by simp [Value.formed, Try.underlying71, madeCells, kCells, hl]
  have hkt : Try.prog.keyType 71 = true := madeDeep
  have hlits : Try.prog.keyLits (Try.prog.types.size + 1) 71 (kCells s ls) = some (litsOf s ls) := by
    obtain ⟨d, hd⟩ := typesBig
    rw [hd]
    obtain ⟨l0, l1, l2, l3, l4, l5, l6, l7, l8, l9, l10, l11, rfl⟩ : ∃ l0 l1 l2 l3 l4 l5 l6 l7 l8 l9 l10 l11, ls = [l0, l1, l2, l3, l4, l5, l6, l7, l8, l9, l10, l11] := by
      match ls, hl with
      | [l0, l1, l2, l3, l4, l5, l6, l7, l8, l9, l10, l11], _ => exact ⟨_, _, _, _, _, _, _, _, _, _, _, _, rfl⟩
    have ha := lits_arr d l0 l1 l2 l3 l4 l5 l6 l7 l8 l9 l10 l11 h
    have hu := lits_uint (d + 1) s hs
    unfold Program.keyLits
    rw [Try.underlying71]
    simp only [List.map_cons, List.map_nil] at ha
    simp [madeCells, arrCells, u64Cells, kCells, litsOf, ha, hu]
  unfold keyOf
  rw [Try.underlying71]
  simp only [hf, hkt, Bool.and_self, if_true, Value.cells, hlits, Option.map_some]
  rfl
end Go.Proofs.Ytjiehgfamlidnaa.Lin
