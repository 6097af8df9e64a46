/- The model package: bytes; equal bytes; its records. By an AI agent. -/
import Derived.Test.YtjiehgfamlidnaaModB
import Derived.Laws.BytesArg
import Derived.Laws.Strings
namespace Go.Proofs.Ytjiehgfamlidnaa
open Go.ChangeShapes Go.WideShapes Go.ChangeAt Go.RowKit
set_option linter.unusedVariables false
namespace Md

/-- Bytes as cells. -/
def u8s (B : List Nat) : List Value := B.map fun n : Nat => Value.int .u8 (n : Int)
theorem u8s_length (B : List Nat) : (u8s B).length = B.length := by simp [u8s]
theorem u8s_append (A B : List Nat) : u8s (A ++ B) = u8s A ++ u8s B := by simp [u8s]
theorem u8s_get (B : List Nat) (i : Nat) (h : i < B.length) : (u8s B)[i]? = some (.int .u8 (B.getD i 0 : Nat)) := by
  simp [u8s, List.getD_eq_getElem?_getD, h]
/-- Bytes that a slice reads. -/
def Bys (w : World) (o : Option Addr) (B : List Nat) : Prop := ∀ i, i < B.length → ∃ ad, o = some ad ∧ w.cell? (ad.add i) = some (.int .u8 (B.getD i 0 : Nat))
theorem addr_add (b i j : Nat) : (⟨b, i, none⟩ : Addr).add j = ⟨b, i + j, none⟩ := by
  unfold Addr.add
  split <;> simp_all
theorem addr_add_block (a : Addr) (i : Nat) : (a.add i).block = a.block := by
  unfold Addr.add
  split <;> rfl
theorem cell_in {w : World} {a : Addr} {v : Value} (h : w.cell? a = some v) : a.block < w.heap.size := by
  unfold World.cell? at h
  split at h
  · rename_i hq
    rcases Nat.lt_or_ge a.block w.heap.size with h | h
    · exact h
    · rw [Array.getElem?_eq_none h] at hq; cases hq
  · cases h
theorem bys_keep {w w' : World} {o : Option Addr} {B : List Nat} (h : Bys w o B) (k : Below w.heap.size w w') : Bys w' o B := by
  intro i hi
  obtain ⟨ad, ho, hc⟩ := h i hi
  exact ⟨ad, ho, (k.cell (cell_in hc)).trans hc⟩
theorem bys_keep' {bs : Nat → Prop} {w w' : World} {o : Option Addr} {B : List Nat} (h : Bys w o B) (k : Keep bs w w') (hn : ∀ ad, 0 < B.length → o = some ad → ¬ bs ad.block) : Bys w' o B := by
  intro i hi
  obtain ⟨ad, ho, hc⟩ := h i hi
  exact ⟨ad, ho, (k.cell (cell_in hc) (by rw [addr_add_block]; exact hn ad (by omega) ho)).trans hc⟩
theorem u8_bytes {B : List Nat} {ob : Option Addr} {w : World} (h : Bys w ob B) : ∀ j u, (u8s B)[j]? = some u → ∃ ad, ob = some ad ∧ w.cell? (ad.add j) = some u := by
  intro j u hj
  have hl : j < B.length := by
    have := (List.getElem?_eq_some_iff.1 hj).1
    rwa [u8s_length] at this
  rw [u8s_get B j hl] at hj
  cases hj
  exact h j hl
theorem u8_one {B : List Nat} : ∀ u ∈ u8s B, u.oneCell' = true := by
  intro u hu
  obtain ⟨n, -, rfl⟩ := List.mem_map.1 hu
  rfl
theorem bys_of {w : World} {base n : Nat} {v : Value} {B : List Nat} (h : w.ownsRow base 5 1 v n (u8s B)) : ∃ o cap, v = .slice o B.length cap ∧ Bys w o B ∧ (o = none → cap = 0) ∧ (∀ a, o = some a → base ≤ a.block ∧ a.block < w.heap.size ∧ v.ownBlock = some a.block) := by
  have hl : B.length = n := by have := h.1; rw [u8s_length] at this; omega
  subst hl
  rcases h.2 with ⟨h1, h2⟩ | ⟨g, cap, cells, rfl, h1, h2, h3, h4, -⟩
  · refine ⟨none, 0, by rw [h1, h2], fun i hi => absurd hi (by omega), fun _ => rfl, fun a ha => by cases ha⟩
  · refine ⟨_, cap, rfl, fun i hi => ⟨_, rfl, h.cells rfl i _ (u8s_get B i hi)⟩, (fun h => nomatch h), fun a ha => ?_⟩
    cases ha
    exact ⟨h1, lt_of_block h2, rfl⟩

theorem conv {w : World} {o : Option Addr} {B : List Nat} (h : Bys w o B) (c : Nat) : (convert 30 9 (.slice o B.length c)).run Try.prog w = .ok (.string (strOfNums (B.map fun n : Nat => (n : Int)))) w := by
  cases B with
  | nil =>
    cases o with
    | none => exact run_convert_bytes_nil w 30 5 Try.underlying30 Try.underlying5 0 c 9 Try.underlying9
    | some a =>
      show (convert 30 9 (.slice (some a) 0 c)).run Try.prog w = _
      rw [run_convert_bytes_string w 30 9 5 _ 0 c Try.underlying30 Try.underlying5 Try.underlying9]
      simp [Conv.bytesToString, loadCells]
      rfl
  | cons x r =>
    obtain ⟨ad, ho, hc⟩ := h 0 (by simp)
    obtain ⟨b, off, sp⟩ := ad
    have hsp : sp = none := by
      cases sp with
      | none => rfl
      | some q =>
        have h1 : (⟨b, off, some q⟩ : Addr).add 0 = ⟨b, off, some q⟩ := by unfold Addr.add; simp
        rw [h1] at hc
        unfold World.cell? at hc
        simp at hc
        split at hc <;> simp at hc
    subst hsp
    subst ho
    refine run_convert_bytes_arg w 30 5 Try.underlying30 Try.underlying5 b off _ c _ (by simp) (fun i hi => ?_) 9 Try.underlying9
    obtain ⟨a', e, hc'⟩ := h i hi
    cases e
    rw [addr_add] at hc'
    rw [hc', List.getD_eq_getElem?_getD, List.getD_eq_getElem?_getD, List.getElem?_map, List.getElem?_eq_getElem hi]
    rfl

theorem str_eq {A B : List Nat} (ha : ∀ i, A.getD i 0 < 256) (hb : ∀ i, B.getD i 0 < 256) : ((strOfNums (A.map fun n : Nat => (n : Int))).toList = (strOfNums (B.map fun n : Nat => (n : Int))).toList) ↔ A = B := by
  constructor
  · intro h
    rw [ByteArray.toList_eq, ByteArray.toList_eq] at h
    have h1 := h
    simp only [strOfNums_data, List.map_map] at h1
    have hl : A.length = B.length := by simpa using congrArg List.length h1
    refine List.ext_getElem hl fun i h2 h3 => ?_
    have h4 := congrArg (fun l : List UInt8 => l[i]?) h1
    simp [h2, h3] at h4
    have h5 := ha i
    have h6 := hb i
    rw [List.getD_eq_getElem?_getD, List.getElem?_eq_getElem h2] at h5
    rw [List.getD_eq_getElem?_getD, List.getElem?_eq_getElem h3] at h6
    have h7 := congrArg UInt8.toNat h4
    simp at h5 h6
    rw [UInt8.toNat_ofNat', UInt8.toNat_ofNat'] at h7
    omega
  · rintro rfl; rfl

theorem equal_any (o1 o2 : Option Addr) (c1 c2 : Nat) (A B : List Nat) (w : World) (hA : Bys w o1 A) (hB : Bys w o2 B) (ha : ∀ i, A.getD i 0 < 256) (hb : ∀ i, B.getD i 0 < 256) :
    Calls Try.prog 25 #[.slice o1 A.length c1, .slice o2 B.length c2] w fun e w' => e = .returned (.bool (decide (A = B))) ∧ w = w' := by
  have e1 := conv hA c1
  have e2 := conv hB c2
  have HS := Lib.hid (str_eq ha hb)
  clear hA hB ha hb
  generalize strOfNums (A.map fun n : Nat => (n : Int)) = sa at *
  generalize strOfNums (B.map fun n : Nat => (n : Int)) = sb at *
  generalize A.length = la at *
  generalize B.length = lb at *
  go_enter Try.func25, Try.ntmps25
  go_wp2_with fail
  go_ret
  refine ⟨?_, rfl⟩
  have e : (sa.toList == sb.toList) = decide (A = B) := by
    by_cases h : A = B
    · rw [decide_eq_true h, beq_iff_eq]; exact HS.out.2 h
    · rw [decide_eq_false h, beq_eq_false_iff_ne]; exact fun h' => h (HS.out.1 h')
  rw [e]
  rfl

/-- The records: a row of the call's own, each of bytes of its own. -/
structure Recs (w : World) (base g : Nat) (rv : Value) (bs : List (List Nat)) (xs : List Value) : Prop where
  row : w.ownsRow base 30 1 rv bs.length xs
  apart : rv.ownBlock ≠ some g
  each : ∀ i, i < bs.length → ∃ o c, xs[i]? = some (.slice o (bs.getD i []).length c) ∧ Bys w o (bs.getD i []) ∧ (o = none → c = 0) ∧ ∀ a, o = some a → a.block ≠ g ∧ a.block < w.heap.size ∧ base ≤ a.block ∧ rv.ownBlock ≠ some a.block
  small : ∀ i j, (bs.getD i []).getD j 0 < 256

theorem Recs.keep {w w' : World} {base g : Nat} {rv : Value} {bs : List (List Nat)} {xs : List Value} (h : Recs w base g rv bs xs) (k : Keep (· = g) w w') : Recs w' base g rv bs xs := by
  refine ⟨?_, h.apart, fun i hi => ?_, h.small⟩
  · refine h.row.kept (row := some g) ⟨k.os, k.tape, k.output, k.size, fun i hi hn => k.block i hi (fun e => hn (by rw [e]))⟩ ?_
    rcases hq : rv.ownBlock with _ | i
    · exact Or.inl rfl
    · exact Or.inr (by intro e; exact h.apart (by rw [hq]; exact e))
  · obtain ⟨o, c, e1, e2, e3, e4⟩ := h.each i hi
    exact ⟨o, c, e1, bys_keep' e2 k (fun ad _ ho hb => (e4 ad ho).1 hb), e3, fun a ha => ⟨(e4 a ha).1, Nat.lt_of_lt_of_le (e4 a ha).2.1 k.size, (e4 a ha).2.2⟩⟩
end Md
end Go.Proofs.Ytjiehgfamlidnaa
