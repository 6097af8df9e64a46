/- Package linear: timely. By an AI agent. -/
import Derived.Test.YtjiehgfamlidnaaLinD
namespace Go.Proofs.Ytjiehgfamlidnaa.Lin
open Go.ChangeShapes Go.WideShapes Go.ChangeAt Go.RowKit
open Md
set_option linter.unusedVariables false
set_option linter.unusedSimpArgs false

theorem Ps.at {w : World} {o : Option Addr} {ps : List Past} (h : Ps w o ps) (k : Nat) (hk : k < ps.length) : ∃ ab ao, o = some ⟨ab, ao, none⟩ ∧ ∃ od cd ord crd, PS w (ps.getD k zP) od cd ord crd ∧
    w.cell? ⟨ab, ao + k * 8, none⟩ = some (.int .i64 (ps.getD k zP).kind) ∧ w.cell? ⟨ab, ao + k * 8 + 1, none⟩ = some (.int .i64 (ps.getD k zP).cl) ∧ w.cell? ⟨ab, ao + k * 8 + 2, none⟩ = some (.slice od (ps.getD k zP).D.length cd) ∧
    w.cell? ⟨ab, ao + k * 8 + 3, none⟩ = some (.int .i64 (ps.getD k zP).err) ∧ w.cell? ⟨ab, ao + k * 8 + 4, none⟩ = some (.int .i64 (ps.getD k zP).lsn) ∧ w.cell? ⟨ab, ao + k * 8 + 5, none⟩ = some (.slice ord (ps.getD k zP).R.length crd) ∧
    w.cell? ⟨ab, ao + k * 8 + 6, none⟩ = some (.int .i64 (ps.getD k zP).beg) ∧ w.cell? ⟨ab, ao + k * 8 + 7, none⟩ = some (.int .i64 (ps.getD k zP).en) := by
  obtain ⟨ab, ao, e, od, cd, ord, crd, h1, h2⟩ := h k hk
  exact ⟨ab, ao, e, od, cd, ord, crd, h1, h2 0 (by omega), h2 1 (by omega), h2 2 (by omega), h2 3 (by omega), h2 4 (by omega), h2 5 (by omega), h2 6 (by omega), h2 7 (by omega)⟩

def timelyAt (p : Past) : Prop := 1 ≤ p.beg ∧ (p.en = 0 ∨ p.beg < p.en)
def timelyB (ps : List Past) : Prop := ∀ i, i < ps.length → timelyAt (ps.getD i zP)

def timB (ps : List Past) : Bool := ps.all fun p => decide (1 ≤ p.beg ∧ (p.en = 0 ∨ p.beg < p.en))
theorem tim_iff (ps : List Past) : timB ps = true ↔ timelyB ps := by
  unfold timB timelyB timelyAt
  rw [List.all_eq_true]
  constructor
  · intro h i hi
    have := h (ps[i]) (List.getElem_mem hi)
    rw [List.getD_eq_getElem?_getD, List.getElem?_eq_getElem hi]
    simpa using this
  · intro h p hp
    obtain ⟨i, hi, rfl⟩ := List.mem_iff_getElem.1 hp
    have := h i hi
    rw [List.getD_eq_getElem?_getD, List.getElem?_eq_getElem hi] at this
    simpa using this

set_option maxRecDepth 100000 in
set_option maxHeartbeats 8000000 in
theorem timely_any (o : Option Addr) (ps : List Past) (cap : Nat) (w : World) (hP : Ps w o ps) (hn : ps.length ≤ 1000000) :
    Calls Try.prog 28 #[.slice o ps.length cap] w fun e w' => e = .returned (.bool (timB ps)) ∧ Below w.heap.size w w' := by
  have HTB := Lib.hid (tim_iff ps)
  generalize timB ps = tb at *
  have HP := Lib.hid hP
  clear hP
  generalize hl : ps.length = n at *
  have HL := Lib.hid hl
  clear hl
  go_enter Try.func28, Try.ntmps28
  go_wp2_with fail
  go_loopg [7] n (fun gq i wr => ∃ k : Nat, gq + k = n ∧ i = .int .i64 (k : Int) ∧ Hid (Below w.heap.size w wr ∧ ∀ j, j < k → timelyAt (ps.getD j zP)))
  case atStart => exact ⟨0, by omega, rfl, Below.refl _ _, fun j hj => absurd hj (by omega)⟩
  case round =>
    obtain ⟨k, hgk, rfl, HK⟩ := hrel
    by_cases hk : k < n
    · obtain ⟨ab, ao, rfl, od, cd, ord, crd, hps, q0, q1, q2, q3, q4, q5, q6, q7⟩ := (HP.out.keep HK.out.1).at k (by rw [HL.out]; exact hk)
      have HB := Lib.hid (HK.out.1.alloc HK.out.1.size (.cells (pcells (ps.getD k zP) od cd ord crd) 50))
      have HT : RowKit.Hid (timelyAt (ps.getD k zP) ↔ (1 ≤ (ps.getD k zP).beg ∧ ((ps.getD k zP).en = 0 ∨ (ps.getD k zP).beg < (ps.getD k zP).en))) := Lib.hid Iff.rfl
      have HNX : RowKit.Hid (timelyAt (ps.getD k zP) → ∀ j, j < k + 1 → timelyAt (ps.getD j zP)) := Lib.hid fun h j hj => by
        rcases Nat.lt_succ_iff_lt_or_eq.1 hj with h' | rfl
        · exact HK.out.2 j h'
        · exact h
      have HNO : RowKit.Hid (timelyB ps → timelyAt (ps.getD k zP)) := Lib.hid fun h => h k (by rw [HL.out]; exact hk)
      clear hps
      unfold pcells at HB
      generalize hpk : timelyAt (ps.getD k zP) = tk at *
      clear hpk
      generalize (ps.getD k zP).kind = p0 at *
      generalize (ps.getD k zP).cl = p1 at *
      generalize (ps.getD k zP).D.length = p2 at *
      generalize (ps.getD k zP).err = p3 at *
      generalize (ps.getD k zP).lsn = p4 at *
      generalize (ps.getD k zP).R.length = p5 at *
      generalize (ps.getD k zP).beg = p6 at *
      generalize (ps.getD k zP).en = p7 at *
      by_cases h1 : p6 < 1
      · go_wp2_with fail
        go_ret
        obtain rfl : tb = false := by
          rw [Bool.eq_false_iff]; intro h; have := HT.out.1 (HNO.out (HTB.out.1 h)); omega
        exact ⟨rfl, HB.out⟩
      · have d1 : decide (p6 < 1) = false := by simpa using h1
        by_cases h2 : p7 = 0
        · have d2 : (p7 != 0) = false := by simp [h2]
          have HN2 := Lib.hid (HNX.out (HT.out.2 ⟨by omega, Or.inl h2⟩))
          clear h2
          go_wp2_with fail
          go_roundg (gk - 1)
          case measure => omega
          case rel => exact ⟨k + 1, by omega, rfl, HB.out, HN2.out⟩
        · have d2 : (p7 != 0) = true := by simp [h2]
          by_cases h3 : p7 ≤ p6
          · have d3 : decide (p7 ≤ p6) = true := by simpa using h3
            go_wp2_with fail
            go_ret
            obtain rfl : tb = false := by
              rw [Bool.eq_false_iff]; intro h; have := HT.out.1 (HNO.out (HTB.out.1 h)); omega
            exact ⟨rfl, HB.out⟩
          · have d3 : decide (p7 ≤ p6) = false := by simpa using h3
            have HN2 := Lib.hid (HNX.out (HT.out.2 ⟨by omega, Or.inr (by omega)⟩))
            go_wp2_with fail
            go_roundg (gk - 1)
            case measure => omega
            case rel => exact ⟨k + 1, by omega, rfl, HB.out, HN2.out⟩
    · have hkn : k = n := by omega
      go_wp2_with fail
      go_ret
      obtain rfl : tb = true := HTB.out.2 fun i hi => HK.out.2 i (by rw [HL.out] at hi; omega)
      exact ⟨rfl, HK.out.1⟩
end Go.Proofs.Ytjiehgfamlidnaa.Lin
