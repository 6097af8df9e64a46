/- Contract of strconv.FormatFloat, at the shortest form; of real.Text. By an AI agent. -/
import Derived.Test.YtipkiiblghnoiaaGreatDoorFtI
import Derived.Laws.BytesArg
namespace Go.Proofs.YtipkiiblghnoiaaGreatDoor
open Go.ChangeShapes Go.WideShapes Go.ChangeAt Go.RowKit
open Bt
set_option linter.unusedVariables false

/-- A text as a string. -/
def strOf (B : List Nat) : ByteArray := strOfNums (B.map fun n : Nat => (n : Int))

theorem fmtG_pos (neg : Bool) (D : List Nat) (dp : Int) : 0 < (Us.fmtG neg D dp).length := by
  unfold Us.fmtG
  rw [List.length_append]
  by_cases hD : D = []
  · rw [if_pos hD]; simp
  · rw [if_neg hD]
    have hl : 0 < D.length := List.length_pos_iff.2 hD
    by_cases hE : dp - 1 < -4 ∨ 6 ≤ dp - 1
    · rw [if_pos hE]
      unfold Us.fmtE
      rw [List.length_append, List.length_cons]
      omega
    · rw [if_neg hE]
      unfold Us.fmtF
      by_cases hp : 0 < dp
      · rw [if_pos hp, List.length_append, List.length_append, List.length_take]
        omega
      · rw [if_neg hp]
        simp
        omega
theorem textF_pos (u : Nat) : 0 < (Us.textF u).length := by
  unfold Us.textF
  split
  · exact fmtG_pos _ _ _
  · exact fmtG_pos _ _ _

theorem conv_row {base : Nat} {v : Value} {B : List Nat} {w : World} (h : w.ownsRow base 5 1 v B.length (u8s B)) (hB : 0 < B.length) : (convert 96 9 v).run Tryz.prog w = .ok (.string (strOf B)) w := by
  rcases h.2 with ⟨h1, h2⟩ | ⟨g, cap, cells, rfl, -⟩
  · omega
  · refine run_convert_bytes_arg w 96 5 Tryz.underlying96 Tryz.underlying5 g 0 _ cap _ (by simp) (fun i hi => ?_) 9 Tryz.underlying9
    have hc := h.cells rfl i _ (u8s_get B i hi)
    rw [addr_add, Nat.zero_add] at hc
    rw [Nat.zero_add, hc, List.getD_eq_getElem?_getD, List.getD_eq_getElem?_getD, List.getElem?_map, List.getElem?_eq_getElem hi]
    rfl

set_option maxRecDepth 100000 in
set_option maxHeartbeats 2000000 in
theorem iformat_any (u : Nat) (w : World) (hu : u < 18446744073709551616) (hk : Us.exb u < 2047) (hT : Tb w.heap.size w) :
    Calls Tryz.prog 70 #[.float .f64 u, .int .u8 103, .int .i64 (-1), .int .i64 64] w fun e w' => e = .returned (.string (strOf (Us.textF u))) ∧ Below w.heap.size w w' := by
  have hmk : ∀ w : World, (Instr.makeSlice 96 (.int .i64 0) (.int .i64 (max 3 24))).run Tryz.prog w = .ok (.slice (some ⟨w.heap.size, 0, none⟩) 0 24) (w.alloc (.cells (Array.replicate 24 (.int .u8 0)) 5)) := fun _ => by kernel_rfl
  have hown : (w.alloc (.cells (Array.replicate 24 (.int .u8 0)) 5)).ownsRow w.heap.size 5 1 (.slice (some ⟨w.heap.size, 0, none⟩) 0 24) 0 [] := World.ownsRow_made w _ 24 (Nat.le_refl _) (by unfold maxLen; omega) (by simp)
  have hb : Below w.heap.size w (w.alloc (.cells (Array.replicate 24 (.int .u8 0)) 5)) := (Below.refl _ w).alloc (Nat.le_refl _) _
  have HF := Lib.hid (ftoa_any u w.heap.size _ _ hu hk hown (hT.on hb))
  have HB := Lib.hid hb
  clear hb hown hT
  obtain ⟨B, hB⟩ : ∃ B, B = Us.textF u := ⟨_, rfl⟩
  have hpos : 0 < B.length := by rw [hB]; exact textF_pos u
  rw [← hB] at HF ⊢
  clear hB
  go_enter Tryz.func70, Tryz.ntmps70
  go_wp2_with fail
  refine HF.out.mono ?_
  rintro e w1 ⟨v, rfl, hown, hb1⟩
  have hcv := conv_row hown hpos
  have H1 := Lib.hid (HB.out.trans hb1)
  clear hown hb1 HF HB hmk
  go_wp2_with fail
  go_ret
  exact ⟨rfl, H1.out⟩

theorem format_any (u : Nat) (w : World) (hu : u < 18446744073709551616) (hk : Us.exb u < 2047) (hT : Tb w.heap.size w) :
    Calls Tryz.prog 59 #[.float .f64 u, .int .u8 103, .int .i64 (-1), .int .i64 64] w fun e w' => e = .returned (.string (strOf (Us.textF u))) ∧ Below w.heap.size w w' := by
  have HF := Lib.hid (iformat_any u w hu hk hT)
  go_enter Tryz.func59, Tryz.ntmps59
  go_wp2_with fail
  refine HF.out.mono ?_
  rintro e w1 ⟨rfl, hb1⟩
  have H1 := Lib.hid hb1
  clear hb1
  go_wp2_with fail
  go_ret
  exact ⟨rfl, H1.out⟩
end Go.Proofs.YtipkiiblghnoiaaGreatDoor
