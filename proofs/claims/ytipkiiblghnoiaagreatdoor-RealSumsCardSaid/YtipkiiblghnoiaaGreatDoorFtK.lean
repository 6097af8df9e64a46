/- Contract of real.Text, of any number. By an AI agent. -/
import Derived.Test.YtipkiiblghnoiaaGreatDoorFtJ
import Derived.Test.YtipkiiblghnoiaaGreatDoorSumE
namespace Go.Proofs.YtipkiiblghnoiaaGreatDoor
open Go.ChangeShapes Go.WideShapes Go.ChangeAt Go.RowKit
open Bt
set_option linter.unusedVariables false

/-- What Text writes of a number, by its bits. -/
def txt (u : Nat) : ByteArray :=
  if 9218868437227405312 < u % 9223372036854775808 then ⟨#[110, 97, 110]⟩
  else if u % 9223372036854775808 = 9218868437227405312 then (if u < 9223372036854775808 then ⟨#[105, 110, 102]⟩ else ⟨#[45, 105, 110, 102]⟩)
  else strOf (Us.textF u)

theorem txt_eq (u : Nat) : txt u = (if 9218868437227405312 < u % 9223372036854775808 then ⟨#[110, 97, 110]⟩
  else if u % 9223372036854775808 = 9218868437227405312 then (if u < 9223372036854775808 then ⟨#[105, 110, 102]⟩ else ⟨#[45, 105, 110, 102]⟩)
  else strOf (Us.textF u)) := rfl
theorem class_says (u : Nat) : (9218868437227405312 < u % 9223372036854775808 → Sm.classF u = 1) ∧ (u % 9223372036854775808 = 9218868437227405312 → u < 9223372036854775808 → Sm.classF u = 9) ∧ (u % 9223372036854775808 = 9218868437227405312 → ¬ u < 9223372036854775808 → Sm.classF u = 2) ∧
    (u % 9223372036854775808 < 9218868437227405312 → 3 ≤ Sm.classF u ∧ Sm.classF u ≤ 8) := by
  have h : Sm.classF u = (if 9218868437227405312 < u % 9223372036854775808 then 1 else if u < 9223372036854775808 then (if u % 9223372036854775808 = 9218868437227405312 then 9 else if 4503599627370496 ≤ u % 9223372036854775808 then 8 else if 0 < u % 9223372036854775808 then 7 else 6) else 11 - (if u % 9223372036854775808 = 9218868437227405312 then 9 else if 4503599627370496 ≤ u % 9223372036854775808 then 8 else if 0 < u % 9223372036854775808 then 7 else 6)) := rfl
  refine ⟨fun a => ?_, fun a b => ?_, fun a b => ?_, fun a => ?_⟩ <;> rw [h]
  · rw [if_pos a]
  · rw [if_neg (by omega), if_pos b, if_pos a]
  · rw [if_neg (by omega), if_neg b, if_pos a]; rfl
  · rw [if_neg (by omega)]
    have n : ¬ u % 9223372036854775808 = 9218868437227405312 := by omega
    simp only [if_neg n]
    split <;> split <;> first | omega | (split <;> omega)

set_option maxRecDepth 100000 in
set_option maxHeartbeats 2000000 in
theorem text_any (u : Nat) (w : World) (hu : u < 18446744073709551616) (hT : Tb w.heap.size w) :
    Calls Tryz.prog 40 #[.float .f64 u] w fun e w' => e = .returned (.string (txt u)) ∧ Below w.heap.size w w' := by
  have hcs := class_says u
  have HC := Lib.hid (Sm.class_any u hu)
  have hfin : u % 9223372036854775808 < 9218868437227405312 → Us.exb u < 2047 := fun h => by
    show u / 2 ^ 52 % 2048 < 2047
    omega
  have HX := Lib.hid (And.intro hfin hT)
  have HTX := Lib.hid (txt_eq u)
  have HR := Lib.hid hcs
  generalize Sm.classF u = c at *
  generalize txt u = tx at *
  clear hcs hfin hT
  by_cases h1 : 9218868437227405312 < u % 9223372036854775808
  · have e1 := HR.out.1 h1
    have e2 := HTX.out
    rw [if_pos h1] at e2
    subst e1 e2
    clear HR HTX HX h1
    go_enter Tryz.func40, Tryz.ntmps40
    go_wp2_with fail
    refine (HC.out _).mono ?_
    rintro e w' ⟨rfl, hw⟩
    obtain rfl : w = w' := hw.symm
    go_wp2_with fail
    go_ret
    exact ⟨rfl, Below.refl _ _⟩
  · by_cases h2 : u % 9223372036854775808 = 9218868437227405312
    · by_cases h3 : u < 9223372036854775808
      · have e1 := HR.out.2.1 h2 h3
        have e2 := HTX.out
        rw [if_neg h1, if_pos h2, if_pos h3] at e2
        subst e1 e2
        clear HR HTX HX h1 h2 h3
        go_enter Tryz.func40, Tryz.ntmps40
        go_wp2_with fail
        refine (HC.out _).mono ?_
        rintro e w' ⟨rfl, hw⟩
        obtain rfl : w = w' := hw.symm
        go_wp2_with fail
        go_ret
        exact ⟨rfl, Below.refl _ _⟩
      · have e1 := HR.out.2.2.1 h2 h3
        have e2 := HTX.out
        rw [if_neg h1, if_pos h2, if_neg h3] at e2
        subst e1 e2
        clear HR HTX HX h1 h2 h3
        go_enter Tryz.func40, Tryz.ntmps40
        go_wp2_with fail
        refine (HC.out _).mono ?_
        rintro e w' ⟨rfl, hw⟩
        obtain rfl : w = w' := hw.symm
        go_wp2_with fail
        go_ret
        exact ⟨rfl, Below.refl _ _⟩
    · have e1 := HR.out.2.2.2 (by omega)
      have e2 := HTX.out
      rw [if_neg h1, if_neg h2] at e2
      subst e2
      have HF := Lib.hid (format_any u w hu (HX.out.1 (by omega)) HX.out.2)
      have b1 : (c == 1) = false := by rw [beq_eq_false_iff_ne]; omega
      have b2 : (c == 2) = false := by rw [beq_eq_false_iff_ne]; omega
      have b9 : (c == 9) = false := by rw [beq_eq_false_iff_ne]; omega
      clear HR HTX HX h1 h2 e1
      generalize strOf (Us.textF u) = st at *
      go_enter Tryz.func40, Tryz.ntmps40
      go_wp2_with fail
      refine (HC.out _).mono ?_
      rintro e w' ⟨rfl, hw⟩
      obtain rfl : w = w' := hw.symm
      go_wp2_with fail
      refine HF.out.mono ?_
      rintro e w1 ⟨rfl, hb⟩
      have HB := Lib.hid hb
      clear hb
      go_wp2_with fail
      go_ret
      exact ⟨rfl, HB.out⟩

/-- 0.5. -/
theorem txt_half : txt 4602678819172646912 = ⟨#[48, 46, 53]⟩ := by decide +kernel
end Go.Proofs.YtipkiiblghnoiaaGreatDoor
