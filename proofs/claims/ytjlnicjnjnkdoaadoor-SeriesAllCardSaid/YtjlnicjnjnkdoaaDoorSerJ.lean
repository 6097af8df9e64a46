/- The statements' own helpers: equal bytes, equal floats; what every statement asks ahead. By an AI agent. -/
import Derived.Test.YtjlnicjnjnkdoaaDoorSerI
namespace Go.Proofs.YtjlnicjnjnkdoaaDoor
open Go.ChangeShapes Go.WideShapes Go.ChangeAt Go.RowKit
open Bt
set_option linter.unusedVariables false

/-- A row of bytes of somebody's own, as a slice. -/
theorem bys_of {w : World} {base n : Nat} {v : Value} {B : List Nat} (h : w.ownsRow base 5 1 v n (u8s B)) : ∃ o cap, v = .slice o B.length cap ∧ Bys w o B ∧ B.length ≤ cap ∧ cap ≤ maxLen := by
  have hl : B.length = n := by have := h.1; rw [u8s_length] at this; omega
  subst hl
  rcases h.2 with ⟨h1, h2⟩ | ⟨g, cap, cells, rfl, h1, h2, h3, h4, -⟩
  · refine ⟨none, 0, by rw [h1, h2], fun i hi => absurd hi (by omega), by omega, by omega⟩
  · exact ⟨_, cap, rfl, fun i hi => ⟨_, rfl, h.cells rfl i _ (u8s_get B i hi)⟩, h3, h4⟩

theorem list_ext_getD {A B : List Nat} (hl : A.length = B.length) (h : ∀ i, i < A.length → A.getD i 0 = B.getD i 0) : A = B := by
  refine List.ext_getElem hl fun i h1 h2 => ?_
  have := h i h1
  rw [List.getD_eq_getElem?_getD, List.getD_eq_getElem?_getD, List.getElem?_eq_getElem h1, List.getElem?_eq_getElem h2] at this
  exact this

set_option maxRecDepth 100000 in
set_option maxHeartbeats 2000000 in
theorem eqBytes_any (o1 o2 : Option Addr) (c1 c2 : Nat) (A B : List Nat) (w : World) (hA : Bys w o1 A) (hB : Bys w o2 B) (hl : A.length ≤ 1000000000000) :
    Calls Tryd.prog 11 #[.slice o1 A.length c1, .slice o2 B.length c2] w fun e w' => e = .returned (.bool (decide (A = B))) ∧ Keep (fun _ => False) w w' := by
  have HA := Lib.hid hA
  have HB := Lib.hid hB
  clear hA hB
  generalize hR : decide (A = B) = R
  have HR := Lib.hid hR
  clear hR
  by_cases hne : A.length = B.length
  · rw [← hne]
    have HNE := Lib.hid hne
    generalize hL : A.length = n at *
    have HL := Lib.hid hL
    clear hL hne
    go_enter Tryd.func11, Tryd.ntmps11
    go_wp2_with fail
    go_loopg [5] n (fun g i wr => ∃ k : Nat, g + k = n ∧ i = .int .i64 (k : Int) ∧ Hid (Keep (fun _ => False) w wr ∧ ∀ j, j < k → A.getD j 0 = B.getD j 0))
    case atStart => exact ⟨0, by omega, rfl, ⟨Keep.refl _ _, fun j hj => absurd hj (by omega)⟩⟩
    case round =>
      obtain ⟨k, hgk, rfl, HK⟩ := hrel
      by_cases hk : k < n
      · obtain ⟨a1, rfl, hc1⟩ := HA.out k (by rw [HL.out]; exact hk)
        obtain ⟨a2, rfl, hc2⟩ := HB.out k (by rw [← HNE.out]; exact hk)
        replace hc1 := (HK.out.1.cell (cell_in hc1) id).trans hc1
        replace hc2 := (HK.out.1.cell (cell_in hc2) id).trans hc2
        generalize hx : A.getD k 0 = x at *
        generalize hy : B.getD k 0 = y at *
        have HXY := Lib.hid (And.intro hx hy)
        clear hx hy
        by_cases hxy : x = y
        · have e1 : ((x : Int) != (y : Int)) = false := by rw [hxy]; simp
          have HE := Lib.hid hxy
          clear hxy
          go_wp2_with fail
          go_region
          go_wp2_with fail
          go_roundg (gk - 1)
          case measure => omega
          case rel =>
            refine ⟨k + 1, by omega, rfl, HK.out.1.drew, fun j hj => ?_⟩
            rcases Nat.lt_or_ge j k with h | h
            · exact HK.out.2 j h
            · have : j = k := by omega
              rw [this, HXY.out.1, HXY.out.2]
              exact HE.out
        · have e1 : ((x : Int) != (y : Int)) = true := by rw [bne_iff_ne]; omega
          have HE := Lib.hid hxy
          clear hxy
          go_wp2_with fail
          go_region
          go_wp2_with fail
          go_ret
          refine ⟨?_, HK.out.1.drew⟩
          rw [← HR.out, decide_eq_false (fun h : A = B => HE.out (by rw [← HXY.out.1, ← HXY.out.2, h]))]
          rfl
      · go_wp2_with fail
        go_ret
        have hkn : k = n := by omega
        have hAB : A = B := list_ext_getD (by rw [HL.out]; exact HNE.out) (fun i hi => HK.out.2 i (by rw [hkn]; rw [HL.out] at hi; exact hi))
        refine ⟨?_, HK.out.1⟩
        rw [← HR.out, decide_eq_true hAB]
        rfl
  · have hne2 : A ≠ B := fun h => hne (by rw [h])
    have hr := HR.out
    rw [decide_eq_false hne2] at hr
    subst hr
    have e1 : (((A.length : Nat) : Int) == ((B.length : Nat) : Int)) = false := by rw [beq_eq_false_iff_ne]; omega
    go_enter Tryd.func11, Tryd.ntmps11
    go_wp2_with fail
    go_ret
    exact ⟨rfl, Keep.refl _ _⟩

theorem bits_any (x y : Nat) (w : World) : Calls Tryd.prog 10 #[.float .f64 x, .float .f64 y] w fun e w' => e = .returned (.bool ((x : Int) == (y : Int))) ∧ w = w' := by
  have e1 := ext_bits x
  have e2 := ext_bits y
  go_enter Tryd.func10, Tryd.ntmps10
  go_wp2_with fail
  go_ret
  exact ⟨rfl, rfl⟩

set_option maxRecDepth 100000 in
set_option maxHeartbeats 2000000 in
theorem eqFloats_any (o1 o2 : Option Addr) (c1 c2 : Nat) (A B : List Nat) (w : World) (hA : Fls w o1 A) (hB : Fls w o2 B) (hl : A.length ≤ 1000000000000) :
    Calls Tryd.prog 12 #[.slice o1 A.length c1, .slice o2 B.length c2] w fun e w' => e = .returned (.bool (decide (A = B))) ∧ Keep (fun _ => False) w w' := by
  have HA := Lib.hid hA
  have HB := Lib.hid hB
  clear hA hB
  generalize hR : decide (A = B) = R
  have HR := Lib.hid hR
  clear hR
  by_cases hne : A.length = B.length
  · rw [← hne]
    have HNE := Lib.hid hne
    generalize hL : A.length = n at *
    have HL := Lib.hid hL
    clear hL hne
    go_enter Tryd.func12, Tryd.ntmps12
    go_wp2_with fail
    go_loopg [5] n (fun g i wr => ∃ k : Nat, g + k = n ∧ i = .int .i64 (k : Int) ∧ Hid (Keep (fun _ => False) w wr ∧ ∀ j, j < k → A.getD j 0 = B.getD j 0))
    case atStart => exact ⟨0, by omega, rfl, ⟨Keep.refl _ _, fun j hj => absurd hj (by omega)⟩⟩
    case round =>
      obtain ⟨k, hgk, rfl, HK⟩ := hrel
      by_cases hk : k < n
      · obtain ⟨a1, rfl, hc1⟩ := HA.out k (by rw [HL.out]; exact hk)
        obtain ⟨a2, rfl, hc2⟩ := HB.out k (by rw [← HNE.out]; exact hk)
        replace hc1 := (HK.out.1.cell (cell_in hc1) id).trans hc1
        replace hc2 := (HK.out.1.cell (cell_in hc2) id).trans hc2
        generalize hx : A.getD k 0 = x at *
        generalize hy : B.getD k 0 = y at *
        have HXY := Lib.hid (And.intro hx hy)
        clear hx hy
        by_cases hxy : x = y
        · have e1 : ((x : Int) == (y : Int)) = true := by rw [hxy]; simp
          have HE := Lib.hid hxy
          clear hxy
          go_wp2_with fail
          go_quiet ((go_at_call 10; exact Calls.quiet_of_same ((bits_any x y _).mono fun _ _ ⟨he, hw⟩ => ⟨he, hw.symm⟩)))
          go_wp2_with fail
          go_roundg (gk - 1)
          case measure => omega
          case rel =>
            refine ⟨k + 1, by omega, rfl, (HK.out.1.drewN _), fun j hj => ?_⟩
            rcases Nat.lt_or_ge j k with h | h
            · exact HK.out.2 j h
            · have : j = k := by omega
              rw [this, HXY.out.1, HXY.out.2]
              exact HE.out
        · have e1 : ((x : Int) == (y : Int)) = false := by rw [beq_eq_false_iff_ne]; omega
          have HE := Lib.hid hxy
          clear hxy
          go_wp2_with fail
          go_quiet ((go_at_call 10; exact Calls.quiet_of_same ((bits_any x y _).mono fun _ _ ⟨he, hw⟩ => ⟨he, hw.symm⟩)))
          go_wp2_with fail
          go_ret
          refine ⟨?_, (HK.out.1.drewN _)⟩
          rw [← HR.out, decide_eq_false (fun h : A = B => HE.out (by rw [← HXY.out.1, ← HXY.out.2, h]))]
          rfl
      · go_wp2_with fail
        go_ret
        have hkn : k = n := by omega
        have hAB : A = B := list_ext_getD (by rw [HL.out]; exact HNE.out) (fun i hi => HK.out.2 i (by rw [hkn]; rw [HL.out] at hi; exact hi))
        refine ⟨?_, HK.out.1⟩
        rw [← HR.out, decide_eq_true hAB]
        rfl
  · have hne2 : A ≠ B := fun h => hne (by rw [h])
    have hr := HR.out
    rw [decide_eq_false hne2] at hr
    subst hr
    have e1 : (((A.length : Nat) : Int) == ((B.length : Nat) : Int)) = false := by rw [beq_eq_false_iff_ne]; omega
    go_enter Tryd.func12, Tryd.ntmps12
    go_wp2_with fail
    go_ret
    exact ⟨rfl, Keep.refl _ _⟩

def one2 : List Nat := [4607182418800017408, 13830554455654793216]
def one2B : List Nat := [2, 63, 240, 0, 0, 0, 0, 0, 0, 128, 4]
theorem one2_pack : vnt 2 ++ pack (encN one2 2) = one2B := by decide +kernel
theorem short_unp : unp [1, 0] = ([], 0, 2) := by decide +kernel

theorem lit_bys (w : World) (B : List Nat) (cs : Array Value) (h : cs.toList = u8s B) : Bys (w.alloc (.cells cs 5)) (some ⟨w.heap.size, 0, none⟩) B := by
  intro i hi
  refine ⟨_, rfl, ?_⟩
  rw [addr_add, Nat.zero_add]
  refine (blk_cell (blk_new w _) i).trans ?_
  rw [← Array.getElem?_toList, h]
  exact u8s_get B i hi
theorem lit_fls (w : World) (us : List Nat) (cs : Array Value) (h : cs.toList = f64s us) : Fls (w.alloc (.cells cs 26)) (some ⟨w.heap.size, 0, none⟩) us := by
  intro i hi
  refine ⟨_, rfl, ?_⟩
  rw [addr_add, Nat.zero_add]
  refine (blk_cell (blk_new w _) i).trans ?_
  rw [← Array.getElem?_toList, h]
  exact f64s_get us i hi
theorem Bys.below {w w' : World} {o : Option Addr} {B : List Nat} (h : Bys w o B) {n : Nat} (hn : ∀ a, o = some a → a.block < n) (k : Below n w w') : Bys w' o B := by
  intro i hi
  obtain ⟨ad, ho, hc⟩ := h i hi
  exact ⟨ad, ho, (k.cell (by rw [addr_add_block]; exact hn ad ho)).trans hc⟩

set_option maxRecDepth 100000 in
set_option maxHeartbeats 2000000 in
theorem begun_any (w : World) (hT : Tab w) (hg : 1 < w.heap.size) :
    Calls Tryd.prog 4 #[] w fun e w' => e = .returned (.bool true) ∧ Below w.heap.size w w' := by
  have HT := Lib.hid hT
  clear hT
  go_enter Tryd.func4, Tryd.ntmps4
  go_wp2_with fail
  have hb0 : Below w.heap.size w (w.alloc (.cells #[.float .f64 4607182418800017408, .float .f64 13830554455654793216] 26)) := (Below.refl _ w).alloc (Nat.le_refl _) _
  have hfl := lit_fls w one2 #[.float .f64 4607182418800017408, .float .f64 13830554455654793216] rfl
  generalize hw1 : w.alloc (.cells #[.float .f64 4607182418800017408, .float .f64 13830554455654793216] 26) = w1 at *
  refine (pack_any (some ⟨w.heap.size, 0, none⟩) one2 2 w1 (by intro i; rcases i with _ | _ | i <;> simp [one2]) hfl (by decide) (HT.out.below hb0 hg) (Nat.lt_of_lt_of_le hg hb0.size)).mono ?_
  rintro e w2 ⟨v, rfl, hown, hbl⟩
  have e2 : one2.length = 2 := rfl
  rw [e2, one2_pack] at hown
  obtain ⟨o2, c2, rfl, hby, -, -⟩ := bys_of hown
  have hblk : ∀ a, o2 = some a → a.block < w2.heap.size := by
    intro a ha
    have := (hby 0 (by decide))
    obtain ⟨ad, h1, h2⟩ := this
    have h3 := cell_in h2
    rw [addr_add_block] at h3
    rw [h1] at ha; cases ha; exact h3
  have H2 := Lib.hid (And.intro hby (And.intro hblk (hb0.trans (hbl.mono hb0.size))))
  have e3 : one2B.length = 11 := rfl
  rw [e3]
  clear hown hbl hb0 hfl hw1 hby hblk
  go_wp2_with fail
  have hb3 : Below w.heap.size w (w2.alloc (.cells #[.int .u8 1, .int .u8 0] 5)) := H2.out.2.2.alloc H2.out.2.2.size _
  have hb23 : Below w2.heap.size w2 (w2.alloc (.cells #[.int .u8 1, .int .u8 0] 5)) := (Below.refl _ w2).alloc (Nat.le_refl _) _
  have hl3 := lit_bys w2 [1, 0] #[.int .u8 1, .int .u8 0] rfl
  generalize hw3 : w2.alloc (.cells #[.int .u8 1, .int .u8 0] 5) = w3 at *
  refine (unpack_any (some ⟨w2.heap.size, 0, none⟩) 2 [1, 0] w3 hl3 (by decide) (by intro i; rcases i with _ | _ | i <;> simp) (by decide) (by unfold maxLen; omega)).mono ?_
  rintro e w4 ⟨v, rfl, -, hbl⟩
  rw [short_unp]
  have H4 := Lib.hid (And.intro (H2.out.1.below H2.out.2.1 (hb23.trans (hbl.mono hb23.size))) (And.intro (fun a h => Nat.lt_of_lt_of_le (H2.out.2.1 a h) (Nat.le_trans hb23.size hbl.size)) (hb3.trans (hbl.mono hb3.size))))
  clear hb3 hb23 hl3 hw3 hbl
  go_wp2_with fail
  have hb5 : Below w.heap.size w (w4.alloc (.cells #[.int .u8 2, .int .u8 63, .int .u8 240, .int .u8 0, .int .u8 0, .int .u8 0, .int .u8 0, .int .u8 0, .int .u8 0, .int .u8 128, .int .u8 4] 5)) := H4.out.2.2.alloc H4.out.2.2.size _
  have hb45 : Below w4.heap.size w4 (w4.alloc (.cells #[.int .u8 2, .int .u8 63, .int .u8 240, .int .u8 0, .int .u8 0, .int .u8 0, .int .u8 0, .int .u8 0, .int .u8 0, .int .u8 128, .int .u8 4] 5)) := (Below.refl _ w4).alloc (Nat.le_refl _) _
  have hl5 := lit_bys w4 one2B #[.int .u8 2, .int .u8 63, .int .u8 240, .int .u8 0, .int .u8 0, .int .u8 0, .int .u8 0, .int .u8 0, .int .u8 0, .int .u8 128, .int .u8 4] rfl
  generalize hw5 : w4.alloc (.cells #[.int .u8 2, .int .u8 63, .int .u8 240, .int .u8 0, .int .u8 0, .int .u8 0, .int .u8 0, .int .u8 0, .int .u8 0, .int .u8 128, .int .u8 4] 5) = w5 at *
  refine (eqBytes_any o2 (some ⟨w4.heap.size, 0, none⟩) c2 11 one2B one2B w5 (H4.out.1.below H4.out.2.1 hb45) hl5 (by decide)).mono ?_
  rintro e w6 ⟨rfl, hk⟩
  rw [decide_eq_true (rfl : one2B = one2B)]
  have H6 := Lib.hid (hb5.trans (hk.below hb5.size (fun _ h => h.elim)))
  clear hb5 hb45 hl5 hw5 hk
  go_wp2_with fail
  go_ret
  exact ⟨rfl, H6.out⟩
end Go.Proofs.YtjlnicjnjnkdoaaDoor
