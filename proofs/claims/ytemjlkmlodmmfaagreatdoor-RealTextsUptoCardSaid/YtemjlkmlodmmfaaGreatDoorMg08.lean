/- flumelaw3.begun is true. By an AI agent. -/
import Derived.Test.YtemjlkmlodmmfaaGreatDoorMg05
import Derived.Test.YtemjlkmlodmmfaaGreatDoorMg07
import Derived.Test.YtemjlkmlodmmfaaGreatDoorCards
import Derived.Test.YtemjlkmlodmmfaaGreatDoorTie
import Derived.Lib.LaidTab
import Derived.Lib.AppendIntMem
import Derived.Lay
import Derived.MakeChecks
import Derived.Deep.DeepHandedRow
import Derived.Test.YtemjlkmlodmmfaaGreatDoorMg00
import Derived.Deep.Strs
import Derived.Test.YtemjlkmlodmmfaaGreatDoorMg04
namespace Go.Proofs.YtemjlkmlodmmfaaGreatDoor
open Go.ChangeShapes Go.WideShapes Go.ChangeAt Go.RowKit
open Bt
set_option linter.unusedVariables false

theorem mnan_any (w : World) : Calls Tryz.prog 13 #[] w fun e w' => e = .returned (.float .f64 9221120237041090561) ∧ w' = w := by
  have e1 := ext_from 9221120237041090561
  go_enter Tryz.func13, Tryz.ntmps13
  go_wp2
  go_ret
  exact ⟨rfl, rfl⟩

theorem Tb.size0 {B C : Nat} {w : World} (h : Tb B w) (hB : B ≤ C) (hC : C ≤ w.heap.size := by exact Nat.le_refl _) : Tb C w :=
  ⟨fun w' hb => h.pows w' (hb.mono hB), fun w' hb => h.tens w' (hb.mono hB), Nat.lt_of_lt_of_le h.lt hB, hC⟩
theorem fls_three (w : World) (a b c : Nat) (t : TypeId) : Fls (w.alloc (.cells #[.float .f64 a, .float .f64 b, .float .f64 c] t)) (some ⟨w.heap.size, 0, none⟩) [a, b, c] := by
  intro i hi
  refine ⟨_, rfl, ?_⟩
  rw [addr_add, Nat.zero_add, blk_cell (blk_new w _) i]
  match i, hi with
  | 0, _ => rfl
  | 1, _ => rfl
  | 2, _ => rfl
theorem fls_four (w : World) (a b c d : Nat) (t : TypeId) : Fls (w.alloc (.cells #[.float .f64 a, .float .f64 b, .float .f64 c, .float .f64 d] t)) (some ⟨w.heap.size, 0, none⟩) [a, b, c, d] := by
  intro i hi
  refine ⟨_, rfl, ?_⟩
  rw [addr_add, Nat.zero_add, blk_cell (blk_new w _) i]
  match i, hi with
  | 0, _ => rfl
  | 1, _ => rfl
  | 2, _ => rfl
  | 3, _ => rfl
theorem lt_three {a b c M : Nat} (h1 : a < M) (h2 : b < M) (h3 : c < M) : ∀ i, [a, b, c].getD i 0 < M := by
  intro i
  match i with
  | 0 => exact h1
  | 1 => exact h2
  | 2 => exact h3
  | n + 3 => show 0 < M; omega
theorem lt_four {a b c d M : Nat} (h1 : a < M) (h2 : b < M) (h3 : c < M) (h4 : d < M) : ∀ i, [a, b, c, d].getD i 0 < M := by
  intro i
  match i with
  | 0 => exact h1
  | 1 => exact h2
  | 2 => exact h3
  | 3 => exact h4
  | n + 4 => show 0 < M; omega

set_option maxRecDepth 100000 in
set_option maxHeartbeats 2000000 in
theorem begun3 (w : World) (hopt : Opt w) (hT : Tb w.heap.size w) : Calls Tryz.prog 4 #[] w fun e w' => e = .returned (.bool true) ∧ Below w.heap.size w w' := by
  have HO := Lib.hid (And.intro hopt hT)
  clear hopt hT
  go_enter Tryz.func4, Tryz.ntmps4
  go_wp2_with fail
  refine (read_zero _ HO.out.1 HO.out.2).mono ?_
  rintro e w1 ⟨rfl, hb⟩
  have H1 := Lib.hid hb
  clear hb
  go_wp2_with fail
  refine (mnan_any _).mono ?_
  rintro e w2 ⟨rfl, hw⟩
  obtain rfl : w1 = w2 := hw.symm
  go_wp2_with fail
  have hM := Sm.min_any (some ⟨w1.heap.size, 0, none⟩) [4607182418800017408, 9221120237041090561, 13830554455654793216] 3 (w1.alloc (.cells #[.float .f64 4607182418800017408, .float .f64 9221120237041090561, .float .f64 13830554455654793216] 28)) (fls_three _ _ _ _ _) (lt_three (by decide) (by decide) (by decide)) (by simp)
  rw [show Sm.outW (-1) [4607182418800017408, 9221120237041090561, 13830554455654793216] = 13830554455654793216 from by decide +kernel, show Sm.outB [4607182418800017408, 9221120237041090561, 13830554455654793216] = true from by decide +kernel] at hM
  refine hM.mono ?_
  rintro e w2 ⟨rfl, hw⟩
  have hb2 : Below w.heap.size w w2 := by rw [hw]; exact H1.out.alloc H1.out.size _
  have H2 := Lib.hid hb2
  clear hb2 hw hM
  go_wp2_with fail
  refine (mnan_any _).mono ?_
  rintro e w3 ⟨rfl, hw⟩
  obtain rfl : w2 = w3 := hw.symm
  go_wp2_with fail
  refine (Sm.class_any 9221120237041090561 (by decide) _).mono ?_
  rintro e w3 ⟨rfl, hw⟩
  obtain rfl : w2 = w3 := hw.symm
  rw [show Sm.classF 9221120237041090561 = 1 from by decide +kernel]
  go_wp2_with fail
  refine (Sm.sign_zero _).mono ?_
  rintro e w3 ⟨rfl, hw⟩
  obtain rfl : w2 = w3 := hw.symm
  go_wp2_with fail
  refine (compare_any 9223372036854775808 0 (by decide) (by decide) _).mono ?_
  rintro e w3 ⟨rfl, hw⟩
  obtain rfl : w2 = w3 := hw
  rw [show cmpF 9223372036854775808 0 = -1 from by decide +kernel]
  go_wp2_with fail
  refine (Sm.sign_zero _).mono ?_
  rintro e w3 ⟨rfl, hw⟩
  obtain rfl : w2 = w3 := hw.symm
  go_wp2_with fail
  refine (fbits_any 9223372036854775808 9223372036854775808 _).mono ?_
  rintro e w3 ⟨rfl, hw⟩
  obtain rfl : w2 = w3 := hw
  rw [show decide (9223372036854775808 = 9223372036854775808) = true from by decide +kernel]
  have f1 : (FloatKind.f64.format.order 13830554455654793216 13830554455654793216 == some .eq) = true := by
    rw [Flt.t_eq (by decide +kernel) (by decide +kernel)]; simp
  go_wp2_with fail
  have hb3 : Below w2.heap.size w2 (w2.alloc (.cells #[.float .f64 4607182418800017408, .float .f64 6103021453049119613, .float .f64 4607182418800017408, .float .f64 15326393489903895421] 28)) := (Below.refl _ _).alloc (Nat.le_refl _) _
  have hS := Sm.sum_any (some ⟨w2.heap.size, 0, none⟩) [4607182418800017408, 6103021453049119613, 4607182418800017408, 15326393489903895421] 4 (w2.alloc (.cells #[.float .f64 4607182418800017408, .float .f64 6103021453049119613, .float .f64 4607182418800017408, .float .f64 15326393489903895421] 28)) (fls_four _ _ _ _ _ _) (lt_four (by decide) (by decide) (by decide) (by decide)) (by simp)
  rw [show Sm.sumW [4607182418800017408, 6103021453049119613, 4607182418800017408, 15326393489903895421] = 4611686018427387904 from by decide +kernel] at hS
  have HB3 := Lib.hid (H2.out.trans (hb3.mono H2.out.size))
  clear hb3
  refine hS.mono ?_
  rintro e w3 ⟨rfl, hb⟩
  have H3 := Lib.hid (HB3.out.trans (hb.mono HB3.out.size))
  clear hb hS HB3
  have f2 : (FloatKind.f64.format.order 4611686018427387904 4611686018427387904 == some .eq) = true := by
    rw [Flt.t_eq (by decide +kernel) (by decide +kernel)]; simp
  go_wp2_with fail
  refine (text_any 4602678819172646912 _ (by decide) ((HO.out.2.on H3.out).size0 H3.out.size)).mono ?_
  rintro e w4 ⟨rfl, hb⟩
  have H4 := Lib.hid (H3.out.trans (hb.mono H3.out.size))
  clear hb
  rw [txt_half]
  go_wp2_with fail
  refine (key_any 0 (by decide) _).mono ?_
  rintro e w5 ⟨rfl, hw⟩
  obtain rfl : w4 = w5 := hw
  rw [show keyF 0 = 9223372036854775808 from by decide +kernel]
  go_wp2_with fail
  go_ret
  exact ⟨rfl, H4.out⟩
end Go.Proofs.YtemjlkmlodmmfaaGreatDoor

/- What the rows' list of variables gives: the tables that strconv reads. By an AI agent. -/
namespace Go.Proofs.YtemjlkmlodmmfaaGreatDoor
open Go.ChangeShapes Go.WideShapes Go.ChangeAt Go.RowKit
open Bt
set_option linter.unusedVariables false

theorem own : ownKnob Tryz.prog.godebug = none := by kernel_rfl

/-- One variable of the list. -/
def OneLaid (W : World) (n : String) (d : DataW Unit) : Prop :=
  ∃ g t cs fuel p, Tryz.prog.globalNamed n = some g ∧ (Tryz.prog.globals[g]?).map (·.type) = some t ∧ W.var? Tryz.prog n = some cs ∧ DataW.trod (fun _ => ()) Tryz.prog W 0 (fun _ => true) false fuel t cs.toList = some (d, p)
theorem one_laid {W : World} : ∀ {l : List (String × DataW Unit)} {ps : List MemPlace}, DataW.LaidVars Tryz.prog W l ps → ∀ (i : Nat) n d, l[i]? = some (n, d) → OneLaid W n d
  | [], _, _, i, n, d, hi => by simp at hi
  | (n0, d0) :: r, ps, h, i, n, d, hi => by
    obtain ⟨g, t, cs, fuel, p, q, h1, h2, h3, h4, h5, -⟩ := h
    cases i with
    | zero => simp at hi; obtain ⟨rfl, rfl⟩ := hi; exact ⟨g, t, cs, fuel, p, h1, h2, h3, h4⟩
    | succ i => exact one_laid h5 i n d (by simpa using hi)

theorem opt_of {W : World} (h : OneLaid W "internal/strconv.optimize" (.lit (.bool true))) : Opt W := by
  obtain ⟨g, t, cs, fuel, p, h1, h2, h3, h4⟩ := h
  obtain rfl := Option.some.inj ((show Tryz.prog.globalNamed "internal/strconv.optimize" = some 1 by kernel_rfl).symm.trans h1)
  obtain rfl := Option.some.inj ((show (Tryz.prog.globals[1]?).map (·.type) = some 4 by kernel_rfl).symm.trans h2)
  obtain ⟨b, hb, hx⟩ := DataW.trod_bool Tryz.underlying4 h4
  have hbt : b = true := by
    have := congrArg Prod.fst hx
    simpa using this.symm
  subst hbt
  have hc := World.var?_cell (show Tryz.prog.globalNamed "internal/strconv.optimize" = some 1 by kernel_rfl) h3 0
  unfold Opt
  rw [hc, ← Array.getElem?_toList, hb]
  rfl

theorem tens_of {W : World} (h : OneLaid W "internal/strconv.uint64pow10" (Lib.tabData .u64 Lib.pow10Tab)) : Lib.TabIs Tryz.prog W "internal/strconv.uint64pow10" .u64 Lib.pow10Tab := by
  obtain ⟨g, t, cs, fuel, p, h1, h2, h3, h4⟩ := h
  obtain rfl := Option.some.inj ((show Tryz.prog.globalNamed "internal/strconv.uint64pow10" = some 4 by kernel_rfl).symm.trans h1)
  obtain rfl := Option.some.inj ((show (Tryz.prog.globals[4]?).map (·.type) = some 122 by kernel_rfl).symm.trans h2)
  unfold Lib.TabIs
  rw [h3]
  have := Lib.cells_of_tab Tryz.underlying122 Tryz.underlying42 (by kernel_rfl) (by kernel_rfl) h4
  rw [← this]

theorem rows_say : ∀ i : Fin 696, (Go.Pinned.pow10Rows[i.val]?).map (fun x => (x.1, x.2)) = some (Us.pmHi ((i.val : Int) - 348), Us.pmLo ((i.val : Int) - 348)) := by decide +kernel

set_option maxRecDepth 100000 in
theorem pows_of {W : World} (h : OneLaid W "internal/strconv.pow10Tab" Go.Pinned.pow10Tab) : Pows W := by
  obtain ⟨g, t, cs, fuel, p, h1, h2, h3, h4⟩ := h
  have hg : Tryz.prog.globalNamed "internal/strconv.pow10Tab" = some 7 := by kernel_rfl
  obtain rfl := Option.some.inj (hg.symm.trans h1)
  obtain rfl := Option.some.inj ((show (Tryz.prog.globals[7]?).map (·.type) = some 155 by kernel_rfl).symm.trans h2)
  obtain ⟨xs, m, -, hx, hcl, hxl, hel⟩ := DataW.trod_array Tryz.underlying155 h4
  have hC : Tryz.prog.cellsOf 154 = 2 := by kernel_rfl
  have hxs : xs.map (·.1) = Go.Pinned.pow10Rows.map fun x => DataW.agg [.lit (.int .u64 x.1), .lit (.int .u64 x.2)] := by
    have := congrArg Prod.fst hx
    unfold Go.Pinned.pow10Tab at this
    simp only [DataW.agg.injEq] at this
    exact this.symm
  intro i hi
  have hr := rows_say ⟨i, hi⟩
  simp only at hr
  obtain ⟨⟨a, b⟩, hab, hv⟩ := Option.map_eq_some_iff.1 hr
  have e1 : a = Us.pmHi ((i : Int) - 348) := congrArg Prod.fst hv
  have e2 : b = Us.pmLo ((i : Int) - 348) := congrArg Prod.snd hv
  have hxi : ∃ y, xs[i]? = some (DataW.agg [.lit (.int .u64 a), .lit (.int .u64 b)], y) := by
    have h5 := congrArg (fun l => l[i]?) hxs
    simp only [List.getElem?_map, hab, Option.map_some] at h5
    obtain ⟨⟨d, y⟩, h6, h7⟩ := Option.map_eq_some_iff.1 h5
    exact ⟨y, by rw [h6]; simp only at h7; rw [h7]⟩
  obtain ⟨y, hy⟩ := hxi
  have he := hel i hi
  rw [hC, hy] at he
  obtain ⟨ys, n, -, hz, hzl, hzs, hf⟩ := DataW.trod_struct Tryz.underlying154 he
  have hzy : ys.map (·.1) = [.lit (.int .u64 (a : Int)), .lit (.int .u64 (b : Int))] := by
    have h5 := congrArg Prod.fst hz
    simp only [DataW.agg.injEq] at h5
    exact h5.symm
  have hCu : Tryz.prog.cellsOf 42 = 1 := by kernel_rfl
  have field : ∀ (j : Nat) (z : Int) (f : Field), f.type = 42 → f.offset = j → ((ys.map (·.1))[j]? = some (.lit (.int .u64 z))) →
      DataW.trod (fun _ => ()) Tryz.prog W 0 (fun _ => true) false n f.type ((((cs.toList.drop (i * 2)).take 2).drop f.offset).take (Tryz.prog.cellsOf f.type)) = ys[j]? → j < 2 → cs.toList[i * 2 + j]? = some (.int .u64 z) := by
    intro j z f ht ho hj hr hj2
    rw [List.getElem?_map] at hj
    obtain ⟨⟨d, q⟩, h6, h7⟩ := Option.map_eq_some_iff.1 hj
    rw [h6, ht, ho, hCu] at hr
    obtain ⟨z', hz1, hz2, -⟩ := DataW.trod_int Tryz.underlying42 hr
    simp only at h7
    rw [h7] at hz2
    have : z = z' := by
      have := congrArg Prod.fst hz2
      simpa using this
    subst this
    have h8 : (List.take 1 (List.drop j (List.take 2 (List.drop (i * 2) cs.toList))))[0]? = [Value.int IntKind.u64 z][0]? := congrArg (fun l => l[0]?) hz1
    rw [List.getElem?_take_of_lt (by omega), List.getElem?_drop, List.getElem?_take_of_lt (by omega), List.getElem?_drop, Nat.add_zero] at h8
    exact h8
  have c0 := field 0 a _ rfl rfl (by rw [hzy]; rfl) (hf 0 _ rfl) (by omega)
  have c1 := field 1 b _ rfl rfl (by rw [hzy]; rfl) (hf 1 _ rfl) (by omega)
  refine ⟨?_, ?_⟩
  · rw [World.var?_cell hg h3 (i * 2), ← Array.getElem?_toList, ← e1]; exact c0
  · rw [World.var?_cell hg h3 (i * 2 + 1), ← Array.getElem?_toList, ← e2]; exact c1

theorem tb_of {W : World} (h1 : Pows W) (h2 : Lib.TabIs Tryz.prog W "internal/strconv.uint64pow10" .u64 Lib.pow10Tab) : Tb W.heap.size W := by
  have hlt : 7 < W.heap.size := cell_in (h1 0 (by omega)).1
  exact ⟨fun w' hb i hi => ⟨(hb.cell (p := ⟨7, i * 2, none⟩) hlt).trans (h1 i hi).1, (hb.cell (p := ⟨7, i * 2 + 1, none⟩) hlt).trans (h1 i hi).2⟩, Lib.tabBelow_of_tabIs h2, hlt, Nat.le_refl _⟩

/-- The list of the rows (one and the same in all of this seat). -/
theorem tables {W : World} (h : laidMetH Tryz.prog Rows.realTextsRow.laid W) : Opt W ∧ Tb W.heap.size W := by
  rw [MakeChecks.laidMetH_plain _ _ _ (by kernel_rfl)] at h
  obtain ⟨ps, hv, -⟩ := h
  have a := one_laid hv 4 _ _ rfl
  have b := one_laid hv 8 _ _ rfl
  have c := one_laid hv 12 _ _ rfl
  exact ⟨opt_of a, tb_of (pows_of c) (tens_of b)⟩
end Go.Proofs.YtemjlkmlodmmfaaGreatDoor

/- Small functions on floats: IsNaN, Canon. By an AI agent. -/
namespace Go.Proofs.YtemjlkmlodmmfaaGreatDoor
open Go.ChangeShapes Go.WideShapes Go.ChangeAt Go.RowKit
open Bt
set_option linter.unusedVariables false

/-- The canonical NaN for a NaN. -/
def canW (u : Nat) : Nat := if Flt.nan u = true then 9221120237041090561 else u

theorem canon_any (a : Nat) (w : World) : Calls Tryz.prog 10 #[.float .f64 a] w fun e w' => e = .returned (.float .f64 (canW a)) ∧ w' = w := by
  unfold canW
  cases hn : Flt.nan a
  · have hb : (FloatKind.f64.format.order a a != some .eq) = false := by rw [← hn, ← Flt.fnan_eq]; rfl
    go_enter Tryz.func10, Tryz.ntmps10
    go_wp2_with fail
    go_ret
    exact ⟨rfl, rfl⟩
  · have hb : (FloatKind.f64.format.order a a != some .eq) = true := by rw [← hn, ← Flt.fnan_eq]; rfl
    go_enter Tryz.func10, Tryz.ntmps10
    go_wp2_with fail
    refine (Sm.none_any _).mono ?_
    rintro e w' ⟨rfl, hw⟩
    obtain rfl : w = w' := hw.symm
    go_wp2_with fail
    go_ret
    exact ⟨rfl, rfl⟩
end Go.Proofs.YtemjlkmlodmmfaaGreatDoor

/- PLAIN: classes, keys and the order. By an AI agent. -/
namespace Go.Proofs.YtemjlkmlodmmfaaGreatDoor.Re
open Go.Proofs.YtemjlkmlodmmfaaGreatDoor
set_option linter.unusedVariables false

theorem nan_iff (u : Nat) : Flt.nan u = true ↔ 9218868437227405312 < u % 9223372036854775808 := by
  unfold Flt.nan Flt.rung
  rw [decide_eq_true_eq]
theorem class_le {a b : Nat} (ha : a < 18446744073709551616) (hb : b < 18446744073709551616) (hna : Flt.nan a = false) (hnb : Flt.nan b = false) (h : cmpF a b ≤ 0) : Sm.classF a ≤ Sm.classF b := by
  have h1 : ¬ 9218868437227405312 < a % 9223372036854775808 := fun x => by rw [(nan_iff a).2 x] at hna; cases hna
  have h2 : ¬ 9218868437227405312 < b % 9223372036854775808 := fun x => by rw [(nan_iff b).2 x] at hnb; cases hnb
  have hk : keyF a ≤ keyF b := by
    refine Nat.le_of_not_lt fun hlt => ?_
    unfold cmpF at h
    rw [if_neg (by omega), if_pos hlt] at h
    omega
  unfold keyF at hk
  rw [hna, hnb] at hk
  simp only [Bool.false_eq_true, if_false] at hk
  unfold Sm.classF
  rw [if_neg h1, if_neg h2]
  by_cases a0 : a < 9223372036854775808
  · have a1 : a % 9223372036854775808 = a := Nat.mod_eq_of_lt a0
    rw [if_neg (show ¬ 9223372036854775808 ≤ a by omega)] at hk
    by_cases b0 : b < 9223372036854775808
    · have b1 : b % 9223372036854775808 = b := Nat.mod_eq_of_lt b0
      rw [if_neg (show ¬ 9223372036854775808 ≤ b by omega)] at hk
      rw [a1, b1, if_pos a0, if_pos b0]
      (repeat' split) <;> omega
    · rw [if_pos (show 9223372036854775808 ≤ b by omega)] at hk
      omega
  · have a1 : a % 9223372036854775808 = a - 9223372036854775808 := by omega
    rw [if_pos (show 9223372036854775808 ≤ a by omega)] at hk
    by_cases b0 : b < 9223372036854775808
    · have b1 : b % 9223372036854775808 = b := Nat.mod_eq_of_lt b0
      rw [a1, b1, if_neg a0, if_pos b0]
      (repeat' split) <;> omega
    · have b1 : b % 9223372036854775808 = b - 9223372036854775808 := by omega
      rw [if_pos (show 9223372036854775808 ≤ b by omega)] at hk
      rw [a1, b1, if_neg a0, if_neg b0]
      (repeat' split) <;> omega
/-- The word with the other sign. -/
def flip (u : Nat) : Nat := if u < 9223372036854775808 then u + 9223372036854775808 else u - 9223372036854775808
theorem class_range {a : Nat} (hn : Flt.nan a = false) : 2 ≤ Sm.classF a ∧ Sm.classF a ≤ 9 := by
  have h1 : ¬ 9218868437227405312 < a % 9223372036854775808 := fun x => by rw [(nan_iff a).2 x] at hn; cases hn
  unfold Sm.classF
  rw [if_neg h1]
  simp only
  (repeat' split) <;> omega
theorem class_flip {a : Nat} (ha : a < 18446744073709551616) (hn : Flt.nan a = false) : Sm.classF (flip a) = 11 - Sm.classF a := by
  have h1 : ¬ 9218868437227405312 < a % 9223372036854775808 := fun x => by rw [(nan_iff a).2 x] at hn; cases hn
  have hm : flip a % 9223372036854775808 = a % 9223372036854775808 := by unfold flip; split <;> omega
  unfold Sm.classF
  rw [hm, if_neg h1, if_neg h1]
  simp only
  unfold flip
  by_cases a0 : a < 9223372036854775808
  · rw [if_pos a0, if_neg (by omega), if_pos a0]
  · rw [if_neg a0, if_pos (by omega), if_neg a0]
    (repeat' split) <;> omega
theorem class_nan {a : Nat} (hn : Flt.nan a = true) : Sm.classF a = 1 := by
  unfold Sm.classF
  rw [if_pos ((nan_iff a).1 hn)]
end Go.Proofs.YtemjlkmlodmmfaaGreatDoor.Re

/- What the rows of this seat share: a world for the witness. By an AI agent. -/
namespace Go.Proofs.YtemjlkmlodmmfaaGreatDoor
open Go.ChangeShapes Go.WideShapes Go.ChangeAt Go.RowKit
open Bt
set_option linter.unusedVariables false

theorem witness_of {H : Type} {enc : TypeId × Value → H} {C : Checked} {os : Os} {f : FuncId} {fn : Func} {s : OpenSpec} {conds : List PathCond} {apart : Bool} {laid : List (String × DataW Unit)} (w0 : World) (args : Array Value) (hos : w0.os = os)
    (hsh : (w0.forCall (fun _ _ => 0) ⟨#[], args, []⟩).Shaped C.prog)
    (hok : Input.okWideB C.prog (w0.forCall (fun _ _ => 0) ⟨#[], args, []⟩) f ⟨#[], args, []⟩ = true)
    (hrow : s.preRow enc C.prog fn conds apart laid (w0.forCall (fun _ _ => 0) ⟨#[], args, []⟩).memory args) :
    ∃ (w : World) (tape : Tape) (i : Input), w.os = os ∧ (w.forCall tape i).Shaped C.prog ∧ i.vars = [] ∧ Input.okWide C.prog (w.forCall tape i) .any w.heap.size f i ∧
      s.preRow enc C.prog fn conds apart laid (w.forCall tape i).memory i.args ∧ ({} : Assume).holds C.prog (lone (Frame.enter C.prog f i.args .normal) [] (w.forCall tape i)) :=
  ⟨w0, fun _ _ => 0, ⟨#[], args, []⟩, hos, hsh, (Input.okWide_of_okWideB (base := 0) hok).1, (Input.okWide_of_okWideB hok).2, hrow, by
    simp only [Assume.holds]
    exact ⟨by simp, by simp, fun h => by simp at h, by simp, by simp⟩⟩

noncomputable def laidW (os : Os) : World := World.laidAll Tryz.prog os Rows.realTextsRow.laid
theorem laidW_os (os : Os) : (laidW os).os = os := World.laidAll_os _ _ _
theorem laidW_shaped (os : Os) (args : Array Value) : ((laidW os).forCall (fun _ _ => 0) ⟨#[], args, []⟩).Shaped Tryz.prog :=
  World.shaped_of_ZipB (by kernel_rfl) (by kernel_rfl)
theorem laidW_met (os : Os) (args : Array Value) : laidMetH Tryz.prog Rows.realTextsRow.laid ((laidW os).forCall (fun _ _ => 0) ⟨#[], args, []⟩).memory := by
  rw [MakeChecks.laidMetH_plain _ _ _ (by kernel_rfl)]
  exact laidMet_laidAll _ (by kernel_rfl) (by kernel_rfl)
theorem u64_wf (z : Int) (hz : (Lit.int .u64 z).wf = true) : 0 ≤ z ∧ z < ((18446744073709551616 : Nat) : Int) := by
  have : 0 ≤ z ∧ z ≤ 18446744073709551615 := by simpa [Lit.wf, IntKind.min, IntKind.max, IntKind.signed, IntKind.bits] using hz
  omega
end Go.Proofs.YtemjlkmlodmmfaaGreatDoor

/- Opening a slice of unsigned numbers. By an AI agent. -/
namespace Go.Proofs.YtemjlkmlodmmfaaGreatDoor
open Go.ChangeShapes Go.WideShapes Go.ChangeAt Go.RowKit
set_option linter.unusedVariables false
section
variable {H : Type} {enc : TypeId × Value → H} {P : Program}

/-- A slice of unsigned numbers: its numbers; how many values its reading holds at least. -/
theorem open_nats {w : World} {base : Nat} {spare : Nat → Bool} {held : Bool} {t e : TypeId} {k : IntKind} {M : Nat} {v : Value} {d : DataW H} {p : List MemPlace}
    (ht : P.underlying t = some (.slice e)) (he : P.underlying e = some (.int k)) (hC : P.cellsOf e = 1) (hk : ∀ z, (Lit.int k z).wf = true → 0 ≤ z ∧ z < (M : Int)) (hM : 0 < M) (hv : v.cells.toList = [v])
    (h : DataW.Trod enc P w base spare held t v d p) :
    ∃ (o : Option Addr) (cap : Nat) (Z : List Nat), v = .slice o Z.length cap ∧ (∀ i, i < Z.length → ∃ ad, o = some ad ∧ w.cell? (ad.add i) = some (.int k (Z.getD i 0 : Nat))) ∧ (∀ i, Z.getD i 0 < M) ∧ Z.length ≤ cap ∧ cap ≤ maxLen ∧ (o = none → cap = 0) ∧
      ((d = .nil ∧ Z = []) ∨ ∃ el sp, d = .slice el sp ∧ el.length = Z.length) := by
  obtain ⟨fuel, hf⟩ := h
  rcases Go.Deep.open_slice1 ht hC hf with ⟨h1, h2⟩ | ⟨a, len, cap, m, n, V, D, Pl, hcs, hb, hl1, hm, hmm, hx, hi⟩
  · rw [hv] at h1
    obtain rfl : v = .slice none 0 0 := by simpa using h1
    refine ⟨none, 0, [], rfl, fun i hi => absurd hi (by simp), fun i => by simpa using hM, Nat.le_refl _, by unfold maxLen; omega, fun _ => rfl, Or.inl ⟨?_, rfl⟩⟩
    have := congrArg Prod.fst h2
    exact this
  · rw [hv] at hcs
    obtain rfl : v = .slice (some a) len cap := by simpa using hcs
    have hlm : len ≤ m := by subst hmm; split <;> omega
    have key : ∀ i, i < len → ∃ z : Nat, V i = .int k (z : Int) ∧ z < M := by
      intro i hil
      obtain ⟨-, h2⟩ := hi i (by omega)
      obtain ⟨z, h3, -, h4⟩ := DataW.trod_int he h2
      obtain ⟨h5, h6⟩ := hk z h4
      obtain ⟨q, rfl⟩ := Int.eq_ofNat_of_zero_le h5
      exact ⟨q, by simpa using h3, by omega⟩
    have hf2 : ∃ f : Nat → Nat, ∀ i, i < len → V i = .int k (f i : Int) ∧ f i < M := by
      classical
      refine ⟨fun i => if h : i < len then (key i h).choose else 0, fun i hil => ?_⟩
      simp only [hil, dite_true]
      exact (key i hil).choose_spec
    obtain ⟨f, hff⟩ := hf2
    have hg : ∀ i, i < len → ((List.range len).map f).getD i 0 = f i := fun i hil => by
      rw [List.getD_eq_getElem?_getD]; simp [hil]
    have hlen : ((List.range len).map f).length = len := by simp
    refine ⟨some a, cap, (List.range len).map f, by rw [hlen], fun i hil => ?_, fun i => ?_, by rw [hlen]; exact hl1, hm, (fun h => absurd h (by simp)), Or.inr ⟨_, _, congrArg Prod.fst hx, by simp⟩⟩
    · rw [hlen] at hil
      refine ⟨a, rfl, ?_⟩
      rw [hg i hil, ← (hff i hil).1]
      exact (hi i (by omega)).1
    · rcases Nat.lt_or_ge i len with hil | hil
      · rw [hg i hil]; exact (hff i hil).2
      · rw [List.getD_eq_getElem?_getD, List.getElem?_eq_none (by omega)]; exact hM
end
end Go.Proofs.YtemjlkmlodmmfaaGreatDoor

/- Opening a slice of strings. By an AI agent. -/
namespace Go.Proofs.YtemjlkmlodmmfaaGreatDoor
open Go.ChangeShapes Go.WideShapes Go.ChangeAt Go.RowKit
set_option linter.unusedVariables false
section
variable {H : Type} {enc : TypeId × Value → H} {P : Program}

/-- A slice of strings: its strings, and what its reading holds. -/
theorem open_texts {w : World} {base : Nat} {spare : Nat → Bool} {held : Bool} {t e : TypeId} {v : Value} {d : DataW H} {p : List MemPlace}
    (ht : P.underlying t = some (.slice e)) (he : P.underlying e = some .string) (hC : P.cellsOf e = 1) (hv : v.cells.toList = [v])
    (h : DataW.Trod enc P w base spare held t v d p) :
    ∃ (o : Option Addr) (cap : Nat) (Z : List ByteArray), v = .slice o Z.length cap ∧ (∀ i, i < Z.length → ∃ ad, o = some ad ∧ w.cell? (ad.add i) = some (.string (Z.getD i .empty))) ∧
      ((d = .nil ∧ Z = []) ∨ ∃ sp, d = .slice (Z.map fun s => .lit (.string s.data.toList)) sp) := by
  obtain ⟨fuel, hf⟩ := h
  rcases Go.Deep.open_strs ht he hC hf with ⟨h1, h2⟩ | ⟨a, len, cap, m, Sx, hcs, hb, hl1, hm, hmm, hx, hi'⟩
  · rw [hv] at h1
    obtain rfl : v = .slice none 0 0 := by simpa using h1
    exact ⟨none, 0, [], rfl, fun i hi => absurd hi (by simp), Or.inl ⟨congrArg Prod.fst h2, rfl⟩⟩
  · rw [hv] at hcs
    obtain rfl : v = .slice (some a) len cap := by simpa using hcs
    have hlm : len ≤ m := by subst hmm; split <;> omega
    have hlen : ((List.range len).map Sx).length = len := by simp
    refine ⟨some a, cap, (List.range len).map Sx, by rw [hlen], fun i hil => ?_, Or.inr ⟨_, (congrArg Prod.fst hx).trans (by rw [List.map_map]; rfl)⟩⟩
    rw [hlen] at hil
    refine ⟨a, rfl, ?_⟩
    rw [show ((List.range len).map Sx).getD i .empty = Sx i by rw [List.getD_eq_getElem?_getD]; simp [hil]]
    exact (hi' i (by omega)).1
end
end Go.Proofs.YtemjlkmlodmmfaaGreatDoor

/- What strconv's readFloat reads, plainly; on the text of a float. By an AI agent. -/
namespace Go.Proofs.YtemjlkmlodmmfaaGreatDoor.Us
set_option linter.unusedVariables false
set_option linter.unusedSimpArgs false

/-- What the reader knows behind some of the digits. -/
structure Rs where
  us : Bool
  dot : Bool
  saw : Bool
  tr : Bool
  nd : Nat
  nm : Nat
  m : Nat
  dp : Int

def rs0 : Rs := ⟨false, false, false, false, 0, 0, 0, 0⟩
def lowN (c : Nat) : Nat := c ||| 32
def bse (h : Bool) : Nat := if h then 16 else 10
def mxd (h : Bool) : Nat := if h then 16 else 19
def isD (c : Nat) : Bool := decide (48 ≤ c ∧ c ≤ 57)
def isX (h : Bool) (c : Nat) : Bool := h && decide (97 ≤ lowN c ∧ lowN c ≤ 102)
/-- The reader stops at this byte. -/
def brk (h : Bool) (σ : Rs) (c : Nat) : Bool := if c = 95 then false else if c = 46 then σ.dot else if isD c then false else !isX h c
/-- A byte read. -/
def stp (h : Bool) (σ : Rs) (c : Nat) : Rs :=
  if c = 95 then { σ with us := true }
  else if c = 46 then { σ with dot := true, dp := (σ.nd : Int) }
  else if isD c then
    if c = 48 ∧ σ.nd = 0 then { σ with saw := true, dp := σ.dp - 1 }
    else if σ.nm < mxd h then { σ with saw := true, nd := σ.nd + 1, m := bse h * σ.m + (c - 48), nm := σ.nm + 1 }
    else { σ with saw := true, nd := σ.nd + 1, tr := σ.tr || !decide (c = 48) }
  else if σ.nm < mxd h then { σ with saw := true, nd := σ.nd + 1, m := bse h * σ.m + (lowN c - 87), nm := σ.nm + 1 }
  else { σ with saw := true, nd := σ.nd + 1, tr := true }
def scanM (h : Bool) (σ : Rs) : List Nat → Rs × List Nat
  | [] => (σ, [])
  | c :: t => if brk h σ c then (σ, c :: t) else scanM h (stp h σ c) t
/-- The exponent's digits. -/
def scanE (e : Nat) (us : Bool) : List Nat → Nat × Bool × List Nat
  | [] => (e, us, [])
  | c :: t => if c = 95 then scanE e true t else if isD c then scanE (if e < 10000 then 10 * e + (c - 48) else e) us t else (e, us, c :: t)
def sgnL : List Nat → Bool × List Nat
  | 43 :: t => (false, t)
  | 45 :: t => (true, t)
  | t => (false, t)
def hxL (t : List Nat) : Bool := decide (2 < t.length) && decide (t[0]! = 48) && decide (lowN t[1]! = 120)
def expC (h : Bool) : Nat := if h then 112 else 101
/-- The exponent: none where it is ill written. -/
def expo (h : Bool) : List Nat → Option (Int × Bool × List Nat)
  | [] => if h then none else some (0, false, [])
  | c :: t => if lowN c = expC h then
      (let r := sgnL t
       if r.2 ≠ [] ∧ isD r.2[0]! = true then
         let q := scanE 0 false r.2
         some ((if r.1 then -(q.1 : Int) else (q.1 : Int)), q.2.1, q.2.2)
       else none)
    else if h then none else some (0, false, c :: t)
structure Ro where
  m : Nat
  p : Int
  neg : Bool
  tr : Bool
  hex : Bool
  i : Nat
  us : Bool
def dpS (h : Bool) (σ : Rs) : Int := if h then (if σ.dot then σ.dp else (σ.nd : Int)) * 4 else (if σ.dot then σ.dp else (σ.nd : Int))
def nmS (h : Bool) (σ : Rs) : Nat := if h then σ.nm * 4 else σ.nm
/-- Behind the digits. -/
def rdT (n : Nat) (neg h : Bool) (R : Rs × List Nat) : Option Ro :=
  if R.1.saw = false then none else
  match expo h R.2 with
  | none => none
  | some (e, us, rest) => some ⟨R.1.m, if R.1.m = 0 then 0 else dpS h R.1 + e - nmS h R.1, neg, R.1.tr, h, n - rest.length, R.1.us || us⟩
def rdF (s : List Nat) : Option Ro :=
  if s = [] then none else
  let r := sgnL s
  let h := hxL r.2
  rdT s.length r.1 h (scanM h rs0 (if h then r.2.drop 2 else r.2))

/-! ## Bounds. -/
structure RsOk (h : Bool) (k : Nat) (σ : Rs) : Prop where
  nm : σ.nm ≤ mxd h
  nd : σ.nm ≤ σ.nd
  kk : σ.nd ≤ k
  m : σ.m < bse h ^ σ.nm
  lo : -(k : Int) ≤ σ.dp
  hi : σ.dp ≤ k
theorem rs0_ok (h : Bool) : RsOk h 0 rs0 := ⟨Nat.zero_le _, Nat.le_refl _, Nat.le_refl _, by show (0 : Nat) < _; simp [rs0], by decide, by decide⟩
theorem lowN_lt {c : Nat} (hc : c < 256) : lowN c < 256 := by
  unfold lowN
  exact Nat.or_lt_two_pow (n := 8) hc (by decide)
theorem stp_ok {h : Bool} {k c : Nat} {σ : Rs} (H : RsOk h k σ) (hb : brk h σ c = false) : RsOk h (k + 1) (stp h σ c) := by
  have h1 := H.nm
  have h2 := H.nd
  have h3 := H.kk
  have h4 := H.m
  have h5 := H.lo
  have h6 := H.hi
  have hpow : bse h ^ (σ.nm + 1) = bse h * bse h ^ σ.nm := Nat.pow_succ'
  have key : ∀ d, d < bse h → bse h * σ.m + d < bse h ^ (σ.nm + 1) := by
    intro d hd
    rw [hpow]
    have : bse h * (σ.m + 1) ≤ bse h * bse h ^ σ.nm := Nat.mul_le_mul_left _ h4
    rw [Nat.mul_succ] at this
    omega
  have hb10 : 10 ≤ bse h := by unfold bse; split <;> omega
  unfold brk at hb
  unfold stp
  by_cases c1 : c = 95
  · rw [if_pos c1]; exact ⟨h1, h2, by show σ.nd ≤ k + 1; omega, h4, by show -((k + 1 : Nat) : Int) ≤ σ.dp; omega, by show σ.dp ≤ ((k + 1 : Nat) : Int); omega⟩
  rw [if_neg c1] at hb ⊢
  by_cases c2 : c = 46
  · rw [if_pos c2]; exact ⟨h1, h2, by show σ.nd ≤ k + 1; omega, h4, by show -((k + 1 : Nat) : Int) ≤ (σ.nd : Int); omega, by show (σ.nd : Int) ≤ ((k + 1 : Nat) : Int); omega⟩
  rw [if_neg c2] at hb ⊢
  by_cases c3 : isD c = true
  · rw [if_pos c3]
    have hd : 48 ≤ c ∧ c ≤ 57 := by unfold isD at c3; exact of_decide_eq_true c3
    by_cases c4 : c = 48 ∧ σ.nd = 0
    · rw [if_pos c4]
      exact ⟨h1, h2, by show σ.nd ≤ k + 1; omega, h4, by show -((k + 1 : Nat) : Int) ≤ σ.dp - 1; omega, by show σ.dp - 1 ≤ ((k + 1 : Nat) : Int); omega⟩
    rw [if_neg c4]
    by_cases c5 : σ.nm < mxd h
    · rw [if_pos c5]
      exact ⟨c5, by show σ.nm + 1 ≤ σ.nd + 1; omega, by show σ.nd + 1 ≤ k + 1; omega, key _ (by omega), by show -((k + 1 : Nat) : Int) ≤ σ.dp; omega, by show σ.dp ≤ ((k + 1 : Nat) : Int); omega⟩
    · rw [if_neg c5]
      exact ⟨h1, by show σ.nm ≤ σ.nd + 1; omega, by show σ.nd + 1 ≤ k + 1; omega, h4, by show -((k + 1 : Nat) : Int) ≤ σ.dp; omega, by show σ.dp ≤ ((k + 1 : Nat) : Int); omega⟩
  · rw [if_neg c3] at hb ⊢
    unfold isX at hb
    have hx : h = true ∧ 97 ≤ lowN c ∧ lowN c ≤ 102 := by
      cases h <;> simp at hb ⊢
      exact hb
    by_cases c5 : σ.nm < mxd h
    · rw [if_pos c5]
      have : bse h = 16 := by rw [hx.1]; rfl
      exact ⟨c5, by show σ.nm + 1 ≤ σ.nd + 1; omega, by show σ.nd + 1 ≤ k + 1; omega, key _ (by omega), by show -((k + 1 : Nat) : Int) ≤ σ.dp; omega, by show σ.dp ≤ ((k + 1 : Nat) : Int); omega⟩
    · rw [if_neg c5]
      exact ⟨h1, by show σ.nm ≤ σ.nd + 1; omega, by show σ.nd + 1 ≤ k + 1; omega, h4, by show -((k + 1 : Nat) : Int) ≤ σ.dp; omega, by show σ.dp ≤ ((k + 1 : Nat) : Int); omega⟩
theorem scanM_ok {h : Bool} : ∀ (s : List Nat) {k : Nat} {σ : Rs}, RsOk h k σ → RsOk h (k + (s.length - (scanM h σ s).2.length)) (scanM h σ s).1 ∧ (scanM h σ s).2.length ≤ s.length
  | [], k, σ, H => ⟨by simpa [scanM] using H, by simp [scanM]⟩
  | c :: t, k, σ, H => by
    unfold scanM
    by_cases hb : brk h σ c = true
    · rw [if_pos hb]
      exact ⟨by simpa using H, Nat.le_refl _⟩
    · rw [if_neg hb]
      have hb' : brk h σ c = false := by simpa using hb
      obtain ⟨a, b⟩ := scanM_ok t (stp_ok H hb')
      refine ⟨?_, by rw [List.length_cons]; omega⟩
      rw [List.length_cons, show k + (t.length + 1 - (scanM h (stp h σ c) t).2.length) = k + 1 + (t.length - (scanM h (stp h σ c) t).2.length) by omega]
      exact a
theorem mant_64 {h : Bool} {k : Nat} {σ : Rs} (H : RsOk h k σ) : σ.m < 18446744073709551616 := by
  have h1 := H.m
  have h2 := H.nm
  have hb : bse h ^ σ.nm ≤ bse h ^ mxd h := Nat.pow_le_pow_right (by unfold bse; split <;> omega) h2
  have : bse h ^ mxd h ≤ 18446744073709551616 := by cases h <;> decide
  omega
theorem scanE_ok : ∀ (s : List Nat) {e : Nat} {us : Bool}, e < 100000 → (scanE e us s).1 < 100000 ∧ (scanE e us s).2.2.length ≤ s.length
  | [], e, us, H => ⟨H, Nat.le_refl _⟩
  | c :: t, e, us, H => by
    unfold scanE
    by_cases h1 : c = 95
    · rw [if_pos h1]
      obtain ⟨a, b⟩ := scanE_ok t (us := true) H
      exact ⟨a, by rw [List.length_cons]; omega⟩
    rw [if_neg h1]
    by_cases h2 : isD c = true
    · rw [if_pos h2]
      have hd : 48 ≤ c ∧ c ≤ 57 := by unfold isD at h2; exact of_decide_eq_true h2
      have hn : (if e < 10000 then 10 * e + (c - 48) else e) < 100000 := by split <;> omega
      obtain ⟨a, b⟩ := scanE_ok t (us := us) hn
      exact ⟨a, by rw [List.length_cons]; omega⟩
    · rw [if_neg h2]
      exact ⟨H, Nat.le_refl _⟩

/-! ## On a text. -/
def val (D : List Nat) : Nat := D.foldl (fun a c => 10 * a + (c - 48)) 0
theorem not_us {c : Nat} (h : 48 ≤ c ∧ c ≤ 57) : c ≠ 95 ∧ c ≠ 46 ∧ isD c = true := ⟨by omega, by omega, by unfold isD; exact decide_eq_true h⟩
theorem scan_digs : ∀ (D rest : List Nat) (us dot saw tr : Bool) (nd nm m : Nat) (dp : Int), (∀ c ∈ D, 48 ≤ c ∧ c ≤ 57) → (D.head? ≠ some 48 ∨ 0 < nd) → nm + D.length ≤ 19 →
    scanM false ⟨us, dot, saw, tr, nd, nm, m, dp⟩ (D ++ rest) = scanM false ⟨us, dot, saw || !D.isEmpty, tr, nd + D.length, nm + D.length, D.foldl (fun a c => 10 * a + (c - 48)) m, dp⟩ rest
  | [], rest, us, dot, saw, tr, nd, nm, m, dp, _, _, _ => by simp
  | c :: t, rest, us, dot, saw, tr, nd, nm, m, dp, h, h0, hl => by
    obtain ⟨n1, n2, n3⟩ := not_us (h c (List.mem_cons_self ..))
    rw [List.length_cons] at hl
    have hb : brk false ⟨us, dot, saw, tr, nd, nm, m, dp⟩ c = false := by unfold brk; rw [if_neg n1, if_neg n2, if_pos n3]
    have hz : ¬(c = 48 ∧ nd = 0) := by
      rintro ⟨a, b⟩
      rcases h0 with h0 | h0
      · exact h0 (by rw [a]; rfl)
      · omega
    have hs : stp false ⟨us, dot, saw, tr, nd, nm, m, dp⟩ c = ⟨us, dot, true, tr, nd + 1, nm + 1, 10 * m + (c - 48), dp⟩ := by
      unfold stp
      rw [if_neg n1, if_neg n2, if_pos n3, if_neg hz, if_pos (show nm < mxd false by show nm < 19; omega)]
      rfl
    rw [List.cons_append]
    show (if brk false ⟨us, dot, saw, tr, nd, nm, m, dp⟩ c then _ else _) = _
    rw [hb, hs]
    show scanM false _ (t ++ rest) = _
    rw [scan_digs t rest us dot true tr (nd + 1) (nm + 1) _ dp (fun x hx => h x (List.mem_cons_of_mem _ hx)) (Or.inr (by omega)) (by omega)]
    simp only [List.length_cons, List.foldl_cons, List.isEmpty_cons, Bool.not_false, Bool.or_true, Bool.true_or]
    rw [show nd + 1 + t.length = nd + (t.length + 1) by omega, show nm + 1 + t.length = nm + (t.length + 1) by omega]
theorem scan_noughts : ∀ (k : Nat) (rest : List Nat) (us dot saw tr : Bool) (nm m : Nat) (dp : Int),
    scanM false ⟨us, dot, saw, tr, 0, nm, m, dp⟩ (List.replicate k 48 ++ rest) = scanM false ⟨us, dot, saw || decide (0 < k), tr, 0, nm, m, dp - k⟩ rest
  | 0, rest, us, dot, saw, tr, nm, m, dp => by simp
  | k + 1, rest, us, dot, saw, tr, nm, m, dp => by
    rw [List.replicate_succ, List.cons_append]
    show scanM false ⟨us, dot, true, tr, 0, nm, m, dp - 1⟩ (List.replicate k 48 ++ rest) = _
    rw [scan_noughts k rest us dot true tr nm m (dp - 1), show dp - 1 - (k : Int) = dp - ((k + 1 : Nat) : Int) by omega]
    simp
theorem scan_dot (rest : List Nat) (us saw tr : Bool) (nd nm m : Nat) (dp : Int) : scanM false ⟨us, false, saw, tr, nd, nm, m, dp⟩ (46 :: rest) = scanM false ⟨us, true, saw, tr, nd, nm, m, nd⟩ rest := rfl
theorem scan_e (rest : List Nat) (σ : Rs) : scanM false σ (101 :: rest) = (σ, 101 :: rest) := rfl
theorem scan_nil (σ : Rs) : scanM false σ [] = (σ, []) := rfl

theorem scanE_digs : ∀ (D : List Nat) (e : Nat), (∀ c ∈ D, 48 ≤ c ∧ c ≤ 57) → e < 10 ^ (4 - D.length) → D.length ≤ 4 → scanE e false D = (D.foldl (fun a c => 10 * a + (c - 48)) e, false, [])
  | [], e, _, _, _ => rfl
  | c :: t, e, h, he, hl => by
    obtain ⟨n1, n2, n3⟩ := not_us (h c (List.mem_cons_self ..))
    have hc := h c (List.mem_cons_self ..)
    rw [List.length_cons] at hl he
    have hp : 10 ^ (4 - t.length) = 10 * 10 ^ (4 - (t.length + 1)) := by rw [← Nat.pow_succ']; congr 1; omega
    have h4 : 10 ^ (4 - (t.length + 1)) ≤ 10 ^ 4 := Nat.pow_le_pow_right (by omega) (by omega)
    unfold scanE
    rw [if_neg n1, if_pos n3, if_pos (by omega)]
    rw [scanE_digs t _ (fun x hx => h x (List.mem_cons_of_mem _ hx)) (by rw [hp]; omega) (by omega)]
    rfl
theorem expo_text {e : Int} (h1 : -1000 < e) (h2 : e < 1000) : expo false (101 :: expT e) = some (e, false, []) := by
  obtain ⟨c, D, hE, hs, hD, h0, hl, hv⟩ : ∃ c D, expT e = c :: D ∧ (c = if e < 0 then 45 else 43) ∧ (∀ x ∈ D, 48 ≤ x ∧ x ≤ 57) ∧ D ≠ [] ∧ D.length ≤ 3 ∧ D.foldl (fun a c => 10 * a + (c - 48)) 0 = e.natAbs := by
    refine ⟨_, _, rfl, rfl, ?_, ?_, ?_, ?_⟩
    · intro x hx
      split at hx
      · simp at hx; omega
      · split at hx <;> simp at hx <;> omega
    · split
      · simp
      · split <;> simp
    · split
      · simp
      · split <;> simp
    · split
      · simp
      · split
        · simp; omega
        · simp; omega
  rw [hE]
  have hsg : sgnL (c :: D) = (decide (e < 0), D) := by
    rw [hs]
    by_cases hn : e < 0
    · rw [if_pos hn, decide_eq_true hn]; rfl
    · rw [if_neg hn, decide_eq_false hn]; rfl
  have hd0 : isD D[0]! = true := by
    cases D with
    | nil => exact absurd rfl h0
    | cons a t => exact (not_us (hD a (List.mem_cons_self ..))).2.2
  unfold expo
  simp only [hsg]
  rw [if_pos (show lowN 101 = expC false by decide)]
  rw [if_pos ⟨h0, hd0⟩, scanE_digs D 0 hD (Nat.pow_pos (by omega)) (by omega), hv]
  by_cases hn : e < 0
  · simp only [decide_eq_true hn, if_true]
    congr 2; omega
  · simp only [decide_eq_false hn, if_false, Bool.false_eq_true]
    congr 2; omega

theorem foldl_noughts (k : Nat) : ∀ m, (List.replicate k 48).foldl (fun a c => 10 * a + (c - 48)) m = 10 ^ k * m := by
  induction k with
  | zero => intro m; simp
  | succ k ih => intro m; rw [List.replicate_succ, List.foldl_cons, ih, Nat.pow_succ, Nat.mul_assoc]; simp
theorem foldl_ge : ∀ (D : List Nat) (m : Nat), m ≤ D.foldl (fun a c => 10 * a + (c - 48)) m
  | [], m => Nat.le_refl _
  | c :: t, m => Nat.le_trans (by omega) (foldl_ge t (10 * m + (c - 48)))
theorem val_pos {D : List Nat} (hD : ∀ c ∈ D, 48 ≤ c ∧ c ≤ 57) (h0 : D.head? ≠ some 48) (hne : D ≠ []) : 1 ≤ val D := by
  cases D with
  | nil => exact absurd rfl hne
  | cons c t =>
    have h1 := hD c (List.mem_cons_self ..)
    have h2 : c ≠ 48 := fun e => h0 (by rw [e]; rfl)
    have := foldl_ge t (10 * 0 + (c - 48))
    unfold val
    rw [List.foldl_cons]
    omega
theorem sgn_of {neg : Bool} {c : Nat} {t : List Nat} (hc : 48 ≤ c) : sgnL ((if neg then [45] else []) ++ c :: t) = (neg, c :: t) := by
  cases neg
  · show sgnL (c :: t) = _
    unfold sgnL
    split
    · next h => injection h with h1 _; omega
    · next h => injection h with h1 _; omega
    · rfl
  · rfl
theorem rdF_of {neg : Bool} {c : Nat} {t : List Nat} (hc : 48 ≤ c) (hx : hxL (c :: t) = false) :
    rdF ((if neg then [45] else []) ++ c :: t) = rdT ((if neg then [45] else []) ++ c :: t).length neg false (scanM false rs0 (c :: t)) := by
  unfold rdF
  rw [if_neg (by cases neg <;> simp), sgn_of hc]
  simp only [hx]
  rfl
theorem hx_of {c : Nat} {t : List Nat} (hc : c ≠ 48) : hxL (c :: t) = false := by
  unfold hxL
  simp [hc]
theorem rdF_nought (neg : Bool) (dp : Int) : rdF (fmtG neg [] dp) = some ⟨0, 0, neg, false, false, (fmtG neg [] dp).length, false⟩ := by
  unfold fmtG
  rw [if_pos rfl, rdF_of (by omega) (by decide)]
  rfl
theorem rdT_text {n m nd nm : Nat} {neg us dot saw tr : Bool} {dp : Int} {rest : List Nat} {e : Int} (hs : saw = true) (hm : m ≠ 0) (he : expo false rest = some (e, false, [])) :
    rdT n neg false (⟨us, dot, saw, tr, nd, nm, m, dp⟩, rest) = some ⟨m, (if dot then dp else (nd : Int)) + e - nm, neg, tr, false, n, us || false⟩ := by
  subst hs
  unfold rdT
  rw [if_neg (by simp)]
  simp only [he, if_neg hm]
  rfl
theorem rdF_text (neg : Bool) {D : List Nat} {dp : Int} (hD : ∀ c ∈ D, 48 ≤ c ∧ c ≤ 57) (hne : D ≠ []) (h0 : D.head? ≠ some 48) (hl : D.length ≤ 19) (h1 : -900 < dp) (h2 : dp < 900) :
    ∃ j : Nat, rdF (fmtG neg D dp) = some ⟨10 ^ j * val D, dp - D.length - j, neg, false, false, (fmtG neg D dp).length, false⟩ ∧ (j = 0 ∨ D.length + j ≤ 6) := by
  have hv := val_pos hD h0 hne
  obtain ⟨c, t, rfl⟩ : ∃ c t, D = c :: t := by cases D with
    | nil => exact absurd rfl hne
    | cons c t => exact ⟨c, t, rfl⟩
  have hc := hD c (List.mem_cons_self ..)
  have hc48 : c ≠ 48 := fun e => h0 (by rw [e]; rfl)
  have e0 : expo false [] = some (0, false, []) := rfl
  rw [List.length_cons] at hl
  unfold fmtG
  rw [if_neg hne]
  by_cases hE : dp - 1 < -4 ∨ 6 ≤ dp - 1
  · rw [if_pos hE]
    refine ⟨0, ?_, Or.inl rfl⟩
    have hf : fmtE (c :: t) dp = c :: ((if 1 < (c :: t).length then 46 :: t else []) ++ 101 :: expT (dp - 1)) := rfl
    rw [hf, rdF_of hc.1 (hx_of hc48)]
    have s1 := scan_digs [c] ((if 1 < (c :: t).length then 46 :: t else []) ++ 101 :: expT (dp - 1)) false false false false 0 0 0 0 (by intro x hx; rw [List.mem_singleton] at hx; rw [hx]; exact hc) (Or.inl (by simpa using hc48)) (by simp)
    show rdT _ neg false (scanM false ⟨false, false, false, false, 0, 0, 0, 0⟩ ([c] ++ ((if 1 < (c :: t).length then 46 :: t else []) ++ 101 :: expT (dp - 1)))) = _
    rw [s1]
    by_cases ht : 1 < (c :: t).length
    · rw [if_pos ht, List.cons_append, scan_dot, scan_digs t _ _ _ _ _ _ _ _ _ (fun x hx => hD x (List.mem_cons_of_mem _ hx)) (Or.inr (by simp)) (by simp; omega), scan_e, rdT_text (e := dp - 1) (by simp) (by unfold val at hv; rw [List.foldl_cons] at hv; simpa using Nat.ne_of_gt hv) (expo_text (by omega) (by omega))]
      unfold val
      rw [List.foldl_cons]
      simp only [if_true, List.foldl_cons, List.foldl_nil, List.length_cons, List.length_nil, Nat.pow_zero, Nat.one_mul, Bool.or_self]
      congr 2
      omega
    · rw [if_neg ht, List.nil_append, scan_e, rdT_text (e := dp - 1) (by simp) (by simp; omega) (expo_text (by omega) (by omega))]
      have htn : t = [] := by
        cases t with
        | nil => rfl
        | cons a b => simp at ht
      subst htn
      unfold val
      simp only [List.foldl_cons, List.foldl_nil, List.length_cons, List.length_nil, Nat.pow_zero, Nat.one_mul, Bool.or_self]
      congr 2
      simp
      omega
  · rw [if_neg hE]
    unfold fmtF
    by_cases hp : 0 < dp
    · rw [if_pos hp]
      by_cases hlt : dp.toNat < (c :: t).length
      · refine ⟨0, ?_, Or.inl rfl⟩
        obtain ⟨k, hk⟩ : ∃ k, dp.toNat = k + 1 := ⟨dp.toNat - 1, by omega⟩
        have hz : dp.toNat - (c :: t).length = 0 := by omega
        have htl : (t.take k).length = k := by rw [List.length_take]; simp at hlt; omega
        have hdl : (t.drop k).length = t.length - k := List.length_drop ..
        rw [if_pos hlt, hz, hk, List.replicate_zero, List.append_nil, List.take_succ_cons, List.drop_succ_cons, List.cons_append, rdF_of hc.1 (hx_of hc48)]
        show rdT _ neg false (scanM false ⟨false, false, false, false, 0, 0, 0, 0⟩ ((c :: t.take k) ++ 46 :: t.drop k)) = _
        have d1 : ∀ x ∈ t.take k, 48 ≤ x ∧ x ≤ 57 := fun x hx => hD x (List.mem_cons_of_mem _ (List.mem_of_mem_take hx))
        have d2 : ∀ x ∈ t.drop k, 48 ≤ x ∧ x ≤ 57 := fun x hx => hD x (List.mem_cons_of_mem _ (List.mem_of_mem_drop hx))
        rw [scan_digs (c :: t.take k) _ _ _ _ _ _ _ _ _ (by intro x hx; rcases List.mem_cons.1 hx with rfl | hx; exact hc; exact d1 x hx) (Or.inl (by simpa using hc48)) (by rw [List.length_cons, htl]; simp at hlt; omega), scan_dot]
        have := scan_digs (t.drop k) [] false true (false || !(c :: t.take k).isEmpty) false (0 + (c :: t.take k).length) (0 + (c :: t.take k).length) ((c :: t.take k).foldl (fun a c => 10 * a + (c - 48)) 0) ((0 + (c :: t.take k).length : Nat) : Int) d2 (Or.inr (by simp)) (by rw [List.length_cons, htl, hdl]; simp at hlt; omega)
        rw [List.append_nil] at this
        rw [this, scan_nil]
        have hval : (t.drop k).foldl (fun a c => 10 * a + (c - 48)) ((c :: t.take k).foldl (fun a c => 10 * a + (c - 48)) 0) = val (c :: t) := by
          rw [← List.foldl_append, List.cons_append, List.take_append_drop]
          rfl
        rw [hval, rdT_text (e := 0) (by simp) (by omega) e0, Nat.pow_zero, Nat.one_mul]
        simp only [if_true, Bool.or_self]
        congr 2
        rw [List.length_cons, htl, hdl, List.length_cons]
        simp at hlt
        omega
      · refine ⟨dp.toNat - (c :: t).length, ?_, by right; omega⟩
        rw [if_neg hlt, List.append_nil, List.take_of_length_le (by omega), List.cons_append, rdF_of hc.1 (hx_of hc48)]
        show rdT _ neg false (scanM false ⟨false, false, false, false, 0, 0, 0, 0⟩ ((c :: t) ++ List.replicate (dp.toNat - (c :: t).length) 48)) = _
        generalize hj : dp.toNat - (c :: t).length = j
        have := scan_digs ((c :: t) ++ List.replicate j 48) [] false false false false 0 0 0 0 (by
          intro x hx
          rcases List.mem_append.1 hx with hx | hx
          · exact hD x hx
          · have := List.eq_of_mem_replicate hx; omega) (Or.inl (by simpa using hc48)) (by rw [List.length_append, List.length_replicate]; omega)
        rw [List.append_nil] at this
        rw [this, scan_nil, List.foldl_append, foldl_noughts]
        have hval : (c :: t).foldl (fun a c => 10 * a + (c - 48)) 0 = val (c :: t) := rfl
        have hm : 10 ^ j * val (c :: t) ≠ 0 := Nat.ne_of_gt (Nat.mul_pos (Nat.pow_pos (by omega)) hv)
        rw [hval, rdT_text (e := 0) (by simp) hm e0]
        simp only [Bool.or_self]
        congr 2
        rw [List.length_append, List.length_replicate]
        simp
        simp at hj hlt
        omega
    · rw [if_neg hp]
      refine ⟨0, ?_, Or.inl rfl⟩
      rw [List.cons_append, List.cons_append, rdF_of (by omega) (by unfold hxL; simp [lowN])]
      show rdT _ neg false (scanM false ⟨false, true, true, false, 0, 0, 0, 0⟩ (List.replicate (-dp).toNat 48 ++ (c :: t))) = _
      rw [scan_noughts]
      have := scan_digs (c :: t) [] false true (true || decide (0 < (-dp).toNat)) false 0 0 0 (0 - ((-dp).toNat : Int)) hD (Or.inl (by simpa using hc48)) (by rw [List.length_cons]; omega)
      rw [List.append_nil] at this
      rw [this, scan_nil, rdT_text (e := 0) (by simp) (by unfold val at hv; omega) e0, Nat.pow_zero, Nat.one_mul]
      unfold val
      simp only [if_true, Bool.or_self]
      congr 2
      simp
      omega
end Go.Proofs.YtemjlkmlodmmfaaGreatDoor.Us
