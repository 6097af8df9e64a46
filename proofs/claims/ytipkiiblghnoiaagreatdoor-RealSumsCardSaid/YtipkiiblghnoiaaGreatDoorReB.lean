/- What the rows' list of variables gives: the tables that strconv reads. By an AI agent. -/
import Derived.Test.YtipkiiblghnoiaaGreatDoorReA
import Derived.Test.YtipkiiblghnoiaaGreatDoorCards
import Derived.Test.YtipkiiblghnoiaaGreatDoorTie
import Derived.Lib.LaidTab
import Derived.Lib.AppendIntMem
import Derived.Lay
import Derived.MakeChecks
namespace Go.Proofs.YtipkiiblghnoiaaGreatDoor
open Go.ChangeShapes Go.WideShapes Go.ChangeAt Go.RowKit
open Bt
set_option linter.unusedVariables false

theorem own : ownKnob Tryz.prog.godebug = none := by kernel_rfl

/-- One variable of the list. -/
def OneLaid (W : World) (n : String) (d : DataW Unit) : Prop :=
  ∃ g t cs fuel p, Tryz.prog.globalNamed n = some g ∧ (Tryz.prog.globals[g]?).map (·.type) = some t ∧ W.var? Tryz.prog n = some cs ∧ DataW.trod (fun _ => ()) Tryz.prog W 0 (fun _ => true) false fuel t cs.toList = some (d, p)
theorem one_laid {W : World} : ∀ {l : List (String × DataW Unit)} {ps : List MemPlace}, DataW.LaidVars Tryz.prog W l ps → ∀ (i : Nat) n d, l[i]? = some (n, d) → OneLaid W n d
  | [], _, _, i, n, d, hi => by simp at hi
  | (n0, d0) :: r, ps, h, i, n, d, hi => by
    obtain ⟨g, t, cs, fuel, p, q, h1, h2, h3, h4, h5, -⟩ := h
    cases i with
    | zero => simp at hi; obtain ⟨rfl, rfl⟩ := hi; exact ⟨g, t, cs, fuel, p, h1, h2, h3, h4⟩
    | succ i => exact one_laid h5 i n d (by simpa using hi)

theorem opt_of {W : World} (h : OneLaid W "internal/strconv.optimize" (.lit (.bool true))) : Opt W := by
  obtain ⟨g, t, cs, fuel, p, h1, h2, h3, h4⟩ := h
  obtain rfl := Option.some.inj ((show Tryz.prog.globalNamed "internal/strconv.optimize" = some 3 by kernel_rfl).symm.trans h1)
  obtain rfl := Option.some.inj ((show (Tryz.prog.globals[3]?).map (·.type) = some 4 by kernel_rfl).symm.trans h2)
  obtain ⟨b, hb, hx⟩ := DataW.trod_bool Tryz.underlying4 h4
  have hbt : b = true := by
    have := congrArg Prod.fst hx
    simpa using this.symm
  subst hbt
  have hc := World.var?_cell (show Tryz.prog.globalNamed "internal/strconv.optimize" = some 3 by kernel_rfl) h3 0
  unfold Opt
  rw [hc, ← Array.getElem?_toList, hb]
  rfl

theorem tens_of {W : World} (h : OneLaid W "internal/strconv.uint64pow10" (Lib.tabData .u64 Lib.pow10Tab)) : Lib.TabIs Tryz.prog W "internal/strconv.uint64pow10" .u64 Lib.pow10Tab := by
  obtain ⟨g, t, cs, fuel, p, h1, h2, h3, h4⟩ := h
  obtain rfl := Option.some.inj ((show Tryz.prog.globalNamed "internal/strconv.uint64pow10" = some 6 by kernel_rfl).symm.trans h1)
  obtain rfl := Option.some.inj ((show (Tryz.prog.globals[6]?).map (·.type) = some 162 by kernel_rfl).symm.trans h2)
  unfold Lib.TabIs
  rw [h3]
  have := Lib.cells_of_tab Tryz.underlying162 Tryz.underlying36 (by kernel_rfl) (by kernel_rfl) h4
  rw [← this]

theorem rows_say : ∀ i : Fin 696, (Go.Pinned.pow10Rows[i.val]?).map (fun x => (x.1, x.2)) = some (Us.pmHi ((i.val : Int) - 348), Us.pmLo ((i.val : Int) - 348)) := by decide +kernel

set_option maxRecDepth 100000 in
theorem pows_of {W : World} (h : OneLaid W "internal/strconv.pow10Tab" Go.Pinned.pow10Tab) : Pows W := by
  obtain ⟨g, t, cs, fuel, p, h1, h2, h3, h4⟩ := h
  have hg : Tryz.prog.globalNamed "internal/strconv.pow10Tab" = some 10 := by kernel_rfl
  obtain rfl := Option.some.inj (hg.symm.trans h1)
  obtain rfl := Option.some.inj ((show (Tryz.prog.globals[10]?).map (·.type) = some 177 by kernel_rfl).symm.trans h2)
  obtain ⟨xs, m, -, hx, hcl, hxl, hel⟩ := DataW.trod_array Tryz.underlying177 h4
  have hC : Tryz.prog.cellsOf 176 = 2 := by kernel_rfl
  have hxs : xs.map (·.1) = Go.Pinned.pow10Rows.map fun x => DataW.agg [.lit (.int .u64 x.1), .lit (.int .u64 x.2)] := by
    have := congrArg Prod.fst hx
    unfold Go.Pinned.pow10Tab at this
    simp only [DataW.agg.injEq] at this
    exact this.symm
  intro i hi
  have hr := rows_say ⟨i, hi⟩
  simp only at hr
  obtain ⟨⟨a, b⟩, hab, hv⟩ := Option.map_eq_some_iff.1 hr
  have e1 : a = Us.pmHi ((i : Int) - 348) := congrArg Prod.fst hv
  have e2 : b = Us.pmLo ((i : Int) - 348) := congrArg Prod.snd hv
  have hxi : ∃ y, xs[i]? = some (DataW.agg [.lit (.int .u64 a), .lit (.int .u64 b)], y) := by
    have h5 := congrArg (fun l => l[i]?) hxs
    simp only [List.getElem?_map, hab, Option.map_some] at h5
    obtain ⟨⟨d, y⟩, h6, h7⟩ := Option.map_eq_some_iff.1 h5
    exact ⟨y, by rw [h6]; simp only at h7; rw [h7]⟩
  obtain ⟨y, hy⟩ := hxi
  have he := hel i hi
  rw [hC, hy] at he
  obtain ⟨ys, n, -, hz, hzl, hzs, hf⟩ := DataW.trod_struct Tryz.underlying176 he
  have hzy : ys.map (·.1) = [.lit (.int .u64 (a : Int)), .lit (.int .u64 (b : Int))] := by
    have h5 := congrArg Prod.fst hz
    simp only [DataW.agg.injEq] at h5
    exact h5.symm
  have hCu : Tryz.prog.cellsOf 36 = 1 := by kernel_rfl
  have field : ∀ (j : Nat) (z : Int) (f : Field), f.type = 36 → f.offset = j → ((ys.map (·.1))[j]? = some (.lit (.int .u64 z))) →
      DataW.trod (fun _ => ()) Tryz.prog W 0 (fun _ => true) false n f.type ((((cs.toList.drop (i * 2)).take 2).drop f.offset).take (Tryz.prog.cellsOf f.type)) = ys[j]? → j < 2 → cs.toList[i * 2 + j]? = some (.int .u64 z) := by
    intro j z f ht ho hj hr hj2
    rw [List.getElem?_map] at hj
    obtain ⟨⟨d, q⟩, h6, h7⟩ := Option.map_eq_some_iff.1 hj
    rw [h6, ht, ho, hCu] at hr
    obtain ⟨z', hz1, hz2, -⟩ := DataW.trod_int Tryz.underlying36 hr
    simp only at h7
    rw [h7] at hz2
    have : z = z' := by
      have := congrArg Prod.fst hz2
      simpa using this
    subst this
    have h8 : (List.take 1 (List.drop j (List.take 2 (List.drop (i * 2) cs.toList))))[0]? = [Value.int IntKind.u64 z][0]? := congrArg (fun l => l[0]?) hz1
    rw [List.getElem?_take_of_lt (by omega), List.getElem?_drop, List.getElem?_take_of_lt (by omega), List.getElem?_drop, Nat.add_zero] at h8
    exact h8
  have c0 := field 0 a _ rfl rfl (by rw [hzy]; rfl) (hf 0 _ rfl) (by omega)
  have c1 := field 1 b _ rfl rfl (by rw [hzy]; rfl) (hf 1 _ rfl) (by omega)
  refine ⟨?_, ?_⟩
  · rw [World.var?_cell hg h3 (i * 2), ← Array.getElem?_toList, ← e1]; exact c0
  · rw [World.var?_cell hg h3 (i * 2 + 1), ← Array.getElem?_toList, ← e2]; exact c1

theorem tb_of {W : World} (h1 : Pows W) (h2 : Lib.TabIs Tryz.prog W "internal/strconv.uint64pow10" .u64 Lib.pow10Tab) : Tb W.heap.size W := by
  have hlt : 10 < W.heap.size := cell_in (h1 0 (by omega)).1
  exact ⟨fun w' hb i hi => ⟨(hb.cell (p := ⟨10, i * 2, none⟩) hlt).trans (h1 i hi).1, (hb.cell (p := ⟨10, i * 2 + 1, none⟩) hlt).trans (h1 i hi).2⟩, Lib.tabBelow_of_tabIs h2, hlt, Nat.le_refl _⟩

/-- The list of the rows (one and the same in all of this seat). -/
theorem tables {W : World} (h : laidMetH Tryz.prog Rows.realListsRow.laid W) : Opt W ∧ Tb W.heap.size W := by
  rw [MakeChecks.laidMetH_plain _ _ _ (by kernel_rfl)] at h
  obtain ⟨ps, hv, -⟩ := h
  have a := one_laid hv 4 _ _ rfl
  have b := one_laid hv 8 _ _ rfl
  have c := one_laid hv 12 _ _ rfl
  exact ⟨opt_of a, tb_of (pows_of c) (tens_of b)⟩
end Go.Proofs.YtipkiiblghnoiaaGreatDoor
