/- What the statements of layer 23 ask ahead. By an AI agent. -/
import Derived.Test.YtjiehgfamlidnaaModP
import Derived.Lib.SmallJoins
namespace Go.Proofs.Ytjiehgfamlidnaa
open Go.ChangeShapes Go.WideShapes Go.ChangeAt Go.RowKit
set_option linter.unusedVariables false
namespace Md

def b1S : S := ⟨1, 1, 1, 1, 9223372036854775807, false, false⟩
def b2S : S := ⟨1, 1, 1, 2, 9223372036854775807, false, false⟩
def b3S : S := ⟨1, 1, 2, 2, 9223372036854775807, false, false⟩
theorem stepA : applyF b1S [] 2 0 [97] 0 1 [] = some (b2S, [[97]]) := by decide +kernel
theorem stepB : applyF b2S [[97]] 4 1 [] 0 1 [97] = some (b3S, [[97]]) := by decide +kernel
theorem stepC : applyF b3S [[97]] 4 1 [] 42 0 [] = none := by decide +kernel
theorem stepD : halfF b1S [] 1 0 [] = some (b2S, [[]]) := by decide +kernel
theorem inv1 : Inv b1S 0 := by constructor <;> decide
theorem inv2 : Inv b2S 1 := by constructor <;> decide
theorem inv3 : Inv b3S 1 := by constructor <;> decide

theorem src_nil (w : World) : Src w none [] := ⟨fun i hi => absurd hi (by simp), fun i j => by simp, fun i => by simp⟩
theorem bys_nil (w : World) (o : Option Addr) : Bys w o [] := fun i hi => absurd hi (by simp)
theorem bys_one (w : World) (x b : Nat) (hb : w.heap.size = b) : Bys (w.alloc (.cells #[.int .u8 (x : Nat)] 5 (1, 2))) (some ⟨b, 0, none⟩) [x] := by
  subst hb
  intro i hi
  have : i = 0 := by simpa using hi
  subst this
  exact ⟨_, rfl, by rw [addr_add]; exact Go.Joins.cell_alloc_mark_at w _ _ _ _ 0 rfl⟩
theorem small_one (x : Nat) (h : x < 256) : ∀ i, ([x] : List Nat).getD i 0 < 256 := by
  intro i
  cases i with
  | zero => simpa using h
  | succ i => simp
theorem small_nil : ∀ i, ([] : List Nat).getD i 0 < 256 := by intro i; simp
theorem conv_same (w : World) (o : Obj) : (convert 30 30 (.slice (some ⟨w.heap.size + 1, 0, none⟩) 1 1)).run Try.prog ((w.alloc o).alloc (.cells #[.int .u8 97] 5)) = .ok (.slice (some ⟨w.heap.size + 1, 0, none⟩) 1 1) ((w.alloc o).alloc (.cells #[.int .u8 97] 5 (1, 2))) :=
  Go.Joins.run_convert_bytes_const_at (w.alloc o) 30 5 #[.int .u8 97] 1 1 (w.heap.size + 1) (by simp) Try.underlying30 Try.underlying5
theorem wpList_load_want {P : Program} {ops : Array Oper} {rest : List Oper} {o : Oper} {a : Act} {w : World} {Q : Exit → Act → World → Prop} (hw : Region.wanted o (yielded ops a.tmps) = true) (ty : TypeId) (x : Operand) (ho : o.op = .load ty x)
    (g : Nat) (hx : a.eval x = .pointer (some ⟨g, 0, none⟩)) (t : TypeId) (cs : Array Value) (fr : Nat × Nat) (d : TypeDesc) (hg : w.heap[g]? = some (.cells cs t fr))
    (hu : P.underlying ty = some d) (hd : (match d with | .struct _ | .array _ _ => true | _ => false) = true) (hi : (P.info? ty).map (·.size) = some cs.size)
    (h : wpList P ops Q rest (a.put o.dst (.agg cs)) w) : wpList P ops Q (o :: rest) a w := by
  unfold wpList
  rw [if_pos hw]
  exact Or.inl (wp_load_row ty x ho g hx t cs fr d hg hu hd hi h)
theorem short_one (x : List Nat) (h : x.length ≤ 4096) : ∀ i, (([x] : List (List Nat)).getD i []).length ≤ 4096 := by
  intro i
  cases i with
  | zero => simpa using h
  | succ i => simp

set_option maxRecDepth 100000 in
set_option maxHeartbeats 16000000 in
theorem begun_any (w : World) : Calls Try.prog 7 #[] w fun e w' => e = .returned (.bool true) ∧ Below w.heap.size w w' := by
  have hN := new_any 1 w
  rw [if_neg (by omega), if_neg (by omega)] at hN
  have HN := Lib.hid hN
  clear hN
  go_enter Try.func7, Try.ntmps7
  go_wp2_with fail
  refine HN.out.mono ?_
  rintro e w1 ⟨rfl, hb1⟩
  unfold cs newS
  have HB1 := Lib.hid hb1
  have hcv := conv_same w1
  clear hb1 HN
  go_wp2_with fail
  -- an Async
  refine (apply_any b1S none 0 [] 2 0 0 1 (some ⟨w1.heap.size + 1, 0, none⟩) 1 [97] none 0 [] _ (src_nil _) (by decide) inv1 (bys_one _ 97 _ (by simp)) (fun h => nomatch h) (small_one 97 (by omega)) (bys_nil _ _) small_nil).mono ?_
  rw [stepA]
  rintro e w2 ⟨⟨ba, ga, oa, ca, xa, rfl, hra, hga⟩, hba⟩
  have m2 : w2.heap[w1.heap.size]? = some (.cells (cs b1S (.slice none 0 0)) 26 (0, 0)) := (hba.block _ (by simp; omega)).trans (blk_alloc (blk_new w1 _) _)
  have b2 : Below w.heap.size w w2 := HB1.out.trans ((((Below.refl w1.heap.size w1).alloc (Nat.le_refl _) _).alloc (by simp) _).trans (hba.mono (by simp; omega)) |>.mono HB1.out.size)
  have z2 : w1.heap.size + 2 ≤ w2.heap.size := by have := hba.size; simp at this; omega
  have H2 := Lib.hid (And.intro m2 (And.intro b2 hra))
  clear m2 b2 hba hra hga
  unfold cs b2S
  have hcv2 := conv_same w2
  go_wp2_with fail
  -- a Read of it
  have hl : ([[97]] : List (List Nat)).length = 1 := rfl
  refine (apply_any b2S oa ca [[97]] 4 1 0 1 none 0 [] (some ⟨w2.heap.size + 1, 0, none⟩) 1 [97] _ ?_ (by decide) inv2 (bys_nil _ _) (fun _ => rfl) small_nil (bys_one _ 97 _ (by simp)) (small_one 97 (by omega))).mono ?_
  · obtain ⟨o', c', e, hs⟩ := src_of H2.out.2.2 (short_one [97] (by decide))
    obtain ⟨rfl, -⟩ : oa = o' ∧ ca = c' := by simpa using e
    exact (hs.keep ((Below.refl _ w2).alloc (Nat.le_refl _) _)).keep ((Below.refl _ _).alloc (Nat.le_refl _) _)
  rw [stepB]
  rintro e w3 ⟨⟨bb, gb, ob, cb, xb, rfl, hrb, hgb⟩, hbb⟩
  have k23 : Below w2.heap.size w2 w3 := (((Below.refl w2.heap.size w2).alloc (Nat.le_refl _) _).alloc (by simp) _).trans (hbb.mono (by simp; omega))
  have n3 : w3.heap[w2.heap.size]? = some (.cells (cs b2S (.slice oa 1 ca)) 26 (0, 0)) := (hbb.block _ (by simp; omega)).trans (blk_alloc (blk_new w2 _) _)
  have z3 : w2.heap.size + 2 ≤ w3.heap.size := by have := hbb.size; simp at this; omega
  have H3 := Lib.hid (And.intro n3 (And.intro k23 hrb))
  clear n3 k23 hbb hrb hgb
  unfold cs b3S
  clear hcv hcv2
  go_wp2_with fail
  -- what may not be
  refine (apply_any b3S ob cb [[97]] 4 1 42 0 none 0 [] none 0 [] _ ?_ (by decide) inv3 (bys_nil _ _) (fun _ => rfl) small_nil (bys_nil _ _) small_nil).mono ?_
  · obtain ⟨o', c', e, hs⟩ := src_of H3.out.2.2 (short_one [97] (by decide))
    obtain ⟨rfl, -⟩ : ob = o' ∧ cb = c' := by simpa using e
    exact hs.keep ((Below.refl _ w3).alloc (Nat.le_refl _) _)
  rw [stepC]
  rintro e w4 ⟨rfl, hbc⟩
  have k34 : Below w3.heap.size w3 w4 := ((Below.refl w3.heap.size w3).alloc (Nat.le_refl _) _).trans (hbc.mono (by simp))
  have o4 : w4.heap[w3.heap.size]? = some (.cells (cs b3S (.slice ob 1 cb)) 26 (0, 0)) := (hbc.block _ (by simp)).trans (blk_new w3 _)
  have z4 : w3.heap.size + 1 ≤ w4.heap.size := by have := hbc.size; simp at this; omega
  have m4 : w4.heap[w1.heap.size]? = some (.cells (cs b1S (.slice none 0 0)) 26 (0, 0)) := (k34.block _ (by omega)).trans ((H3.out.2.1.block _ (by omega)).trans H2.out.1)
  have n4 : w4.heap[w2.heap.size]? = some (.cells (cs b2S (.slice oa 1 ca)) 26 (0, 0)) := (k34.block _ (by omega)).trans H3.out.1
  have b4 : Below w.heap.size w w4 := (H2.out.2.1.trans (H3.out.2.1.mono H2.out.2.1.size)).trans (k34.mono (by have := H2.out.2.1.size; omega))
  have H4 := Lib.hid (And.intro m4 (And.intro n4 (And.intro o4 b4)))
  clear hbc k34 m4 n4 o4 b4
  unfold cs zS
  go_wp2_with (refine load_guard (.tmp 1) 26 (by rfl) ?_; go_must (refine wpList_load_row rfl 26 (.tmp 1) rfl w1.heap.size rfl 26 (cs b1S (.slice none 0 0)) (0, 0) _ (blk_alloc H4.out.1 _) Try.underlying26 rfl model_size ?_))
  -- half an Append
  refine (half_any b1S none 0 [] 1 0 none 0 [] _ (src_nil _) (by decide) inv1 (bys_nil _ _) (fun _ => rfl) small_nil).mono ?_
  rw [stepD]
  rintro e w5 ⟨⟨bd, gd, oe, ce, xe, rfl, hrd, hgd⟩, hbd⟩
  have k45 : Below w4.heap.size w4 w5 := ((Below.refl w4.heap.size w4).alloc (Nat.le_refl _) _).trans (hbd.mono (by simp))
  have z5 : w4.heap.size + 1 ≤ w5.heap.size := by have := hbd.size; simp at this; omega
  have m5 : (w5.alloc (.cells (cs b2S (.slice oe 1 ce)) 26)).heap[w1.heap.size]? = some (.cells (cs b1S (.slice none 0 0)) 26 (0, 0)) := blk_alloc ((k45.block _ (by omega)).trans H4.out.1) _
  have n5 : (w5.alloc (.cells (cs b2S (.slice oe 1 ce)) 26)).heap[w2.heap.size]? = some (.cells (cs b2S (.slice oa 1 ca)) 26 (0, 0)) := blk_alloc ((k45.block _ (by omega)).trans H4.out.2.1) _
  have o5 : (w5.alloc (.cells (cs b2S (.slice oe 1 ce)) 26)).heap[w3.heap.size]? = some (.cells (cs b3S (.slice ob 1 cb)) 26 (0, 0)) := blk_alloc ((k45.block _ (by omega)).trans H4.out.2.2.1) _
  have b5 : Below w.heap.size w (w5.alloc (.cells (cs b2S (.slice oe 1 ce)) 26)) := (H4.out.2.2.2.trans (k45.mono H4.out.2.2.2.size)).alloc (by have := H4.out.2.2.2.size; omega) _
  have c3 := blk_cell n5 3
  have c2 := blk_cell o5 2
  simp [cs, b2S, b3S] at c3 c2
  have H5 := Lib.hid (And.intro m5 (And.intro n5 b5))
  clear hbd k45 m5 n5 o5 b5 hrd hgd
  unfold cs b2S at *
  go_wp2_with (first | (refine load_guard (.tmp 1) 26 (by rfl) ?_; go_must (refine wpList_load_want (by kernel_rfl) 26 (.tmp 1) rfl w1.heap.size rfl 26 (cs b1S (.slice none 0 0)) (0, 0) _ H5.out.1 Try.underlying26 rfl model_size ?_)) | (refine load_guard (.tmp 3) 26 (by rfl) ?_; go_must (refine wpList_load_want (by kernel_rfl) 26 (.tmp 3) rfl w2.heap.size rfl 26 (cs b2S (.slice oa 1 ca)) (0, 0) _ H5.out.2.1 Try.underlying26 rfl model_size ?_)))
  refine (same_eq b1S none none 0 0 _).mono ?_
  rintro e w7 ⟨rfl, hk7⟩
  have m7 := hk7.same H5.out.1 id
  have n7 := hk7.same H5.out.2.1 id
  have H7 := Lib.hid (And.intro m7 (And.intro n7 (H5.out.2.2.trans (hk7.none.mono H5.out.2.2.size))))
  clear m7 n7 hk7
  go_wp2_with (first | (refine load_guard (.tmp 1) 26 (by rfl) ?_; go_must (refine wpList_load_want (by kernel_rfl) 26 (.tmp 1) rfl w1.heap.size rfl 26 (cs b1S (.slice none 0 0)) (0, 0) _ H7.out.1 Try.underlying26 rfl model_size ?_)) | (refine load_guard (.tmp 3) 26 (by rfl) ?_; go_must (refine wpList_load_want (by kernel_rfl) 26 (.tmp 3) rfl w2.heap.size rfl 26 (cs b2S (.slice oa 1 ca)) (0, 0) _ H7.out.2.1 Try.underlying26 rfl model_size ?_)))
  refine (same_ne b1S b2S none oa 0 1 0 ca _ (by omega)).mono ?_
  rintro e w8 ⟨rfl, hk8⟩
  have H8 := Lib.hid (H7.out.2.2.trans (hk8.none.mono H7.out.2.2.size))
  clear hk8
  go_wp2_with fail
  go_ret
  exact ⟨rfl, H8.out⟩
end Md
end Go.Proofs.Ytjiehgfamlidnaa
