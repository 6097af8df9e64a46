/- The reference's Merge. By an AI agent. -/
import Derived.Test.YtdkcnbcjjlaidaaGaAh
namespace Go.Proofs.Ytdkcnbcjjlaidaa
open Go.ChangeShapes Go.WideShapes Go.ChangeAt Go.RowKit
set_option linter.unusedVariables false

theorem RAt.drew {w : World} {g base : Nat} {ob : Option Addr} {cb c : Nat} {x : G} (h : RAt w g base ob cb c x) : RAt w.drew g base ob cb c x :=
  h.keep ⟨rfl, rfl, rfl, Nat.le_refl _, fun _ _ => rfl⟩
theorem Keep_opw {bs : Nat → Prop} {a w : World} (op : BinOp) (x y : Nat) (h : Keep bs a w) : Keep bs a (opW op x y w).2 := h.trans (opW_keep bs op x y w)
theorem RAt.beside {bs : Nat → Prop} {w w' : World} {g base : Nat} {ob : Option Addr} {cb c : Nat} {x : G} (h : RAt w g base ob cb c x) (k : Keep bs w w') (h1 : ¬ bs g) (h2 : ¬ bs c) (h3 : 0 < x.bs.length → ∀ ad, ob = some ad → ¬ bs ad.block) : RAt w' g base ob cb c x := by
  refine { h with row := k.same h.row h1, fls := ?_, cls := k.same h.cls h2 }
  rcases Nat.eq_zero_or_pos x.bs.length with h0 | h0
  · intro i hi
    omega
  · exact fls_keep' h.fls k (h3 h0)
theorem RAt.below {w : World} {g base : Nat} {ob : Option Addr} {cb c : Nat} {x : G} (h : RAt w g base ob cb c x) : ∀ a, ob = some a → 0 < x.bs.length → a.block < w.heap.size := by
  intro a ha hl
  obtain ⟨ad, e, hc⟩ := h.fls 0 hl
  rw [ha] at e
  cases e
  have := cell_in hc
  rw [add_block] at this
  exact this
/-- The new mean of a Merge, over whatever worlds. -/
theorem mean_chain2 (me v a c : Nat) (w1 w2 w3 w4 : World) : canonF (opW .add me (opW .mul (opW .sub v me w1).1 (opW .quo a c w2).1 w3).1 w4).1 = canonF (opF .add me (opF .mul (opF .sub v me) (opF .quo a c))) := by
  have nanL : ∀ (op : BinOp) (a b : Nat) (w : World), Flt.nan a = true → Flt.nan (opW op a b w).1 = true := fun op a b w h => by
    unfold opW; rw [arith_nan (Or.inl h)]; exact nanW_nan a b w
  have nanR : ∀ (op : BinOp) (a b : Nat) (w : World), Flt.nan b = true → Flt.nan (opW op a b w).1 = true := fun op a b w h => by
    unfold opW; rw [arith_nan (Or.inr h)]; exact nanW_nan a b w
  have fL : ∀ (op : BinOp) (a b : Nat), Flt.nan a = true → Flt.nan (opF op a b) = true := fun op a b h => by rw [opF_none (arith_nan (Or.inl h))]; exact nanC
  have fR : ∀ (op : BinOp) (a b : Nat), Flt.nan b = true → Flt.nan (opF op a b) = true := fun op a b h => by rw [opF_none (arith_nan (Or.inr h))]; exact nanC
  have fin : ∀ a b : Nat, (a = b ∨ (Flt.nan a = true ∧ Flt.nan b = true)) → canonF a = canonF b := by
    intro a b h
    rcases h with rfl | ⟨h1, h2⟩
    · rfl
    · rw [canon_nan h1, canon_nan h2]
  apply fin
  rcases opW_val .sub v me w1 with h1 | ⟨h1, h1'⟩
  · rw [h1]
    rcases opW_val .quo a c w2 with h2 | ⟨h2, h2'⟩
    · rw [h2]
      rcases opW_val .mul (opF .sub v me) (opF .quo a c) w3 with h3 | ⟨h3, h3'⟩
      · rw [h3]
        exact opW_val .add me _ w4
      · exact Or.inr ⟨nanR _ _ _ _ h3, fR _ _ _ h3'⟩
    · exact Or.inr ⟨nanR _ _ _ _ (nanR _ _ _ _ h2), fR _ _ _ (fR _ _ _ h2')⟩
  · exact Or.inr ⟨nanR _ _ _ _ (nanL _ _ _ _ h1), fR _ _ _ (fL _ _ _ h1')⟩

set_option maxRecDepth 100000 in
set_option maxHeartbeats 32000000 in
theorem rmerge_ok {w : World} {g base g' base' : Nat} {ob ob' : Option Addr} {cb c cb' c' : Nat} {x y : G} (h : RAt w g base ob cb c x) (h' : RAt w g' base' ob' cb' c' y) (hx : Calm x) (hy : Calm y) (hsm : y.cs.length ≤ 1000000) (hbs : alikeB x.bs y.bs = true) :
    Calls Try.prog 23 #[.pointer (some ⟨g, 0, none⟩), .pointer (some ⟨g', 0, none⟩)] w fun e w' => e = .returned (.int .i64 0) ∧ RAt w' g base ob cb c (mergeG x y) ∧ Keep (fun b => b = g ∨ b = c) w w' := by
  obtain ⟨i0, hi, hz0, hz1, hz2⟩ := info_parts info_i64
  have o1 : ∀ t w a b, (binOp .sub t (.float .f64 a) (.float .f64 b)).run Try.prog w = .ok (.float .f64 (opW .sub a b w).1) (opW .sub a b w).2 := fun t w a b => run_opW (Or.inr (Or.inl rfl)) _ t a b w
  have o2 : ∀ t w a b, (binOp .quo t (.float .f64 a) (.float .f64 b)).run Try.prog w = .ok (.float .f64 (opW .quo a b w).1) (opW .quo a b w).2 := fun t w a b => run_opW (Or.inr (Or.inr (Or.inr rfl))) _ t a b w
  have o3 : ∀ t w a b, (binOp .add t (.float .f64 a) (.float .f64 b)).run Try.prog w = .ok (.float .f64 (opW .add a b w).1) (opW .add a b w).2 := fun t w a b => run_opW (Or.inl rfl) _ t a b w
  have o4 : ∀ t w a b, (binOp .mul t (.float .f64 a) (.float .f64 b)).run Try.prog w = .ok (.float .f64 (opW .mul a b w).1) (opW .mul a b w).2 := fun t w a b => run_opW (Or.inr (Or.inr (Or.inl rfl))) _ t a b w
  have oc := opW_cell
  have of := opW_frozen
  have hbs2 := of_decide_eq_true hbs
  have hcl : y.cs.length = x.cs.length := by rw [h.len, h'.len, hbs2.1]
  have hl := hx.b
  have HF := Lib.hid (And.intro h (And.intro h' (And.intro hbs2.2 (And.intro hbs2.1 (And.intro hcl (And.intro hx hy))))))
  have hxn := hx.n0
  have hxn1 := hx.n1
  have hyn := hy.n0
  have hyn1 := hy.n1
  have hxm := hx.m0
  have hxm1 := hx.m1
  have hym := hy.m0
  have hym1 := hy.m1
  clear h h' hbs hbs2 hcl hx hy
  generalize hn : x.bs.length = n at *
  have HN := Lib.hid hn
  clear hn
  generalize hcn : y.cs.length = nc at *
  have HCN := Lib.hid hcn
  clear hcn
  have HR : RowKit.Hid (∀ W, Below w.heap.size w W → W.cell? ⟨g, 0, none⟩ = some (.slice ob n cb) ∧ W.cell? ⟨g', 0, none⟩ = some (.slice ob' n cb')) := Lib.hid fun W k => by
    have a := (rcell_facts (HF.out.1.keep k)).1
    have b := (rcell_facts (HF.out.2.1.keep k)).1
    rw [HN.out] at a
    rw [← HF.out.2.2.2.1] at b
    exact ⟨a, b⟩
  have k0 := HR.out w (Below.refl _ _)
  obtain ⟨q0, p0⟩ := k0
  go_enter Try.func23, Try.ntmps23
  go_wp2_with fail
  go_quiet (fail)
  have HQ := Lib.hid (((Keep.refl (fun _ => False) w).drewN nq).none.mono (Nat.le_refl _))
  clear q0 p0
  go_wp2_with fail
  go_loopg [5] n (fun gq i wr => ∃ k : Nat, gq + k = n ∧ i = .int .i64 (k : Int) ∧ Hid (Below w.heap.size w wr))
  case atStart => exact ⟨0, by omega, rfl, HQ.out⟩
  case round =>
    obtain ⟨k, hgk, rfl, HK⟩ := hrel
    obtain ⟨q0, p0⟩ := HR.out wr HK.out
    by_cases hk : k < n
    · obtain ⟨ad, rfl, hcell⟩ := (HF.out.1.keep HK.out).fls k (by rw [HN.out]; exact hk)
      obtain ⟨ad', rfl, hcell'⟩ := (HF.out.2.1.keep HK.out).fls k (by rw [← HF.out.2.2.2.1]; exact hk)
      have hke := HF.out.2.2.1 k hk
      have HS := Lib.hid (same3_any (x.bs.getD k 0) (y.bs.getD k 0) (HF.out.1.lt k) (HF.out.2.1.lt k))
      rw [decide_eq_true hke] at HS
      clear hke
      generalize ha : x.bs.getD k 0 = a at *
      generalize hb : y.bs.getD k 0 = b at *
      clear ha hb
      go_wp2_with fail
      go_quiet ((go_at_call 43; exact Calls.quiet_of_same ((HS.out _).mono fun _ _ ⟨he, hw⟩ => ⟨he, hw.symm⟩)))
      have HQ := Lib.hid (HK.out.trans (((Keep.refl (fun _ => False) wr).drewN nq).none.mono HK.out.size))
      go_wp2_with fail
      go_roundg (gk - 1)
      case measure => omega
      case rel => exact ⟨k + 1, by omega, rfl, HQ.out⟩
    · have hy1 := HF.out.2.1.keep HK.out
      have hx1 := HF.out.1.keep HK.out
      obtain ⟨-, q1, q2, q3, q4, q5, q6⟩ := rcell_facts hx1
      obtain ⟨-, p1, p2, p3, p4, p5, p6⟩ := rcell_facts hy1
      have kW : Below wr.heap.size wr (wr.alloc (.cells (lcells y) 55)) := (Below.refl _ wr).alloc (Nat.le_refl _) _
      have hyb : (wr.alloc (.cells (lcells y) 55)).heap[wr.heap.size]? = some (.cells (lcells y) 55 (0, 0)) := blk_new wr _
      have hx2 := hx1.keep kW
      have hy2 := hy1.keep kW
      have hz2' : (wr.alloc (.cells (lcells y) 55)).heap.size = wr.heap.size + 1 := by simp
      have H2 := Lib.hid (And.intro hx2 (And.intro hy2 (And.intro (HK.out.trans (kW.mono HK.out.size)) hyb)))
      have p1' : (wr.alloc (.cells (lcells y) 55)).cell? ⟨g', 1, none⟩ = some (.slice (some ⟨c', 0, none⟩) nc nc) := by
        have := (rcell_facts hy2).2.1
        rw [HCN.out] at this
        exact this
      have hgl := lt_of_block hx1.row
      have hcl := lt_of_block hx1.cls
      have hb5 : wr.heap.size < (wr.alloc (.cells (lcells y) 55)).heap.size := by omega
      have hnews : ∀ j u, (i64s y.cs).toList[j]? = some u → ∃ ad, some (⟨c', 0, none⟩ : Addr) = some ad ∧ (wr.alloc (.cells (lcells y) 55)).cell? (ad.add j) = some u := by
        intro j u hj
        refine ⟨_, rfl, ?_⟩
        rw [addr_add, Nat.zero_add, blk_cell hy2.cls j]
        simpa using hj
      have h1 : ∀ u ∈ (i64s y.cs).toList, u.oneCell' = true := by
        intro u hu
        simp [i64s] at hu
        obtain ⟨y, -, rfl⟩ := hu
        rfl
      have hl2 : (i64s y.cs).toList.length = nc := by rw [← HCN.out]; simp [i64s]
      have HG := Lib.hid (And.intro hnews (And.intro h1 hl2))
      clear hnews h1 hl2 hx1 hy1 hx2 hy2 kW hyb q1 q2 q3 q4 q5 q6 p1
      unfold lcells at p1' hb5
      have hb5g : wr.heap.size ≠ g := by omega
      have hwb5 : w.heap.size ≤ wr.heap.size := HK.out.size
      generalize hb5e : wr.heap.size = b5 at *
      have H2' : RowKit.Hid (RAt (wr.alloc (.cells #[.int .i64 y.n, .int .i64 y.nn, .float .f64 y.le, .float .f64 y.gr, .float .f64 y.me] 55)) g base ob cb c x ∧ Below w.heap.size w (wr.alloc (.cells #[.int .i64 y.n, .int .i64 y.nn, .float .f64 y.le, .float .f64 y.gr, .float .f64 y.me] 55)) ∧ (wr.alloc (.cells #[.int .i64 y.n, .int .i64 y.nn, .float .f64 y.le, .float .f64 y.gr, .float .f64 y.me] 55)).heap[b5]? = some (.cells (lcells y) 55 (0, 0))) := Lib.hid ⟨H2.out.1, H2.out.2.2.1, H2.out.2.2.2⟩
      clear H2
      have hcpos : 0 < nc := by rw [← HCN.out, HF.out.2.1.len]; omega
      go_wp2_with (at_builtin; go_must (refine wpList_append_sl _ rfl (.const (.slice none 0 0)) (.tmp 55) 52 rfl (wr.alloc (.cells #[.int .i64 y.n, .int .i64 y.nn, .float .f64 y.le, .float .f64 y.gr, .float .f64 y.me] 55)).heap.size 2 i0 (.int .i64 0) 8 Try.underlying52 hi hz0 hz1 hz2 rfl _ 0 [] rfl (nil_row _ _ _) (some ⟨c', 0, none⟩) nc nc (i64s y.cs).toList rfl HG.out.2.2 HG.out.1 HG.out.2.1 (fun h => by cases h) ?_ ?_ (Nat.le_refl _) ?_))
      · unfold maxLen; omega
      · omega
      · intro v1 w1 hown hgr hblk
        have HO := Lib.hid (And.intro hown ((Below.refl _ _).grown hgr (Nat.le_refl _) (by intro k hk; cases hk)))
        clear hown hgr hblk
        obtain ⟨b6, cap, rfl, hb6, hrow⟩ := rowi_of HO.out.1 hcpos
        have H4 := Lib.hid (And.intro (H2'.out.1.keep HO.out.2) (And.intro (H2'.out.2.1.trans (HO.out.2.mono H2'.out.2.1.size)) (And.intro ((HO.out.2.block b5 hb5).trans H2'.out.2.2) (And.intro hrow (And.intro HN.out HCN.out)))))
        have hb6c : b6 ≠ c := by omega
        have hb6g : b6 ≠ g := by omega
        have hb5c : b5 ≠ c := by omega
        clear hrow HG H2' HO p1' p2 p3 p4 p5 p6 hz2' q0 p0
        go_wp2_with fail
        go_loopg [8] nc (fun gq i wr => ∃ k : Nat, ∃ cs' : List Int, gq + k = nc ∧ i = .int .i64 (k : Int) ∧ Hid (RAt wr g base ob cb c { x with cs := cs' } ∧ cs'.length = nc ∧ (∀ i, i < k → cs'.getD i 0 = x.cs.getD i 0 + y.cs.getD i 0) ∧ (∀ i, k ≤ i → cs'.getD i 0 = x.cs.getD i 0) ∧ Keep (· = c) w1 wr))
        case atStart => exact ⟨0, x.cs, by omega, rfl, ⟨H4.out.1, by rw [HF.out.2.2.2.2.1], fun i hi => absurd hi (by omega), fun i _ => rfl, Keep.refl _ _⟩⟩
        case round =>
          obtain ⟨k, cs', hgk, rfl, HK⟩ := hrel
          by_cases hk : k < nc
          · have hv6 := (HK.out.2.2.2.2.cell (cell_in (H4.out.2.2.2.1 k _ ((Array.getElem?_toList (xs := i64s y.cs)).trans (i64s_get y.cs k (by rw [HCN.out]; exact hk))))) (by show ¬ b6 = c; omega)).trans (H4.out.2.2.2.1 k _ ((Array.getElem?_toList (xs := i64s y.cs)).trans (i64s_get y.cs k (by rw [HCN.out]; exact hk))))
            have hlk : k < cs'.length := by rw [HK.out.2.1]; exact hk
            have hck := (blk_cell HK.out.1.cls k).trans (i64s_get cs' k hlk)
            have hfk := blk_free HK.out.1.cls k
            have hq2 := (rcell_facts HK.out.1).2.1
            have ea : cs'.getD k 0 = x.cs.getD k 0 := HK.out.2.2.2.1 k (Nat.le_refl _)
            have hca := HF.out.2.2.2.2.2.1.c k
            have hcb := HF.out.2.2.2.2.2.2.c k
            have hset := HK.out.1.setC k (x.cs.getD k 0 + y.cs.getD k 0)
            have HS := Lib.hid (And.intro hset (And.intro hlk (rfl : x.cs.getD k 0 + y.cs.getD k 0 = x.cs.getD k 0 + y.cs.getD k 0)))
            replace hck : wr.cell? ⟨c, k, none⟩ = some (.int .i64 (x.cs.getD k 0)) := hck.trans (by show some (Value.int .i64 (cs'.getD k 0)) = _; rw [ea])
            have hq2' : wr.cell? ⟨g, 1, none⟩ = some (.slice (some ⟨c, 0, none⟩) nc nc) := hq2.trans (by show some (Value.slice _ cs'.length cs'.length) = _; rw [HK.out.2.1])
            clear hset hlk hq2 ea
            generalize ha : x.cs.getD k 0 = a at *
            generalize hb : y.cs.getD k 0 = b at *
            have HAB := Lib.hid (And.intro ha hb)
            clear ha hb
            go_wp2_with fail
            go_region
            all_goals go_wp2_with fail
            all_goals go_roundg (gk - 1)
            case measure => omega
            case rel =>
              refine ⟨k + 1, cs'.set k (a + b), by omega, rfl, HS.out.1.1.drew, by rw [List.length_set]; exact HK.out.2.1, fun i hi => ?_, fun i hi => ?_, HK.out.2.2.2.2.trans HS.out.1.2.drew⟩
              · rw [List.getD_eq_getElem?_getD, List.getElem?_set]
                by_cases hik : k = i
                · subst hik
                  rw [if_pos rfl, if_pos HS.out.2.1, HAB.out.1, HAB.out.2]
                  rfl
                · rw [if_neg hik, ← List.getD_eq_getElem?_getD]
                  exact HK.out.2.2.1 i (by omega)
              · rw [List.getD_eq_getElem?_getD, List.getElem?_set, if_neg (by omega), ← List.getD_eq_getElem?_getD]
                exact HK.out.2.2.2.1 i (by omega)
          · have hkn : k = nc := by omega
            have hcs : cs' = addC x.cs y.cs := addC_of (by rw [HK.out.2.1, HF.out.2.2.2.2.1]) (by rw [HCN.out, HF.out.2.2.2.2.1]) (fun i hi => HK.out.2.2.1 i (by rw [← HF.out.2.2.2.2.1] at hi; omega))
            have hg5 := HK.out.1
            rw [hcs] at hg5
            have hyb : wr.heap[b5]? = some (.cells (lcells y) 55 (0, 0)) := HK.out.2.2.2.2.same H4.out.2.2.1 (by omega)
            have y0 : wr.cell? ⟨b5, 0, none⟩ = some (.int .i64 y.n) := blk_cell hyb 0
            have y1 : wr.cell? ⟨b5, 1, none⟩ = some (.int .i64 y.nn) := blk_cell hyb 1
            have y2 : wr.cell? ⟨b5, 2, none⟩ = some (.float .f64 y.le) := blk_cell hyb 2
            have y3 : wr.cell? ⟨b5, 3, none⟩ = some (.float .f64 y.gr) := blk_cell hyb 3
            have y4 : wr.cell? ⟨b5, 4, none⟩ = some (.float .f64 y.me) := blk_cell hyb 4
            have y1f := blk_free hyb 1
            have k5 : Keep (fun b => b = g ∨ b = c) w wr := ((Keep.of_below H4.out.2.1).mono fun _ _ h => h.elim).trans (HK.out.2.2.2.2.mono fun _ _ h => Or.inr h)
            obtain ⟨X, hX⟩ : ∃ X : G, { x with cs := addC x.cs y.cs } = X := ⟨_, rfl⟩
            rw [hX] at hg5
            have hXn : X.n = x.n := by rw [← hX]
            have hXnn : X.nn = x.nn := by rw [← hX]
            have hXme : X.me = x.me := by rw [← hX]
            have HM0 : RowKit.Hid (y.n = 0 → mergeG x y = { X with nn := x.nn + y.nn }) := Lib.hid fun h => by
              rw [← hX]; simp [mergeG, meanG, h]
            have HM1 : RowKit.Hid (y.n ≠ 0 → x.n = 0 → mergeG x y = { X with n := y.n, nn := x.nn + y.nn, le := y.le, gr := y.gr, me := y.me }) := Lib.hid fun h h' => by
              have h2 : 0 < y.n := by omega
              rw [← hX]; simp [mergeG, meanG, widenS, h, h', h2]
            have HM2 : RowKit.Hid (y.n ≠ 0 → x.n ≠ 0 → mergeG x y = { X with n := x.n + y.n, nn := x.nn + y.nn, le := if cmpF y.le X.le < 0 then y.le else X.le, gr := if 0 < cmpF y.gr X.gr then y.gr else X.gr, me := canonF (opF .add X.me (opF .mul (opF .sub y.me X.me) (opF .quo (floatOfInt .f64 y.n) (floatOfInt .f64 (x.n + y.n))))) }) := Lib.hid fun h h' => by
              have h2 : 0 < y.n := by omega
              rw [← hX]; simp [mergeG, meanG, widenS, h, h', h2]
            have HXB : RowKit.Hid (X.bs.length = x.bs.length) := Lib.hid (by rw [← hX])
            have H5 := Lib.hid (And.intro hg5 (And.intro hyb (And.intro k5 (And.intro hX hXme))))
            have HYL := Lib.hid (And.intro HF.out.2.1.le64 (And.intro HF.out.2.1.gr64 (And.intro hg5.le64 hg5.gr64)))
            clear hcs hyb k5 hX hXme HK
            generalize x.n = xn at *
            generalize x.nn = xnn at *
            obtain ⟨-, -, -, g3, g4, g5, g6⟩ := rcell_facts hg5
            have gf3 := blk_free hg5.row 3
            rw [hXnn] at g3
            have hwr : IntKind.i64.wrap (xnn + y.nn) = xnn + y.nn := IntWalk.i64_in _ ⟨by omega, by omega⟩
            have hwrn : IntKind.i64.wrap (xn + y.n) = xn + y.n := IntWalk.i64_in _ ⟨by omega, by omega⟩
            by_cases hy0 : y.n = 0
            · have e0 : (y.n == 0) = true := by simpa using hy0
              have hw1 : (wr.setCell ⟨g, 3, none⟩ (.int .i64 (xnn + y.nn))).heap[g]? = some (.cells (rcells ob cb c ({ X with nn := xnn + y.nn } : G)) 69 (0, 0)) := blk_set hg5.row 3 _
              have kk1 := Keep.setCell (bs := (· = g)) (Keep.refl _ wr) (p := ⟨g, 3, none⟩) (Or.inl rfl) (.int .i64 (xnn + y.nn))
              have hy1 : (wr.setCell ⟨g, 3, none⟩ (.int .i64 (xnn + y.nn))).heap[b5]? = some (.cells (lcells y) 55 (0, 0)) := kk1.same H5.out.2.1 hb5g
              have c1_2 : (wr.setCell ⟨g, 3, none⟩ (.int .i64 (xnn + y.nn))).cell? ⟨g, 2, none⟩ = some (.int .i64 xn) := (by rw [← hXn]; exact (blk_cell hw1 2))
              have f1_2 := blk_free hw1 2
              have c1_4 : (wr.setCell ⟨g, 3, none⟩ (.int .i64 (xnn + y.nn))).cell? ⟨g, 4, none⟩ = some (.float .f64 X.le) := (blk_cell hw1 4)
              have f1_4 := blk_free hw1 4
              have c1_5 : (wr.setCell ⟨g, 3, none⟩ (.int .i64 (xnn + y.nn))).cell? ⟨g, 5, none⟩ = some (.float .f64 X.gr) := (blk_cell hw1 5)
              have f1_5 := blk_free hw1 5
              have c1_6 : (wr.setCell ⟨g, 3, none⟩ (.int .i64 (xnn + y.nn))).cell? ⟨g, 6, none⟩ = some (.float .f64 X.me) := (blk_cell hw1 6)
              have f1_6 := blk_free hw1 6
              have d1_0 : (wr.setCell ⟨g, 3, none⟩ (.int .i64 (xnn + y.nn))).cell? ⟨b5, 0, none⟩ = some (.int .i64 y.n) := blk_cell hy1 0
              have d1_1 : (wr.setCell ⟨g, 3, none⟩ (.int .i64 (xnn + y.nn))).cell? ⟨b5, 1, none⟩ = some (.int .i64 y.nn) := blk_cell hy1 1
              have d1_2 : (wr.setCell ⟨g, 3, none⟩ (.int .i64 (xnn + y.nn))).cell? ⟨b5, 2, none⟩ = some (.float .f64 y.le) := blk_cell hy1 2
              have d1_3 : (wr.setCell ⟨g, 3, none⟩ (.int .i64 (xnn + y.nn))).cell? ⟨b5, 3, none⟩ = some (.float .f64 y.gr) := blk_cell hy1 3
              have d1_4 : (wr.setCell ⟨g, 3, none⟩ (.int .i64 (xnn + y.nn))).cell? ⟨b5, 4, none⟩ = some (.float .f64 y.me) := blk_cell hy1 4
              have df1 := blk_free hy1 1
              have HEND := Lib.hid (And.intro kk1 (And.intro hw1 hy1))
              have HPX := Lib.hid (HM0.out hy0)
              clear hw1 kk1 hy1
              go_wp2_with fail
              go_region
              all_goals go_wp2_with fail
              all_goals go_ret
              all_goals refine ⟨rfl, ?_, ?_⟩
              · rw [HPX.out]
                exact H5.out.1.turn HEND.out.1.drew HEND.out.2.1 rfl rfl H5.out.1.le64 H5.out.1.gr64
              · exact H5.out.2.2.1.trans (HEND.out.1.drew.mono fun _ _ h => Or.inl h)
            · have e0 : (y.n == 0) = false := by simpa using hy0
              by_cases hx0 : xn = 0
              · have e1 : (xn == 0) = true := by simpa using hx0
                have hw1 : (wr.setCell ⟨g, 3, none⟩ (.int .i64 (xnn + y.nn))).heap[g]? = some (.cells (rcells ob cb c ({ X with nn := xnn + y.nn } : G)) 69 (0, 0)) := blk_set hg5.row 3 _
                have kk1 := Keep.setCell (bs := (· = g)) (Keep.refl _ wr) (p := ⟨g, 3, none⟩) (Or.inl rfl) (.int .i64 (xnn + y.nn))
                have hy1 : (wr.setCell ⟨g, 3, none⟩ (.int .i64 (xnn + y.nn))).heap[b5]? = some (.cells (lcells y) 55 (0, 0)) := kk1.same H5.out.2.1 hb5g
                have c1_2 : (wr.setCell ⟨g, 3, none⟩ (.int .i64 (xnn + y.nn))).cell? ⟨g, 2, none⟩ = some (.int .i64 xn) := (by rw [← hXn]; exact (blk_cell hw1 2))
                have f1_2 := blk_free hw1 2
                have c1_4 : (wr.setCell ⟨g, 3, none⟩ (.int .i64 (xnn + y.nn))).cell? ⟨g, 4, none⟩ = some (.float .f64 X.le) := (blk_cell hw1 4)
                have f1_4 := blk_free hw1 4
                have c1_5 : (wr.setCell ⟨g, 3, none⟩ (.int .i64 (xnn + y.nn))).cell? ⟨g, 5, none⟩ = some (.float .f64 X.gr) := (blk_cell hw1 5)
                have f1_5 := blk_free hw1 5
                have c1_6 : (wr.setCell ⟨g, 3, none⟩ (.int .i64 (xnn + y.nn))).cell? ⟨g, 6, none⟩ = some (.float .f64 X.me) := (blk_cell hw1 6)
                have f1_6 := blk_free hw1 6
                have d1_0 : (wr.setCell ⟨g, 3, none⟩ (.int .i64 (xnn + y.nn))).cell? ⟨b5, 0, none⟩ = some (.int .i64 y.n) := blk_cell hy1 0
                have d1_1 : (wr.setCell ⟨g, 3, none⟩ (.int .i64 (xnn + y.nn))).cell? ⟨b5, 1, none⟩ = some (.int .i64 y.nn) := blk_cell hy1 1
                have d1_2 : (wr.setCell ⟨g, 3, none⟩ (.int .i64 (xnn + y.nn))).cell? ⟨b5, 2, none⟩ = some (.float .f64 y.le) := blk_cell hy1 2
                have d1_3 : (wr.setCell ⟨g, 3, none⟩ (.int .i64 (xnn + y.nn))).cell? ⟨b5, 3, none⟩ = some (.float .f64 y.gr) := blk_cell hy1 3
                have d1_4 : (wr.setCell ⟨g, 3, none⟩ (.int .i64 (xnn + y.nn))).cell? ⟨b5, 4, none⟩ = some (.float .f64 y.me) := blk_cell hy1 4
                have df1 := blk_free hy1 1
                have HEND := Lib.hid (And.intro kk1 (And.intro hw1 hy1))
                have hw2 : ((wr.setCell ⟨g, 3, none⟩ (.int .i64 (xnn + y.nn))).setCell ⟨b5, 1, none⟩ (.int .i64 (xnn + y.nn))).heap[g]? = some (.cells (rcells ob cb c ({ X with nn := xnn + y.nn } : G)) 69 (0, 0)) := (Keep.setCell (bs := (· = b5)) (Keep.refl _ (wr.setCell ⟨g, 3, none⟩ (.int .i64 (xnn + y.nn)))) (p := ⟨b5, 1, none⟩) (Or.inl rfl) (.int .i64 (xnn + y.nn))).same hw1 (fun e => hb5g e.symm)
                have hy2 : ((wr.setCell ⟨g, 3, none⟩ (.int .i64 (xnn + y.nn))).setCell ⟨b5, 1, none⟩ (.int .i64 (xnn + y.nn))).heap[b5]? = some (.cells (lcells ({ y with nn := xnn + y.nn } : G)) 55 (0, 0)) := blk_set hy1 1 _
                have hk2 : Keep (fun b => b = g ∨ b = c) w ((wr.setCell ⟨g, 3, none⟩ (.int .i64 (xnn + y.nn))).setCell ⟨b5, 1, none⟩ (.int .i64 (xnn + y.nn))) := ((H5.out.2.2.1).setCell (p := ⟨g, 3, none⟩) (Or.inl (Or.inl rfl)) _).setCell (p := ⟨b5, 1, none⟩) (Or.inr hwb5) _
                have hra : RAt (wr.setCell ⟨g, 3, none⟩ (.int .i64 (xnn + y.nn))) g base ob cb c ({ X with nn := xnn + y.nn } : G) := H5.out.1.turn kk1 hw1 rfl rfl H5.out.1.le64 H5.out.1.gr64
                have hrb : RAt ((wr.setCell ⟨g, 3, none⟩ (.int .i64 (xnn + y.nn))).setCell ⟨b5, 1, none⟩ (.int .i64 (xnn + y.nn))) g base ob cb c ({ X with nn := xnn + y.nn } : G) := hra.beside (Keep.setCell (bs := (· = b5)) (Keep.refl _ (wr.setCell ⟨g, 3, none⟩ (.int .i64 (xnn + y.nn)))) (p := ⟨b5, 1, none⟩) (Or.inl rfl) (.int .i64 (xnn + y.nn))) (fun e => hb5g e.symm) (fun e => hb5c e.symm) (fun h0 ad e => by have := HF.out.1.below ad e (by rw [← HXB.out]; exact h0); omega)
                have m2 : ((wr.setCell ⟨g, 3, none⟩ (.int .i64 (xnn + y.nn))).setCell ⟨b5, 1, none⟩ (.int .i64 (xnn + y.nn))).cell? ⟨g, 2, none⟩ = some (.int .i64 xn) := (by rw [← hXn]; exact (blk_cell hw2 2))
                have mf2 := blk_free hw2 2
                have m3 : ((wr.setCell ⟨g, 3, none⟩ (.int .i64 (xnn + y.nn))).setCell ⟨b5, 1, none⟩ (.int .i64 (xnn + y.nn))).cell? ⟨g, 3, none⟩ = some (.int .i64 (xnn + y.nn)) := (blk_cell hw2 3)
                have mf3 := blk_free hw2 3
                have m4 : ((wr.setCell ⟨g, 3, none⟩ (.int .i64 (xnn + y.nn))).setCell ⟨b5, 1, none⟩ (.int .i64 (xnn + y.nn))).cell? ⟨g, 4, none⟩ = some (.float .f64 X.le) := (blk_cell hw2 4)
                have mf4 := blk_free hw2 4
                have m5 : ((wr.setCell ⟨g, 3, none⟩ (.int .i64 (xnn + y.nn))).setCell ⟨b5, 1, none⟩ (.int .i64 (xnn + y.nn))).cell? ⟨g, 5, none⟩ = some (.float .f64 X.gr) := (blk_cell hw2 5)
                have mf5 := blk_free hw2 5
                have m6 : ((wr.setCell ⟨g, 3, none⟩ (.int .i64 (xnn + y.nn))).setCell ⟨b5, 1, none⟩ (.int .i64 (xnn + y.nn))).cell? ⟨g, 6, none⟩ = some (.float .f64 X.me) := (blk_cell hw2 6)
                have mf6 := blk_free hw2 6
                have md0 : ((wr.setCell ⟨g, 3, none⟩ (.int .i64 (xnn + y.nn))).setCell ⟨b5, 1, none⟩ (.int .i64 (xnn + y.nn))).cell? ⟨b5, 0, none⟩ = some (.int .i64 y.n) := blk_cell hy2 0
                have md1 : ((wr.setCell ⟨g, 3, none⟩ (.int .i64 (xnn + y.nn))).setCell ⟨b5, 1, none⟩ (.int .i64 (xnn + y.nn))).cell? ⟨b5, 1, none⟩ = some (.int .i64 (xnn + y.nn)) := blk_cell hy2 1
                have md2 : ((wr.setCell ⟨g, 3, none⟩ (.int .i64 (xnn + y.nn))).setCell ⟨b5, 1, none⟩ (.int .i64 (xnn + y.nn))).cell? ⟨b5, 2, none⟩ = some (.float .f64 y.le) := blk_cell hy2 2
                have md3 : ((wr.setCell ⟨g, 3, none⟩ (.int .i64 (xnn + y.nn))).setCell ⟨b5, 1, none⟩ (.int .i64 (xnn + y.nn))).cell? ⟨b5, 3, none⟩ = some (.float .f64 y.gr) := blk_cell hy2 3
                have md4 : ((wr.setCell ⟨g, 3, none⟩ (.int .i64 (xnn + y.nn))).setCell ⟨b5, 1, none⟩ (.int .i64 (xnn + y.nn))).cell? ⟨b5, 4, none⟩ = some (.float .f64 y.me) := blk_cell hy2 4
                have HE := Lib.hid (And.intro hk2 hrb)
                have HPX := Lib.hid (HM1.out hy0 hx0)
                clear hw1 kk1 hy1 hw2 hy2 hk2 hra hrb
                go_wp2_with fail
                go_region
                all_goals go_wp2_with fail
                go_ret
                clear m2 m3 m4 m5 m6 mf2 mf3 mf4 mf5 mf6 md0 md1 md2 md3 md4
                skip
                generalize ((wr.setCell ⟨g, 3, none⟩ (.int .i64 (xnn + y.nn))).setCell ⟨b5, 1, none⟩ (.int .i64 (xnn + y.nn))) = V at *
                have hk := HE.out.1
                have hr := HE.out.2
                have v2 : (V.setCell ⟨g, 2, none⟩ (.int .i64 y.n)).heap[g]? = some (.cells (rcells ob cb c ({ X with n := y.n, nn := xnn + y.nn } : G)) 69 (0, 0)) := blk_set hr.row 2 _
                have k2 : Keep (fun b => b = g ∨ b = c) w (V.setCell ⟨g, 2, none⟩ (.int .i64 y.n)) := Keep.setCell hk (p := ⟨g, 2, none⟩) (Or.inl (Or.inl rfl)) _
                have q2 : Keep (· = g) V (V.setCell ⟨g, 2, none⟩ (.int .i64 y.n)) := Keep.setCell (Keep.refl (· = g) V) (p := ⟨g, 2, none⟩) (Or.inl rfl) _
                have v3 : ((V.setCell ⟨g, 2, none⟩ (.int .i64 y.n)).setCell ⟨g, 3, none⟩ (.int .i64 (xnn + y.nn))).heap[g]? = some (.cells (rcells ob cb c ({ X with n := y.n, nn := xnn + y.nn } : G)) 69 (0, 0)) := blk_set v2 3 _
                have k3 : Keep (fun b => b = g ∨ b = c) w ((V.setCell ⟨g, 2, none⟩ (.int .i64 y.n)).setCell ⟨g, 3, none⟩ (.int .i64 (xnn + y.nn))) := Keep.setCell k2 (p := ⟨g, 3, none⟩) (Or.inl (Or.inl rfl)) _
                have q3 : Keep (· = g) V ((V.setCell ⟨g, 2, none⟩ (.int .i64 y.n)).setCell ⟨g, 3, none⟩ (.int .i64 (xnn + y.nn))) := Keep.setCell q2 (p := ⟨g, 3, none⟩) (Or.inl rfl) _
                have v4 : (((V.setCell ⟨g, 2, none⟩ (.int .i64 y.n)).setCell ⟨g, 3, none⟩ (.int .i64 (xnn + y.nn))).setCell ⟨g, 4, none⟩ (.float .f64 y.le)).heap[g]? = some (.cells (rcells ob cb c ({ X with n := y.n, nn := xnn + y.nn, le := y.le } : G)) 69 (0, 0)) := blk_set v3 4 _
                have k4 : Keep (fun b => b = g ∨ b = c) w (((V.setCell ⟨g, 2, none⟩ (.int .i64 y.n)).setCell ⟨g, 3, none⟩ (.int .i64 (xnn + y.nn))).setCell ⟨g, 4, none⟩ (.float .f64 y.le)) := Keep.setCell k3 (p := ⟨g, 4, none⟩) (Or.inl (Or.inl rfl)) _
                have q4 : Keep (· = g) V (((V.setCell ⟨g, 2, none⟩ (.int .i64 y.n)).setCell ⟨g, 3, none⟩ (.int .i64 (xnn + y.nn))).setCell ⟨g, 4, none⟩ (.float .f64 y.le)) := Keep.setCell q3 (p := ⟨g, 4, none⟩) (Or.inl rfl) _
                have v5 : ((((V.setCell ⟨g, 2, none⟩ (.int .i64 y.n)).setCell ⟨g, 3, none⟩ (.int .i64 (xnn + y.nn))).setCell ⟨g, 4, none⟩ (.float .f64 y.le)).setCell ⟨g, 5, none⟩ (.float .f64 y.gr)).heap[g]? = some (.cells (rcells ob cb c ({ X with n := y.n, nn := xnn + y.nn, le := y.le, gr := y.gr } : G)) 69 (0, 0)) := blk_set v4 5 _
                have k5 : Keep (fun b => b = g ∨ b = c) w ((((V.setCell ⟨g, 2, none⟩ (.int .i64 y.n)).setCell ⟨g, 3, none⟩ (.int .i64 (xnn + y.nn))).setCell ⟨g, 4, none⟩ (.float .f64 y.le)).setCell ⟨g, 5, none⟩ (.float .f64 y.gr)) := Keep.setCell k4 (p := ⟨g, 5, none⟩) (Or.inl (Or.inl rfl)) _
                have q5 : Keep (· = g) V ((((V.setCell ⟨g, 2, none⟩ (.int .i64 y.n)).setCell ⟨g, 3, none⟩ (.int .i64 (xnn + y.nn))).setCell ⟨g, 4, none⟩ (.float .f64 y.le)).setCell ⟨g, 5, none⟩ (.float .f64 y.gr)) := Keep.setCell q4 (p := ⟨g, 5, none⟩) (Or.inl rfl) _
                have v6 : (((((V.setCell ⟨g, 2, none⟩ (.int .i64 y.n)).setCell ⟨g, 3, none⟩ (.int .i64 (xnn + y.nn))).setCell ⟨g, 4, none⟩ (.float .f64 y.le)).setCell ⟨g, 5, none⟩ (.float .f64 y.gr)).setCell ⟨g, 6, none⟩ (.float .f64 y.me)).heap[g]? = some (.cells (rcells ob cb c ({ X with n := y.n, nn := xnn + y.nn, le := y.le, gr := y.gr, me := y.me } : G)) 69 (0, 0)) := blk_set v5 6 _
                have k6 : Keep (fun b => b = g ∨ b = c) w (((((V.setCell ⟨g, 2, none⟩ (.int .i64 y.n)).setCell ⟨g, 3, none⟩ (.int .i64 (xnn + y.nn))).setCell ⟨g, 4, none⟩ (.float .f64 y.le)).setCell ⟨g, 5, none⟩ (.float .f64 y.gr)).setCell ⟨g, 6, none⟩ (.float .f64 y.me)) := Keep.setCell k5 (p := ⟨g, 6, none⟩) (Or.inl (Or.inl rfl)) _
                have q6 : Keep (· = g) V (((((V.setCell ⟨g, 2, none⟩ (.int .i64 y.n)).setCell ⟨g, 3, none⟩ (.int .i64 (xnn + y.nn))).setCell ⟨g, 4, none⟩ (.float .f64 y.le)).setCell ⟨g, 5, none⟩ (.float .f64 y.gr)).setCell ⟨g, 6, none⟩ (.float .f64 y.me)) := Keep.setCell q5 (p := ⟨g, 6, none⟩) (Or.inl rfl) _
                have hfin : RAt (((((V.setCell ⟨g, 2, none⟩ (.int .i64 y.n)).setCell ⟨g, 3, none⟩ (.int .i64 (xnn + y.nn))).setCell ⟨g, 4, none⟩ (.float .f64 y.le)).setCell ⟨g, 5, none⟩ (.float .f64 y.gr)).setCell ⟨g, 6, none⟩ (.float .f64 y.me)) g base ob cb c ({ X with n := y.n, nn := xnn + y.nn, le := y.le, gr := y.gr, me := y.me } : G) := hr.turn q6 v6 rfl rfl HF.out.2.1.le64 HF.out.2.1.gr64
                refine ⟨rfl, ?_, k6.drew⟩
                rw [HPX.out]
                exact hfin.drew
              · have e1 : (xn == 0) = false := by simpa using hx0
                have HCL := Lib.hid (cmp3_any y.le X.le HYL.out.1 HYL.out.2.2.1)
                have HCG := Lib.hid (cmp3_any y.gr X.gr HYL.out.2.1 HYL.out.2.2.2)
                by_cases hL : cmpF y.le X.le < 0
                · by_cases hG : 0 < cmpF y.gr X.gr
                  · skip
                    have HPX : RowKit.Hid (mergeG x y = ({ X with n := xn + y.n, nn := xnn + y.nn, me := canonF (opF .add X.me (opF .mul (opF .sub y.me X.me) (opF .quo (floatOfInt .f64 y.n) (floatOfInt .f64 (xn + y.n))))), le := y.le, gr := y.gr } : G)) := Lib.hid (by rw [HM2.out hy0 hx0]; simp [hL, hG])
                    generalize cmpF y.le X.le = z1 at *
                    generalize cmpF y.gr X.gr = z2 at *
                    have d1 : decide (z1 < 0) = true := by simpa using hL
                    have d2 : decide (0 < z2) = true := by simpa using hG
                    have kk1 := Keep.setCell (bs := (· = g)) (Keep.refl _ wr) (p := ⟨g, 3, none⟩) (Or.inl rfl) (.int .i64 (xnn + y.nn))
                    have hr1 : (wr.setCell ⟨g, 3, none⟩ (.int .i64 (xnn + y.nn))).heap[g]? = some (.cells (rcells ob cb c ({ X with nn := xnn + y.nn } : G)) 69 (0, 0)) := blk_set hg5.row 3 _
                    have HS0 := Lib.hid (And.intro kk1 (And.intro hr1 (kk1.same H5.out.2.1 hb5g)))
                    clear kk1 hr1
                    go_wp2_with fail
                    go_region
                    generalize hW1 : (wr.setCell ⟨g, 3, none⟩ (.int .i64 (xnn + y.nn))).drew = W1
                    have kW1 : Keep (· = g) wr W1 := by rw [← hW1]; exact HS0.out.1.drew
                    have rW1 : W1.heap[g]? = some (.cells (rcells ob cb c ({ X with nn := xnn + y.nn } : G)) 69 (0, 0)) := by rw [← hW1]; exact HS0.out.2.1
                    have yW1 : W1.heap[b5]? = some (.cells (lcells y) 55 (0, 0)) := by rw [← hW1]; exact HS0.out.2.2
                    clear g3 g4 g5 g6 gf3 y0 y1 y2 y3 y4 y1f
                    have g2 : W1.cell? ⟨g, 2, none⟩ = some (.int .i64 xn) := (by rw [← hXn]; exact (blk_cell rW1 2))
                    have gf2 := blk_free rW1 2
                    have g3 : W1.cell? ⟨g, 3, none⟩ = some (.int .i64 (xnn + y.nn)) := (blk_cell rW1 3)
                    have gf3 := blk_free rW1 3
                    have g4 : W1.cell? ⟨g, 4, none⟩ = some (.float .f64 X.le) := (blk_cell rW1 4)
                    have gf4 := blk_free rW1 4
                    have g5 : W1.cell? ⟨g, 5, none⟩ = some (.float .f64 X.gr) := (blk_cell rW1 5)
                    have gf5 := blk_free rW1 5
                    have g6 : W1.cell? ⟨g, 6, none⟩ = some (.float .f64 X.me) := (blk_cell rW1 6)
                    have gf6 := blk_free rW1 6
                    have y0 : W1.cell? ⟨b5, 0, none⟩ = some (.int .i64 y.n) := blk_cell yW1 0
                    have y1 : W1.cell? ⟨b5, 1, none⟩ = some (.int .i64 y.nn) := blk_cell yW1 1
                    have y2 : W1.cell? ⟨b5, 2, none⟩ = some (.float .f64 y.le) := blk_cell yW1 2
                    have y3 : W1.cell? ⟨b5, 3, none⟩ = some (.float .f64 y.gr) := blk_cell yW1 3
                    have y4 : W1.cell? ⟨b5, 4, none⟩ = some (.float .f64 y.me) := blk_cell yW1 4
                    have HW1 := Lib.hid (And.intro kW1 (And.intro rW1 yW1))
                    clear hW1 kW1 rW1 yW1
                    go_wp2_with fail
                    go_quiet ((go_at_call 27; exact Calls.quiet_of_same ((HCL.out _).mono fun _ _ ⟨he, hw⟩ => ⟨he, hw.symm⟩)))
                    generalize hW2 : W1.drewN nq = W2
                    have kW2 : Keep (· = g) wr W2 := by rw [← hW2]; exact HW1.out.1.drewN nq
                    have rW2 : W2.heap[g]? = some (.cells (rcells ob cb c ({ X with nn := xnn + y.nn } : G)) 69 (0, 0)) := by rw [← hW2]; exact HW1.out.2.1
                    have yW2 : W2.heap[b5]? = some (.cells (lcells y) 55 (0, 0)) := by rw [← hW2]; exact HW1.out.2.2
                    replace g2 : W2.cell? ⟨g, 2, none⟩ = some (.int .i64 xn) := (by rw [← hXn]; exact (blk_cell rW2 2))
                    replace gf2 := blk_free rW2 2
                    replace g3 : W2.cell? ⟨g, 3, none⟩ = some (.int .i64 (xnn + y.nn)) := (blk_cell rW2 3)
                    replace gf3 := blk_free rW2 3
                    replace g4 : W2.cell? ⟨g, 4, none⟩ = some (.float .f64 X.le) := (blk_cell rW2 4)
                    replace gf4 := blk_free rW2 4
                    replace g5 : W2.cell? ⟨g, 5, none⟩ = some (.float .f64 X.gr) := (blk_cell rW2 5)
                    replace gf5 := blk_free rW2 5
                    replace g6 : W2.cell? ⟨g, 6, none⟩ = some (.float .f64 X.me) := (blk_cell rW2 6)
                    replace gf6 := blk_free rW2 6
                    replace y0 : W2.cell? ⟨b5, 0, none⟩ = some (.int .i64 y.n) := blk_cell yW2 0
                    replace y1 : W2.cell? ⟨b5, 1, none⟩ = some (.int .i64 y.nn) := blk_cell yW2 1
                    replace y2 : W2.cell? ⟨b5, 2, none⟩ = some (.float .f64 y.le) := blk_cell yW2 2
                    replace y3 : W2.cell? ⟨b5, 3, none⟩ = some (.float .f64 y.gr) := blk_cell yW2 3
                    replace y4 : W2.cell? ⟨b5, 4, none⟩ = some (.float .f64 y.me) := blk_cell yW2 4
                    have HW2 := Lib.hid (And.intro kW2 (And.intro rW2 yW2))
                    clear hW2 kW2 rW2 yW2 HW1
                    go_wp2_with fail
                    generalize hW3 : W2.setCell ⟨g, 4, none⟩ (.float .f64 y.le) = W3
                    have kW3 : Keep (· = g) wr W3 := by rw [← hW3]; exact HW2.out.1.setCell (p := ⟨g, 4, none⟩) (Or.inl rfl) _
                    have rW3 : W3.heap[g]? = some (.cells (rcells ob cb c ({ X with nn := xnn + y.nn, le := y.le } : G)) 69 (0, 0)) := by rw [← hW3]; exact blk_set HW2.out.2.1 4 _
                    have yW3 : W3.heap[b5]? = some (.cells (lcells y) 55 (0, 0)) := by rw [← hW3]; exact (Keep.setCell (bs := (· = g)) (Keep.refl _ W2) (p := ⟨g, 4, none⟩) (Or.inl rfl) (.float .f64 y.le)).same HW2.out.2.2 hb5g
                    replace g2 : W3.cell? ⟨g, 2, none⟩ = some (.int .i64 xn) := (by rw [← hXn]; exact (blk_cell rW3 2))
                    replace gf2 := blk_free rW3 2
                    replace g3 : W3.cell? ⟨g, 3, none⟩ = some (.int .i64 (xnn + y.nn)) := (blk_cell rW3 3)
                    replace gf3 := blk_free rW3 3
                    replace g4 : W3.cell? ⟨g, 4, none⟩ = some (.float .f64 y.le) := (blk_cell rW3 4)
                    replace gf4 := blk_free rW3 4
                    replace g5 : W3.cell? ⟨g, 5, none⟩ = some (.float .f64 X.gr) := (blk_cell rW3 5)
                    replace gf5 := blk_free rW3 5
                    replace g6 : W3.cell? ⟨g, 6, none⟩ = some (.float .f64 X.me) := (blk_cell rW3 6)
                    replace gf6 := blk_free rW3 6
                    replace y0 : W3.cell? ⟨b5, 0, none⟩ = some (.int .i64 y.n) := blk_cell yW3 0
                    replace y1 : W3.cell? ⟨b5, 1, none⟩ = some (.int .i64 y.nn) := blk_cell yW3 1
                    replace y2 : W3.cell? ⟨b5, 2, none⟩ = some (.float .f64 y.le) := blk_cell yW3 2
                    replace y3 : W3.cell? ⟨b5, 3, none⟩ = some (.float .f64 y.gr) := blk_cell yW3 3
                    replace y4 : W3.cell? ⟨b5, 4, none⟩ = some (.float .f64 y.me) := blk_cell yW3 4
                    have HW3 := Lib.hid (And.intro kW3 (And.intro rW3 yW3))
                    clear hW3 kW3 rW3 yW3 HW2
                    go_quiet ((go_at_call 27; exact Calls.quiet_of_same ((HCG.out _).mono fun _ _ ⟨he, hw⟩ => ⟨he, hw.symm⟩)))
                    generalize hW4 : W3.drewN nq = W4
                    have kW4 : Keep (· = g) wr W4 := by rw [← hW4]; exact HW3.out.1.drewN nq
                    have rW4 : W4.heap[g]? = some (.cells (rcells ob cb c ({ X with nn := xnn + y.nn, le := y.le } : G)) 69 (0, 0)) := by rw [← hW4]; exact HW3.out.2.1
                    have yW4 : W4.heap[b5]? = some (.cells (lcells y) 55 (0, 0)) := by rw [← hW4]; exact HW3.out.2.2
                    replace g2 : W4.cell? ⟨g, 2, none⟩ = some (.int .i64 xn) := (by rw [← hXn]; exact (blk_cell rW4 2))
                    replace gf2 := blk_free rW4 2
                    replace g3 : W4.cell? ⟨g, 3, none⟩ = some (.int .i64 (xnn + y.nn)) := (blk_cell rW4 3)
                    replace gf3 := blk_free rW4 3
                    replace g4 : W4.cell? ⟨g, 4, none⟩ = some (.float .f64 y.le) := (blk_cell rW4 4)
                    replace gf4 := blk_free rW4 4
                    replace g5 : W4.cell? ⟨g, 5, none⟩ = some (.float .f64 X.gr) := (blk_cell rW4 5)
                    replace gf5 := blk_free rW4 5
                    replace g6 : W4.cell? ⟨g, 6, none⟩ = some (.float .f64 X.me) := (blk_cell rW4 6)
                    replace gf6 := blk_free rW4 6
                    replace y0 : W4.cell? ⟨b5, 0, none⟩ = some (.int .i64 y.n) := blk_cell yW4 0
                    replace y1 : W4.cell? ⟨b5, 1, none⟩ = some (.int .i64 y.nn) := blk_cell yW4 1
                    replace y2 : W4.cell? ⟨b5, 2, none⟩ = some (.float .f64 y.le) := blk_cell yW4 2
                    replace y3 : W4.cell? ⟨b5, 3, none⟩ = some (.float .f64 y.gr) := blk_cell yW4 3
                    replace y4 : W4.cell? ⟨b5, 4, none⟩ = some (.float .f64 y.me) := blk_cell yW4 4
                    have HW4 := Lib.hid (And.intro kW4 (And.intro rW4 yW4))
                    clear hW4 kW4 rW4 yW4 HW3
                    go_wp2_with fail
                    generalize hW5 : W4.setCell ⟨g, 5, none⟩ (.float .f64 y.gr) = W5
                    have kW5 : Keep (· = g) wr W5 := by rw [← hW5]; exact HW4.out.1.setCell (p := ⟨g, 5, none⟩) (Or.inl rfl) _
                    have rW5 : W5.heap[g]? = some (.cells (rcells ob cb c ({ X with nn := xnn + y.nn, le := y.le, gr := y.gr } : G)) 69 (0, 0)) := by rw [← hW5]; exact blk_set HW4.out.2.1 5 _
                    have yW5 : W5.heap[b5]? = some (.cells (lcells y) 55 (0, 0)) := by rw [← hW5]; exact (Keep.setCell (bs := (· = g)) (Keep.refl _ W4) (p := ⟨g, 5, none⟩) (Or.inl rfl) (.float .f64 y.gr)).same HW4.out.2.2 hb5g
                    replace g2 : W5.cell? ⟨g, 2, none⟩ = some (.int .i64 xn) := (by rw [← hXn]; exact (blk_cell rW5 2))
                    replace gf2 := blk_free rW5 2
                    replace g3 : W5.cell? ⟨g, 3, none⟩ = some (.int .i64 (xnn + y.nn)) := (blk_cell rW5 3)
                    replace gf3 := blk_free rW5 3
                    replace g4 : W5.cell? ⟨g, 4, none⟩ = some (.float .f64 y.le) := (blk_cell rW5 4)
                    replace gf4 := blk_free rW5 4
                    replace g5 : W5.cell? ⟨g, 5, none⟩ = some (.float .f64 y.gr) := (blk_cell rW5 5)
                    replace gf5 := blk_free rW5 5
                    replace g6 : W5.cell? ⟨g, 6, none⟩ = some (.float .f64 X.me) := (blk_cell rW5 6)
                    replace gf6 := blk_free rW5 6
                    replace y0 : W5.cell? ⟨b5, 0, none⟩ = some (.int .i64 y.n) := blk_cell yW5 0
                    replace y1 : W5.cell? ⟨b5, 1, none⟩ = some (.int .i64 y.nn) := blk_cell yW5 1
                    replace y2 : W5.cell? ⟨b5, 2, none⟩ = some (.float .f64 y.le) := blk_cell yW5 2
                    replace y3 : W5.cell? ⟨b5, 3, none⟩ = some (.float .f64 y.gr) := blk_cell yW5 3
                    replace y4 : W5.cell? ⟨b5, 4, none⟩ = some (.float .f64 y.me) := blk_cell yW5 4
                    have HW5 := Lib.hid (And.intro kW5 (And.intro rW5 yW5))
                    clear hW5 kW5 rW5 yW5 HW4
                    go_region
                    have HME := Lib.hid (fun w2 w3 w4 => mean_chain2 X.me y.me (floatOfInt .f64 y.n) (floatOfInt .f64 (xn + y.n)) W5.drew w2 w3 w4)
                    generalize canonF (opF .add X.me (opF .mul (opF .sub y.me X.me) (opF .quo (floatOfInt .f64 y.n) (floatOfInt .f64 (xn + y.n))))) = mv at *
                    generalize hdv : (opW .sub y.me X.me W5.drew).1 = dv at *
                    clear hdv
                    generalize hW6 : (opW .sub y.me X.me W5.drew).2 = W6
                    have kW6 : Keep (· = g) wr W6 := by rw [← hW6]; exact Keep_opw _ _ _ HW5.out.1.drew
                    have rW6 : W6.heap[g]? = some (.cells (rcells ob cb c ({ X with nn := xnn + y.nn, le := y.le, gr := y.gr } : G)) 69 (0, 0)) := by rw [← hW6, opW_heap]; exact HW5.out.2.1
                    have yW6 : W6.heap[b5]? = some (.cells (lcells y) 55 (0, 0)) := by rw [← hW6, opW_heap]; exact HW5.out.2.2
                    replace g2 : W6.cell? ⟨g, 2, none⟩ = some (.int .i64 xn) := (by rw [← hXn]; exact (blk_cell rW6 2))
                    replace gf2 := blk_free rW6 2
                    replace g3 : W6.cell? ⟨g, 3, none⟩ = some (.int .i64 (xnn + y.nn)) := (blk_cell rW6 3)
                    replace gf3 := blk_free rW6 3
                    replace g4 : W6.cell? ⟨g, 4, none⟩ = some (.float .f64 y.le) := (blk_cell rW6 4)
                    replace gf4 := blk_free rW6 4
                    replace g5 : W6.cell? ⟨g, 5, none⟩ = some (.float .f64 y.gr) := (blk_cell rW6 5)
                    replace gf5 := blk_free rW6 5
                    replace g6 : W6.cell? ⟨g, 6, none⟩ = some (.float .f64 X.me) := (blk_cell rW6 6)
                    replace gf6 := blk_free rW6 6
                    replace y0 : W6.cell? ⟨b5, 0, none⟩ = some (.int .i64 y.n) := blk_cell yW6 0
                    replace y1 : W6.cell? ⟨b5, 1, none⟩ = some (.int .i64 y.nn) := blk_cell yW6 1
                    replace y2 : W6.cell? ⟨b5, 2, none⟩ = some (.float .f64 y.le) := blk_cell yW6 2
                    replace y3 : W6.cell? ⟨b5, 3, none⟩ = some (.float .f64 y.gr) := blk_cell yW6 3
                    replace y4 : W6.cell? ⟨b5, 4, none⟩ = some (.float .f64 y.me) := blk_cell yW6 4
                    have HW6 := Lib.hid (And.intro kW6 (And.intro rW6 yW6))
                    clear hW6 kW6 rW6 yW6 HW5
                    go_wp2_with fail
                    go_region
                    have HME2 := Lib.hid (fun w3 w4 => HME.out W6.drew w3 w4)
                    clear HME
                    generalize hwv : (opW .quo (floatOfInt .f64 y.n) (floatOfInt .f64 (xn + y.n)) W6.drew).1 = wv at *
                    clear hwv
                    generalize hW7 : (opW .quo (floatOfInt .f64 y.n) (floatOfInt .f64 (xn + y.n)) W6.drew).2 = W7
                    have kW7 : Keep (· = g) wr W7 := by rw [← hW7]; exact Keep_opw _ _ _ HW6.out.1.drew
                    have rW7 : W7.heap[g]? = some (.cells (rcells ob cb c ({ X with nn := xnn + y.nn, le := y.le, gr := y.gr } : G)) 69 (0, 0)) := by rw [← hW7, opW_heap]; exact HW6.out.2.1
                    have yW7 : W7.heap[b5]? = some (.cells (lcells y) 55 (0, 0)) := by rw [← hW7, opW_heap]; exact HW6.out.2.2
                    replace g2 : W7.cell? ⟨g, 2, none⟩ = some (.int .i64 xn) := (by rw [← hXn]; exact (blk_cell rW7 2))
                    replace gf2 := blk_free rW7 2
                    replace g3 : W7.cell? ⟨g, 3, none⟩ = some (.int .i64 (xnn + y.nn)) := (blk_cell rW7 3)
                    replace gf3 := blk_free rW7 3
                    replace g4 : W7.cell? ⟨g, 4, none⟩ = some (.float .f64 y.le) := (blk_cell rW7 4)
                    replace gf4 := blk_free rW7 4
                    replace g5 : W7.cell? ⟨g, 5, none⟩ = some (.float .f64 y.gr) := (blk_cell rW7 5)
                    replace gf5 := blk_free rW7 5
                    replace g6 : W7.cell? ⟨g, 6, none⟩ = some (.float .f64 X.me) := (blk_cell rW7 6)
                    replace gf6 := blk_free rW7 6
                    replace y0 : W7.cell? ⟨b5, 0, none⟩ = some (.int .i64 y.n) := blk_cell yW7 0
                    replace y1 : W7.cell? ⟨b5, 1, none⟩ = some (.int .i64 y.nn) := blk_cell yW7 1
                    replace y2 : W7.cell? ⟨b5, 2, none⟩ = some (.float .f64 y.le) := blk_cell yW7 2
                    replace y3 : W7.cell? ⟨b5, 3, none⟩ = some (.float .f64 y.gr) := blk_cell yW7 3
                    replace y4 : W7.cell? ⟨b5, 4, none⟩ = some (.float .f64 y.me) := blk_cell yW7 4
                    have HW7 := Lib.hid (And.intro kW7 (And.intro rW7 yW7))
                    clear hW7 kW7 rW7 yW7 HW6
                    go_wp2_with fail
                    refine (canon3_any _ _).mono ?_
                    rintro e w' ⟨rfl, rfl⟩
                    rw [HME2.out]
                    go_wp2_with fail
                    have hrr : (opW .add X.me (opW .mul dv wv W7).1 (opW .mul dv wv W7).2).2.heap[g]? = some (.cells (rcells ob cb c ({ X with nn := xnn + y.nn, le := y.le, gr := y.gr } : G)) 69 (0, 0)) := by rw [opW_heap, opW_heap]; exact HW7.out.2.1
                    have hyy : (opW .add X.me (opW .mul dv wv W7).1 (opW .mul dv wv W7).2).2.heap[b5]? = some (.cells (lcells y) 55 (0, 0)) := by rw [opW_heap, opW_heap]; exact HW7.out.2.2
                    generalize hW8 : (opW .add X.me (opW .mul dv wv W7).1 (opW .mul dv wv W7).2).2.setCell ⟨g, 6, none⟩ (.float .f64 mv) = W8
                    have kW8 : Keep (· = g) wr W8 := by rw [← hW8]; exact Keep.setCell (Keep_opw _ _ _ (Keep_opw _ _ _ HW7.out.1)) (Or.inl rfl) _
                    have rW8 : W8.heap[g]? = some (.cells (rcells ob cb c ({ X with nn := xnn + y.nn, le := y.le, gr := y.gr, me := mv } : G)) 69 (0, 0)) := by rw [← hW8]; exact blk_set hrr 6 _
                    have yW8 : W8.heap[b5]? = some (.cells (lcells y) 55 (0, 0)) := by rw [← hW8]; exact (Keep.setCell (bs := (· = g)) (Keep.refl _ (opW .add X.me (opW .mul dv wv W7).1 (opW .mul dv wv W7).2).2) (p := ⟨g, 6, none⟩) (Or.inl rfl) (.float .f64 mv)).same hyy hb5g
                    replace g2 : W8.cell? ⟨g, 2, none⟩ = some (.int .i64 xn) := (by rw [← hXn]; exact (blk_cell rW8 2))
                    replace gf2 := blk_free rW8 2
                    replace g3 : W8.cell? ⟨g, 3, none⟩ = some (.int .i64 (xnn + y.nn)) := (blk_cell rW8 3)
                    replace gf3 := blk_free rW8 3
                    replace g4 : W8.cell? ⟨g, 4, none⟩ = some (.float .f64 y.le) := (blk_cell rW8 4)
                    replace gf4 := blk_free rW8 4
                    replace g5 : W8.cell? ⟨g, 5, none⟩ = some (.float .f64 y.gr) := (blk_cell rW8 5)
                    replace gf5 := blk_free rW8 5
                    replace g6 : W8.cell? ⟨g, 6, none⟩ = some (.float .f64 mv) := (blk_cell rW8 6)
                    replace gf6 := blk_free rW8 6
                    replace y0 : W8.cell? ⟨b5, 0, none⟩ = some (.int .i64 y.n) := blk_cell yW8 0
                    replace y1 : W8.cell? ⟨b5, 1, none⟩ = some (.int .i64 y.nn) := blk_cell yW8 1
                    replace y2 : W8.cell? ⟨b5, 2, none⟩ = some (.float .f64 y.le) := blk_cell yW8 2
                    replace y3 : W8.cell? ⟨b5, 3, none⟩ = some (.float .f64 y.gr) := blk_cell yW8 3
                    replace y4 : W8.cell? ⟨b5, 4, none⟩ = some (.float .f64 y.me) := blk_cell yW8 4
                    have HW8 := Lib.hid (And.intro kW8 (And.intro rW8 yW8))
                    clear hW8 kW8 rW8 yW8 HW7
                    clear hrr hyy
                    go_region
                    all_goals go_wp2_with fail
                    all_goals go_ret
                    have hrf : (W8.setCell ⟨g, 2, none⟩ (.int .i64 (xn + y.n))).heap[g]? = some (.cells (rcells ob cb c ({ X with n := xn + y.n, nn := xnn + y.nn, le := y.le, gr := y.gr, me := mv } : G)) 69 (0, 0)) := blk_set HW8.out.2.1 2 _
                    have hkf : Keep (· = g) wr (W8.setCell ⟨g, 2, none⟩ (.int .i64 (xn + y.n))) := HW8.out.1.setCell (p := ⟨g, 2, none⟩) (Or.inl rfl) _
                    have hfin : RAt (W8.setCell ⟨g, 2, none⟩ (.int .i64 (xn + y.n))) g base ob cb c ({ X with n := xn + y.n, nn := xnn + y.nn, le := y.le, gr := y.gr, me := mv } : G) := H5.out.1.turn hkf hrf rfl rfl HYL.out.1 HYL.out.2.1
                    refine ⟨rfl, ?_, H5.out.2.2.1.trans (hkf.drew.mono fun _ _ h => Or.inl h)⟩
                    rw [HPX.out]
                    exact hfin.drew
                  · skip
                    have HPX : RowKit.Hid (mergeG x y = ({ X with n := xn + y.n, nn := xnn + y.nn, me := canonF (opF .add X.me (opF .mul (opF .sub y.me X.me) (opF .quo (floatOfInt .f64 y.n) (floatOfInt .f64 (xn + y.n))))), le := y.le } : G)) := Lib.hid (by rw [HM2.out hy0 hx0]; simp [hL, hG])
                    generalize cmpF y.le X.le = z1 at *
                    generalize cmpF y.gr X.gr = z2 at *
                    have d1 : decide (z1 < 0) = true := by simpa using hL
                    have d2 : decide (0 < z2) = false := by simpa using hG
                    have kk1 := Keep.setCell (bs := (· = g)) (Keep.refl _ wr) (p := ⟨g, 3, none⟩) (Or.inl rfl) (.int .i64 (xnn + y.nn))
                    have hr1 : (wr.setCell ⟨g, 3, none⟩ (.int .i64 (xnn + y.nn))).heap[g]? = some (.cells (rcells ob cb c ({ X with nn := xnn + y.nn } : G)) 69 (0, 0)) := blk_set hg5.row 3 _
                    have HS0 := Lib.hid (And.intro kk1 (And.intro hr1 (kk1.same H5.out.2.1 hb5g)))
                    clear kk1 hr1
                    go_wp2_with fail
                    go_region
                    generalize hW1 : (wr.setCell ⟨g, 3, none⟩ (.int .i64 (xnn + y.nn))).drew = W1
                    have kW1 : Keep (· = g) wr W1 := by rw [← hW1]; exact HS0.out.1.drew
                    have rW1 : W1.heap[g]? = some (.cells (rcells ob cb c ({ X with nn := xnn + y.nn } : G)) 69 (0, 0)) := by rw [← hW1]; exact HS0.out.2.1
                    have yW1 : W1.heap[b5]? = some (.cells (lcells y) 55 (0, 0)) := by rw [← hW1]; exact HS0.out.2.2
                    clear g3 g4 g5 g6 gf3 y0 y1 y2 y3 y4 y1f
                    have g2 : W1.cell? ⟨g, 2, none⟩ = some (.int .i64 xn) := (by rw [← hXn]; exact (blk_cell rW1 2))
                    have gf2 := blk_free rW1 2
                    have g3 : W1.cell? ⟨g, 3, none⟩ = some (.int .i64 (xnn + y.nn)) := (blk_cell rW1 3)
                    have gf3 := blk_free rW1 3
                    have g4 : W1.cell? ⟨g, 4, none⟩ = some (.float .f64 X.le) := (blk_cell rW1 4)
                    have gf4 := blk_free rW1 4
                    have g5 : W1.cell? ⟨g, 5, none⟩ = some (.float .f64 X.gr) := (blk_cell rW1 5)
                    have gf5 := blk_free rW1 5
                    have g6 : W1.cell? ⟨g, 6, none⟩ = some (.float .f64 X.me) := (blk_cell rW1 6)
                    have gf6 := blk_free rW1 6
                    have y0 : W1.cell? ⟨b5, 0, none⟩ = some (.int .i64 y.n) := blk_cell yW1 0
                    have y1 : W1.cell? ⟨b5, 1, none⟩ = some (.int .i64 y.nn) := blk_cell yW1 1
                    have y2 : W1.cell? ⟨b5, 2, none⟩ = some (.float .f64 y.le) := blk_cell yW1 2
                    have y3 : W1.cell? ⟨b5, 3, none⟩ = some (.float .f64 y.gr) := blk_cell yW1 3
                    have y4 : W1.cell? ⟨b5, 4, none⟩ = some (.float .f64 y.me) := blk_cell yW1 4
                    have HW1 := Lib.hid (And.intro kW1 (And.intro rW1 yW1))
                    clear hW1 kW1 rW1 yW1
                    go_wp2_with fail
                    go_quiet ((go_at_call 27; exact Calls.quiet_of_same ((HCL.out _).mono fun _ _ ⟨he, hw⟩ => ⟨he, hw.symm⟩)))
                    generalize hW2 : W1.drewN nq = W2
                    have kW2 : Keep (· = g) wr W2 := by rw [← hW2]; exact HW1.out.1.drewN nq
                    have rW2 : W2.heap[g]? = some (.cells (rcells ob cb c ({ X with nn := xnn + y.nn } : G)) 69 (0, 0)) := by rw [← hW2]; exact HW1.out.2.1
                    have yW2 : W2.heap[b5]? = some (.cells (lcells y) 55 (0, 0)) := by rw [← hW2]; exact HW1.out.2.2
                    replace g2 : W2.cell? ⟨g, 2, none⟩ = some (.int .i64 xn) := (by rw [← hXn]; exact (blk_cell rW2 2))
                    replace gf2 := blk_free rW2 2
                    replace g3 : W2.cell? ⟨g, 3, none⟩ = some (.int .i64 (xnn + y.nn)) := (blk_cell rW2 3)
                    replace gf3 := blk_free rW2 3
                    replace g4 : W2.cell? ⟨g, 4, none⟩ = some (.float .f64 X.le) := (blk_cell rW2 4)
                    replace gf4 := blk_free rW2 4
                    replace g5 : W2.cell? ⟨g, 5, none⟩ = some (.float .f64 X.gr) := (blk_cell rW2 5)
                    replace gf5 := blk_free rW2 5
                    replace g6 : W2.cell? ⟨g, 6, none⟩ = some (.float .f64 X.me) := (blk_cell rW2 6)
                    replace gf6 := blk_free rW2 6
                    replace y0 : W2.cell? ⟨b5, 0, none⟩ = some (.int .i64 y.n) := blk_cell yW2 0
                    replace y1 : W2.cell? ⟨b5, 1, none⟩ = some (.int .i64 y.nn) := blk_cell yW2 1
                    replace y2 : W2.cell? ⟨b5, 2, none⟩ = some (.float .f64 y.le) := blk_cell yW2 2
                    replace y3 : W2.cell? ⟨b5, 3, none⟩ = some (.float .f64 y.gr) := blk_cell yW2 3
                    replace y4 : W2.cell? ⟨b5, 4, none⟩ = some (.float .f64 y.me) := blk_cell yW2 4
                    have HW2 := Lib.hid (And.intro kW2 (And.intro rW2 yW2))
                    clear hW2 kW2 rW2 yW2 HW1
                    go_wp2_with fail
                    generalize hW3 : W2.setCell ⟨g, 4, none⟩ (.float .f64 y.le) = W3
                    have kW3 : Keep (· = g) wr W3 := by rw [← hW3]; exact HW2.out.1.setCell (p := ⟨g, 4, none⟩) (Or.inl rfl) _
                    have rW3 : W3.heap[g]? = some (.cells (rcells ob cb c ({ X with nn := xnn + y.nn, le := y.le } : G)) 69 (0, 0)) := by rw [← hW3]; exact blk_set HW2.out.2.1 4 _
                    have yW3 : W3.heap[b5]? = some (.cells (lcells y) 55 (0, 0)) := by rw [← hW3]; exact (Keep.setCell (bs := (· = g)) (Keep.refl _ W2) (p := ⟨g, 4, none⟩) (Or.inl rfl) (.float .f64 y.le)).same HW2.out.2.2 hb5g
                    replace g2 : W3.cell? ⟨g, 2, none⟩ = some (.int .i64 xn) := (by rw [← hXn]; exact (blk_cell rW3 2))
                    replace gf2 := blk_free rW3 2
                    replace g3 : W3.cell? ⟨g, 3, none⟩ = some (.int .i64 (xnn + y.nn)) := (blk_cell rW3 3)
                    replace gf3 := blk_free rW3 3
                    replace g4 : W3.cell? ⟨g, 4, none⟩ = some (.float .f64 y.le) := (blk_cell rW3 4)
                    replace gf4 := blk_free rW3 4
                    replace g5 : W3.cell? ⟨g, 5, none⟩ = some (.float .f64 X.gr) := (blk_cell rW3 5)
                    replace gf5 := blk_free rW3 5
                    replace g6 : W3.cell? ⟨g, 6, none⟩ = some (.float .f64 X.me) := (blk_cell rW3 6)
                    replace gf6 := blk_free rW3 6
                    replace y0 : W3.cell? ⟨b5, 0, none⟩ = some (.int .i64 y.n) := blk_cell yW3 0
                    replace y1 : W3.cell? ⟨b5, 1, none⟩ = some (.int .i64 y.nn) := blk_cell yW3 1
                    replace y2 : W3.cell? ⟨b5, 2, none⟩ = some (.float .f64 y.le) := blk_cell yW3 2
                    replace y3 : W3.cell? ⟨b5, 3, none⟩ = some (.float .f64 y.gr) := blk_cell yW3 3
                    replace y4 : W3.cell? ⟨b5, 4, none⟩ = some (.float .f64 y.me) := blk_cell yW3 4
                    have HW3 := Lib.hid (And.intro kW3 (And.intro rW3 yW3))
                    clear hW3 kW3 rW3 yW3 HW2
                    go_quiet ((go_at_call 27; exact Calls.quiet_of_same ((HCG.out _).mono fun _ _ ⟨he, hw⟩ => ⟨he, hw.symm⟩)))
                    generalize hW4 : W3.drewN nq = W4
                    have kW4 : Keep (· = g) wr W4 := by rw [← hW4]; exact HW3.out.1.drewN nq
                    have rW4 : W4.heap[g]? = some (.cells (rcells ob cb c ({ X with nn := xnn + y.nn, le := y.le } : G)) 69 (0, 0)) := by rw [← hW4]; exact HW3.out.2.1
                    have yW4 : W4.heap[b5]? = some (.cells (lcells y) 55 (0, 0)) := by rw [← hW4]; exact HW3.out.2.2
                    replace g2 : W4.cell? ⟨g, 2, none⟩ = some (.int .i64 xn) := (by rw [← hXn]; exact (blk_cell rW4 2))
                    replace gf2 := blk_free rW4 2
                    replace g3 : W4.cell? ⟨g, 3, none⟩ = some (.int .i64 (xnn + y.nn)) := (blk_cell rW4 3)
                    replace gf3 := blk_free rW4 3
                    replace g4 : W4.cell? ⟨g, 4, none⟩ = some (.float .f64 y.le) := (blk_cell rW4 4)
                    replace gf4 := blk_free rW4 4
                    replace g5 : W4.cell? ⟨g, 5, none⟩ = some (.float .f64 X.gr) := (blk_cell rW4 5)
                    replace gf5 := blk_free rW4 5
                    replace g6 : W4.cell? ⟨g, 6, none⟩ = some (.float .f64 X.me) := (blk_cell rW4 6)
                    replace gf6 := blk_free rW4 6
                    replace y0 : W4.cell? ⟨b5, 0, none⟩ = some (.int .i64 y.n) := blk_cell yW4 0
                    replace y1 : W4.cell? ⟨b5, 1, none⟩ = some (.int .i64 y.nn) := blk_cell yW4 1
                    replace y2 : W4.cell? ⟨b5, 2, none⟩ = some (.float .f64 y.le) := blk_cell yW4 2
                    replace y3 : W4.cell? ⟨b5, 3, none⟩ = some (.float .f64 y.gr) := blk_cell yW4 3
                    replace y4 : W4.cell? ⟨b5, 4, none⟩ = some (.float .f64 y.me) := blk_cell yW4 4
                    have HW4 := Lib.hid (And.intro kW4 (And.intro rW4 yW4))
                    clear hW4 kW4 rW4 yW4 HW3
                    go_wp2_with fail
                    go_region
                    have HME := Lib.hid (fun w2 w3 w4 => mean_chain2 X.me y.me (floatOfInt .f64 y.n) (floatOfInt .f64 (xn + y.n)) W4.drew w2 w3 w4)
                    generalize canonF (opF .add X.me (opF .mul (opF .sub y.me X.me) (opF .quo (floatOfInt .f64 y.n) (floatOfInt .f64 (xn + y.n))))) = mv at *
                    generalize hdv : (opW .sub y.me X.me W4.drew).1 = dv at *
                    clear hdv
                    generalize hW5 : (opW .sub y.me X.me W4.drew).2 = W5
                    have kW5 : Keep (· = g) wr W5 := by rw [← hW5]; exact Keep_opw _ _ _ HW4.out.1.drew
                    have rW5 : W5.heap[g]? = some (.cells (rcells ob cb c ({ X with nn := xnn + y.nn, le := y.le } : G)) 69 (0, 0)) := by rw [← hW5, opW_heap]; exact HW4.out.2.1
                    have yW5 : W5.heap[b5]? = some (.cells (lcells y) 55 (0, 0)) := by rw [← hW5, opW_heap]; exact HW4.out.2.2
                    replace g2 : W5.cell? ⟨g, 2, none⟩ = some (.int .i64 xn) := (by rw [← hXn]; exact (blk_cell rW5 2))
                    replace gf2 := blk_free rW5 2
                    replace g3 : W5.cell? ⟨g, 3, none⟩ = some (.int .i64 (xnn + y.nn)) := (blk_cell rW5 3)
                    replace gf3 := blk_free rW5 3
                    replace g4 : W5.cell? ⟨g, 4, none⟩ = some (.float .f64 y.le) := (blk_cell rW5 4)
                    replace gf4 := blk_free rW5 4
                    replace g5 : W5.cell? ⟨g, 5, none⟩ = some (.float .f64 X.gr) := (blk_cell rW5 5)
                    replace gf5 := blk_free rW5 5
                    replace g6 : W5.cell? ⟨g, 6, none⟩ = some (.float .f64 X.me) := (blk_cell rW5 6)
                    replace gf6 := blk_free rW5 6
                    replace y0 : W5.cell? ⟨b5, 0, none⟩ = some (.int .i64 y.n) := blk_cell yW5 0
                    replace y1 : W5.cell? ⟨b5, 1, none⟩ = some (.int .i64 y.nn) := blk_cell yW5 1
                    replace y2 : W5.cell? ⟨b5, 2, none⟩ = some (.float .f64 y.le) := blk_cell yW5 2
                    replace y3 : W5.cell? ⟨b5, 3, none⟩ = some (.float .f64 y.gr) := blk_cell yW5 3
                    replace y4 : W5.cell? ⟨b5, 4, none⟩ = some (.float .f64 y.me) := blk_cell yW5 4
                    have HW5 := Lib.hid (And.intro kW5 (And.intro rW5 yW5))
                    clear hW5 kW5 rW5 yW5 HW4
                    go_wp2_with fail
                    go_region
                    have HME2 := Lib.hid (fun w3 w4 => HME.out W5.drew w3 w4)
                    clear HME
                    generalize hwv : (opW .quo (floatOfInt .f64 y.n) (floatOfInt .f64 (xn + y.n)) W5.drew).1 = wv at *
                    clear hwv
                    generalize hW6 : (opW .quo (floatOfInt .f64 y.n) (floatOfInt .f64 (xn + y.n)) W5.drew).2 = W6
                    have kW6 : Keep (· = g) wr W6 := by rw [← hW6]; exact Keep_opw _ _ _ HW5.out.1.drew
                    have rW6 : W6.heap[g]? = some (.cells (rcells ob cb c ({ X with nn := xnn + y.nn, le := y.le } : G)) 69 (0, 0)) := by rw [← hW6, opW_heap]; exact HW5.out.2.1
                    have yW6 : W6.heap[b5]? = some (.cells (lcells y) 55 (0, 0)) := by rw [← hW6, opW_heap]; exact HW5.out.2.2
                    replace g2 : W6.cell? ⟨g, 2, none⟩ = some (.int .i64 xn) := (by rw [← hXn]; exact (blk_cell rW6 2))
                    replace gf2 := blk_free rW6 2
                    replace g3 : W6.cell? ⟨g, 3, none⟩ = some (.int .i64 (xnn + y.nn)) := (blk_cell rW6 3)
                    replace gf3 := blk_free rW6 3
                    replace g4 : W6.cell? ⟨g, 4, none⟩ = some (.float .f64 y.le) := (blk_cell rW6 4)
                    replace gf4 := blk_free rW6 4
                    replace g5 : W6.cell? ⟨g, 5, none⟩ = some (.float .f64 X.gr) := (blk_cell rW6 5)
                    replace gf5 := blk_free rW6 5
                    replace g6 : W6.cell? ⟨g, 6, none⟩ = some (.float .f64 X.me) := (blk_cell rW6 6)
                    replace gf6 := blk_free rW6 6
                    replace y0 : W6.cell? ⟨b5, 0, none⟩ = some (.int .i64 y.n) := blk_cell yW6 0
                    replace y1 : W6.cell? ⟨b5, 1, none⟩ = some (.int .i64 y.nn) := blk_cell yW6 1
                    replace y2 : W6.cell? ⟨b5, 2, none⟩ = some (.float .f64 y.le) := blk_cell yW6 2
                    replace y3 : W6.cell? ⟨b5, 3, none⟩ = some (.float .f64 y.gr) := blk_cell yW6 3
                    replace y4 : W6.cell? ⟨b5, 4, none⟩ = some (.float .f64 y.me) := blk_cell yW6 4
                    have HW6 := Lib.hid (And.intro kW6 (And.intro rW6 yW6))
                    clear hW6 kW6 rW6 yW6 HW5
                    go_wp2_with fail
                    refine (canon3_any _ _).mono ?_
                    rintro e w' ⟨rfl, rfl⟩
                    rw [HME2.out]
                    go_wp2_with fail
                    have hrr : (opW .add X.me (opW .mul dv wv W6).1 (opW .mul dv wv W6).2).2.heap[g]? = some (.cells (rcells ob cb c ({ X with nn := xnn + y.nn, le := y.le } : G)) 69 (0, 0)) := by rw [opW_heap, opW_heap]; exact HW6.out.2.1
                    have hyy : (opW .add X.me (opW .mul dv wv W6).1 (opW .mul dv wv W6).2).2.heap[b5]? = some (.cells (lcells y) 55 (0, 0)) := by rw [opW_heap, opW_heap]; exact HW6.out.2.2
                    generalize hW7 : (opW .add X.me (opW .mul dv wv W6).1 (opW .mul dv wv W6).2).2.setCell ⟨g, 6, none⟩ (.float .f64 mv) = W7
                    have kW7 : Keep (· = g) wr W7 := by rw [← hW7]; exact Keep.setCell (Keep_opw _ _ _ (Keep_opw _ _ _ HW6.out.1)) (Or.inl rfl) _
                    have rW7 : W7.heap[g]? = some (.cells (rcells ob cb c ({ X with nn := xnn + y.nn, le := y.le, me := mv } : G)) 69 (0, 0)) := by rw [← hW7]; exact blk_set hrr 6 _
                    have yW7 : W7.heap[b5]? = some (.cells (lcells y) 55 (0, 0)) := by rw [← hW7]; exact (Keep.setCell (bs := (· = g)) (Keep.refl _ (opW .add X.me (opW .mul dv wv W6).1 (opW .mul dv wv W6).2).2) (p := ⟨g, 6, none⟩) (Or.inl rfl) (.float .f64 mv)).same hyy hb5g
                    replace g2 : W7.cell? ⟨g, 2, none⟩ = some (.int .i64 xn) := (by rw [← hXn]; exact (blk_cell rW7 2))
                    replace gf2 := blk_free rW7 2
                    replace g3 : W7.cell? ⟨g, 3, none⟩ = some (.int .i64 (xnn + y.nn)) := (blk_cell rW7 3)
                    replace gf3 := blk_free rW7 3
                    replace g4 : W7.cell? ⟨g, 4, none⟩ = some (.float .f64 y.le) := (blk_cell rW7 4)
                    replace gf4 := blk_free rW7 4
                    replace g5 : W7.cell? ⟨g, 5, none⟩ = some (.float .f64 X.gr) := (blk_cell rW7 5)
                    replace gf5 := blk_free rW7 5
                    replace g6 : W7.cell? ⟨g, 6, none⟩ = some (.float .f64 mv) := (blk_cell rW7 6)
                    replace gf6 := blk_free rW7 6
                    replace y0 : W7.cell? ⟨b5, 0, none⟩ = some (.int .i64 y.n) := blk_cell yW7 0
                    replace y1 : W7.cell? ⟨b5, 1, none⟩ = some (.int .i64 y.nn) := blk_cell yW7 1
                    replace y2 : W7.cell? ⟨b5, 2, none⟩ = some (.float .f64 y.le) := blk_cell yW7 2
                    replace y3 : W7.cell? ⟨b5, 3, none⟩ = some (.float .f64 y.gr) := blk_cell yW7 3
                    replace y4 : W7.cell? ⟨b5, 4, none⟩ = some (.float .f64 y.me) := blk_cell yW7 4
                    have HW7 := Lib.hid (And.intro kW7 (And.intro rW7 yW7))
                    clear hW7 kW7 rW7 yW7 HW6
                    clear hrr hyy
                    go_region
                    all_goals go_wp2_with fail
                    all_goals go_ret
                    have hrf : (W7.setCell ⟨g, 2, none⟩ (.int .i64 (xn + y.n))).heap[g]? = some (.cells (rcells ob cb c ({ X with n := xn + y.n, nn := xnn + y.nn, le := y.le, me := mv } : G)) 69 (0, 0)) := blk_set HW7.out.2.1 2 _
                    have hkf : Keep (· = g) wr (W7.setCell ⟨g, 2, none⟩ (.int .i64 (xn + y.n))) := HW7.out.1.setCell (p := ⟨g, 2, none⟩) (Or.inl rfl) _
                    have hfin : RAt (W7.setCell ⟨g, 2, none⟩ (.int .i64 (xn + y.n))) g base ob cb c ({ X with n := xn + y.n, nn := xnn + y.nn, le := y.le, me := mv } : G) := H5.out.1.turn hkf hrf rfl rfl HYL.out.1 H5.out.1.gr64
                    refine ⟨rfl, ?_, H5.out.2.2.1.trans (hkf.drew.mono fun _ _ h => Or.inl h)⟩
                    rw [HPX.out]
                    exact hfin.drew
                · by_cases hG : 0 < cmpF y.gr X.gr
                  · skip
                    have HPX : RowKit.Hid (mergeG x y = ({ X with n := xn + y.n, nn := xnn + y.nn, me := canonF (opF .add X.me (opF .mul (opF .sub y.me X.me) (opF .quo (floatOfInt .f64 y.n) (floatOfInt .f64 (xn + y.n))))), gr := y.gr } : G)) := Lib.hid (by rw [HM2.out hy0 hx0]; simp [hL, hG])
                    generalize cmpF y.le X.le = z1 at *
                    generalize cmpF y.gr X.gr = z2 at *
                    have d1 : decide (z1 < 0) = false := by simpa using hL
                    have d2 : decide (0 < z2) = true := by simpa using hG
                    have kk1 := Keep.setCell (bs := (· = g)) (Keep.refl _ wr) (p := ⟨g, 3, none⟩) (Or.inl rfl) (.int .i64 (xnn + y.nn))
                    have hr1 : (wr.setCell ⟨g, 3, none⟩ (.int .i64 (xnn + y.nn))).heap[g]? = some (.cells (rcells ob cb c ({ X with nn := xnn + y.nn } : G)) 69 (0, 0)) := blk_set hg5.row 3 _
                    have HS0 := Lib.hid (And.intro kk1 (And.intro hr1 (kk1.same H5.out.2.1 hb5g)))
                    clear kk1 hr1
                    go_wp2_with fail
                    go_region
                    generalize hW1 : (wr.setCell ⟨g, 3, none⟩ (.int .i64 (xnn + y.nn))).drew = W1
                    have kW1 : Keep (· = g) wr W1 := by rw [← hW1]; exact HS0.out.1.drew
                    have rW1 : W1.heap[g]? = some (.cells (rcells ob cb c ({ X with nn := xnn + y.nn } : G)) 69 (0, 0)) := by rw [← hW1]; exact HS0.out.2.1
                    have yW1 : W1.heap[b5]? = some (.cells (lcells y) 55 (0, 0)) := by rw [← hW1]; exact HS0.out.2.2
                    clear g3 g4 g5 g6 gf3 y0 y1 y2 y3 y4 y1f
                    have g2 : W1.cell? ⟨g, 2, none⟩ = some (.int .i64 xn) := (by rw [← hXn]; exact (blk_cell rW1 2))
                    have gf2 := blk_free rW1 2
                    have g3 : W1.cell? ⟨g, 3, none⟩ = some (.int .i64 (xnn + y.nn)) := (blk_cell rW1 3)
                    have gf3 := blk_free rW1 3
                    have g4 : W1.cell? ⟨g, 4, none⟩ = some (.float .f64 X.le) := (blk_cell rW1 4)
                    have gf4 := blk_free rW1 4
                    have g5 : W1.cell? ⟨g, 5, none⟩ = some (.float .f64 X.gr) := (blk_cell rW1 5)
                    have gf5 := blk_free rW1 5
                    have g6 : W1.cell? ⟨g, 6, none⟩ = some (.float .f64 X.me) := (blk_cell rW1 6)
                    have gf6 := blk_free rW1 6
                    have y0 : W1.cell? ⟨b5, 0, none⟩ = some (.int .i64 y.n) := blk_cell yW1 0
                    have y1 : W1.cell? ⟨b5, 1, none⟩ = some (.int .i64 y.nn) := blk_cell yW1 1
                    have y2 : W1.cell? ⟨b5, 2, none⟩ = some (.float .f64 y.le) := blk_cell yW1 2
                    have y3 : W1.cell? ⟨b5, 3, none⟩ = some (.float .f64 y.gr) := blk_cell yW1 3
                    have y4 : W1.cell? ⟨b5, 4, none⟩ = some (.float .f64 y.me) := blk_cell yW1 4
                    have HW1 := Lib.hid (And.intro kW1 (And.intro rW1 yW1))
                    clear hW1 kW1 rW1 yW1
                    go_wp2_with fail
                    go_quiet ((go_at_call 27; exact Calls.quiet_of_same ((HCL.out _).mono fun _ _ ⟨he, hw⟩ => ⟨he, hw.symm⟩)))
                    generalize hW2 : W1.drewN nq = W2
                    have kW2 : Keep (· = g) wr W2 := by rw [← hW2]; exact HW1.out.1.drewN nq
                    have rW2 : W2.heap[g]? = some (.cells (rcells ob cb c ({ X with nn := xnn + y.nn } : G)) 69 (0, 0)) := by rw [← hW2]; exact HW1.out.2.1
                    have yW2 : W2.heap[b5]? = some (.cells (lcells y) 55 (0, 0)) := by rw [← hW2]; exact HW1.out.2.2
                    replace g2 : W2.cell? ⟨g, 2, none⟩ = some (.int .i64 xn) := (by rw [← hXn]; exact (blk_cell rW2 2))
                    replace gf2 := blk_free rW2 2
                    replace g3 : W2.cell? ⟨g, 3, none⟩ = some (.int .i64 (xnn + y.nn)) := (blk_cell rW2 3)
                    replace gf3 := blk_free rW2 3
                    replace g4 : W2.cell? ⟨g, 4, none⟩ = some (.float .f64 X.le) := (blk_cell rW2 4)
                    replace gf4 := blk_free rW2 4
                    replace g5 : W2.cell? ⟨g, 5, none⟩ = some (.float .f64 X.gr) := (blk_cell rW2 5)
                    replace gf5 := blk_free rW2 5
                    replace g6 : W2.cell? ⟨g, 6, none⟩ = some (.float .f64 X.me) := (blk_cell rW2 6)
                    replace gf6 := blk_free rW2 6
                    replace y0 : W2.cell? ⟨b5, 0, none⟩ = some (.int .i64 y.n) := blk_cell yW2 0
                    replace y1 : W2.cell? ⟨b5, 1, none⟩ = some (.int .i64 y.nn) := blk_cell yW2 1
                    replace y2 : W2.cell? ⟨b5, 2, none⟩ = some (.float .f64 y.le) := blk_cell yW2 2
                    replace y3 : W2.cell? ⟨b5, 3, none⟩ = some (.float .f64 y.gr) := blk_cell yW2 3
                    replace y4 : W2.cell? ⟨b5, 4, none⟩ = some (.float .f64 y.me) := blk_cell yW2 4
                    have HW2 := Lib.hid (And.intro kW2 (And.intro rW2 yW2))
                    clear hW2 kW2 rW2 yW2 HW1
                    go_wp2_with fail
                    go_quiet ((go_at_call 27; exact Calls.quiet_of_same ((HCG.out _).mono fun _ _ ⟨he, hw⟩ => ⟨he, hw.symm⟩)))
                    generalize hW3 : W2.drewN nq = W3
                    have kW3 : Keep (· = g) wr W3 := by rw [← hW3]; exact HW2.out.1.drewN nq
                    have rW3 : W3.heap[g]? = some (.cells (rcells ob cb c ({ X with nn := xnn + y.nn } : G)) 69 (0, 0)) := by rw [← hW3]; exact HW2.out.2.1
                    have yW3 : W3.heap[b5]? = some (.cells (lcells y) 55 (0, 0)) := by rw [← hW3]; exact HW2.out.2.2
                    replace g2 : W3.cell? ⟨g, 2, none⟩ = some (.int .i64 xn) := (by rw [← hXn]; exact (blk_cell rW3 2))
                    replace gf2 := blk_free rW3 2
                    replace g3 : W3.cell? ⟨g, 3, none⟩ = some (.int .i64 (xnn + y.nn)) := (blk_cell rW3 3)
                    replace gf3 := blk_free rW3 3
                    replace g4 : W3.cell? ⟨g, 4, none⟩ = some (.float .f64 X.le) := (blk_cell rW3 4)
                    replace gf4 := blk_free rW3 4
                    replace g5 : W3.cell? ⟨g, 5, none⟩ = some (.float .f64 X.gr) := (blk_cell rW3 5)
                    replace gf5 := blk_free rW3 5
                    replace g6 : W3.cell? ⟨g, 6, none⟩ = some (.float .f64 X.me) := (blk_cell rW3 6)
                    replace gf6 := blk_free rW3 6
                    replace y0 : W3.cell? ⟨b5, 0, none⟩ = some (.int .i64 y.n) := blk_cell yW3 0
                    replace y1 : W3.cell? ⟨b5, 1, none⟩ = some (.int .i64 y.nn) := blk_cell yW3 1
                    replace y2 : W3.cell? ⟨b5, 2, none⟩ = some (.float .f64 y.le) := blk_cell yW3 2
                    replace y3 : W3.cell? ⟨b5, 3, none⟩ = some (.float .f64 y.gr) := blk_cell yW3 3
                    replace y4 : W3.cell? ⟨b5, 4, none⟩ = some (.float .f64 y.me) := blk_cell yW3 4
                    have HW3 := Lib.hid (And.intro kW3 (And.intro rW3 yW3))
                    clear hW3 kW3 rW3 yW3 HW2
                    go_wp2_with fail
                    generalize hW4 : W3.setCell ⟨g, 5, none⟩ (.float .f64 y.gr) = W4
                    have kW4 : Keep (· = g) wr W4 := by rw [← hW4]; exact HW3.out.1.setCell (p := ⟨g, 5, none⟩) (Or.inl rfl) _
                    have rW4 : W4.heap[g]? = some (.cells (rcells ob cb c ({ X with nn := xnn + y.nn, gr := y.gr } : G)) 69 (0, 0)) := by rw [← hW4]; exact blk_set HW3.out.2.1 5 _
                    have yW4 : W4.heap[b5]? = some (.cells (lcells y) 55 (0, 0)) := by rw [← hW4]; exact (Keep.setCell (bs := (· = g)) (Keep.refl _ W3) (p := ⟨g, 5, none⟩) (Or.inl rfl) (.float .f64 y.gr)).same HW3.out.2.2 hb5g
                    replace g2 : W4.cell? ⟨g, 2, none⟩ = some (.int .i64 xn) := (by rw [← hXn]; exact (blk_cell rW4 2))
                    replace gf2 := blk_free rW4 2
                    replace g3 : W4.cell? ⟨g, 3, none⟩ = some (.int .i64 (xnn + y.nn)) := (blk_cell rW4 3)
                    replace gf3 := blk_free rW4 3
                    replace g4 : W4.cell? ⟨g, 4, none⟩ = some (.float .f64 X.le) := (blk_cell rW4 4)
                    replace gf4 := blk_free rW4 4
                    replace g5 : W4.cell? ⟨g, 5, none⟩ = some (.float .f64 y.gr) := (blk_cell rW4 5)
                    replace gf5 := blk_free rW4 5
                    replace g6 : W4.cell? ⟨g, 6, none⟩ = some (.float .f64 X.me) := (blk_cell rW4 6)
                    replace gf6 := blk_free rW4 6
                    replace y0 : W4.cell? ⟨b5, 0, none⟩ = some (.int .i64 y.n) := blk_cell yW4 0
                    replace y1 : W4.cell? ⟨b5, 1, none⟩ = some (.int .i64 y.nn) := blk_cell yW4 1
                    replace y2 : W4.cell? ⟨b5, 2, none⟩ = some (.float .f64 y.le) := blk_cell yW4 2
                    replace y3 : W4.cell? ⟨b5, 3, none⟩ = some (.float .f64 y.gr) := blk_cell yW4 3
                    replace y4 : W4.cell? ⟨b5, 4, none⟩ = some (.float .f64 y.me) := blk_cell yW4 4
                    have HW4 := Lib.hid (And.intro kW4 (And.intro rW4 yW4))
                    clear hW4 kW4 rW4 yW4 HW3
                    go_region
                    have HME := Lib.hid (fun w2 w3 w4 => mean_chain2 X.me y.me (floatOfInt .f64 y.n) (floatOfInt .f64 (xn + y.n)) W4.drew w2 w3 w4)
                    generalize canonF (opF .add X.me (opF .mul (opF .sub y.me X.me) (opF .quo (floatOfInt .f64 y.n) (floatOfInt .f64 (xn + y.n))))) = mv at *
                    generalize hdv : (opW .sub y.me X.me W4.drew).1 = dv at *
                    clear hdv
                    generalize hW5 : (opW .sub y.me X.me W4.drew).2 = W5
                    have kW5 : Keep (· = g) wr W5 := by rw [← hW5]; exact Keep_opw _ _ _ HW4.out.1.drew
                    have rW5 : W5.heap[g]? = some (.cells (rcells ob cb c ({ X with nn := xnn + y.nn, gr := y.gr } : G)) 69 (0, 0)) := by rw [← hW5, opW_heap]; exact HW4.out.2.1
                    have yW5 : W5.heap[b5]? = some (.cells (lcells y) 55 (0, 0)) := by rw [← hW5, opW_heap]; exact HW4.out.2.2
                    replace g2 : W5.cell? ⟨g, 2, none⟩ = some (.int .i64 xn) := (by rw [← hXn]; exact (blk_cell rW5 2))
                    replace gf2 := blk_free rW5 2
                    replace g3 : W5.cell? ⟨g, 3, none⟩ = some (.int .i64 (xnn + y.nn)) := (blk_cell rW5 3)
                    replace gf3 := blk_free rW5 3
                    replace g4 : W5.cell? ⟨g, 4, none⟩ = some (.float .f64 X.le) := (blk_cell rW5 4)
                    replace gf4 := blk_free rW5 4
                    replace g5 : W5.cell? ⟨g, 5, none⟩ = some (.float .f64 y.gr) := (blk_cell rW5 5)
                    replace gf5 := blk_free rW5 5
                    replace g6 : W5.cell? ⟨g, 6, none⟩ = some (.float .f64 X.me) := (blk_cell rW5 6)
                    replace gf6 := blk_free rW5 6
                    replace y0 : W5.cell? ⟨b5, 0, none⟩ = some (.int .i64 y.n) := blk_cell yW5 0
                    replace y1 : W5.cell? ⟨b5, 1, none⟩ = some (.int .i64 y.nn) := blk_cell yW5 1
                    replace y2 : W5.cell? ⟨b5, 2, none⟩ = some (.float .f64 y.le) := blk_cell yW5 2
                    replace y3 : W5.cell? ⟨b5, 3, none⟩ = some (.float .f64 y.gr) := blk_cell yW5 3
                    replace y4 : W5.cell? ⟨b5, 4, none⟩ = some (.float .f64 y.me) := blk_cell yW5 4
                    have HW5 := Lib.hid (And.intro kW5 (And.intro rW5 yW5))
                    clear hW5 kW5 rW5 yW5 HW4
                    go_wp2_with fail
                    go_region
                    have HME2 := Lib.hid (fun w3 w4 => HME.out W5.drew w3 w4)
                    clear HME
                    generalize hwv : (opW .quo (floatOfInt .f64 y.n) (floatOfInt .f64 (xn + y.n)) W5.drew).1 = wv at *
                    clear hwv
                    generalize hW6 : (opW .quo (floatOfInt .f64 y.n) (floatOfInt .f64 (xn + y.n)) W5.drew).2 = W6
                    have kW6 : Keep (· = g) wr W6 := by rw [← hW6]; exact Keep_opw _ _ _ HW5.out.1.drew
                    have rW6 : W6.heap[g]? = some (.cells (rcells ob cb c ({ X with nn := xnn + y.nn, gr := y.gr } : G)) 69 (0, 0)) := by rw [← hW6, opW_heap]; exact HW5.out.2.1
                    have yW6 : W6.heap[b5]? = some (.cells (lcells y) 55 (0, 0)) := by rw [← hW6, opW_heap]; exact HW5.out.2.2
                    replace g2 : W6.cell? ⟨g, 2, none⟩ = some (.int .i64 xn) := (by rw [← hXn]; exact (blk_cell rW6 2))
                    replace gf2 := blk_free rW6 2
                    replace g3 : W6.cell? ⟨g, 3, none⟩ = some (.int .i64 (xnn + y.nn)) := (blk_cell rW6 3)
                    replace gf3 := blk_free rW6 3
                    replace g4 : W6.cell? ⟨g, 4, none⟩ = some (.float .f64 X.le) := (blk_cell rW6 4)
                    replace gf4 := blk_free rW6 4
                    replace g5 : W6.cell? ⟨g, 5, none⟩ = some (.float .f64 y.gr) := (blk_cell rW6 5)
                    replace gf5 := blk_free rW6 5
                    replace g6 : W6.cell? ⟨g, 6, none⟩ = some (.float .f64 X.me) := (blk_cell rW6 6)
                    replace gf6 := blk_free rW6 6
                    replace y0 : W6.cell? ⟨b5, 0, none⟩ = some (.int .i64 y.n) := blk_cell yW6 0
                    replace y1 : W6.cell? ⟨b5, 1, none⟩ = some (.int .i64 y.nn) := blk_cell yW6 1
                    replace y2 : W6.cell? ⟨b5, 2, none⟩ = some (.float .f64 y.le) := blk_cell yW6 2
                    replace y3 : W6.cell? ⟨b5, 3, none⟩ = some (.float .f64 y.gr) := blk_cell yW6 3
                    replace y4 : W6.cell? ⟨b5, 4, none⟩ = some (.float .f64 y.me) := blk_cell yW6 4
                    have HW6 := Lib.hid (And.intro kW6 (And.intro rW6 yW6))
                    clear hW6 kW6 rW6 yW6 HW5
                    go_wp2_with fail
                    refine (canon3_any _ _).mono ?_
                    rintro e w' ⟨rfl, rfl⟩
                    rw [HME2.out]
                    go_wp2_with fail
                    have hrr : (opW .add X.me (opW .mul dv wv W6).1 (opW .mul dv wv W6).2).2.heap[g]? = some (.cells (rcells ob cb c ({ X with nn := xnn + y.nn, gr := y.gr } : G)) 69 (0, 0)) := by rw [opW_heap, opW_heap]; exact HW6.out.2.1
                    have hyy : (opW .add X.me (opW .mul dv wv W6).1 (opW .mul dv wv W6).2).2.heap[b5]? = some (.cells (lcells y) 55 (0, 0)) := by rw [opW_heap, opW_heap]; exact HW6.out.2.2
                    generalize hW7 : (opW .add X.me (opW .mul dv wv W6).1 (opW .mul dv wv W6).2).2.setCell ⟨g, 6, none⟩ (.float .f64 mv) = W7
                    have kW7 : Keep (· = g) wr W7 := by rw [← hW7]; exact Keep.setCell (Keep_opw _ _ _ (Keep_opw _ _ _ HW6.out.1)) (Or.inl rfl) _
                    have rW7 : W7.heap[g]? = some (.cells (rcells ob cb c ({ X with nn := xnn + y.nn, gr := y.gr, me := mv } : G)) 69 (0, 0)) := by rw [← hW7]; exact blk_set hrr 6 _
                    have yW7 : W7.heap[b5]? = some (.cells (lcells y) 55 (0, 0)) := by rw [← hW7]; exact (Keep.setCell (bs := (· = g)) (Keep.refl _ (opW .add X.me (opW .mul dv wv W6).1 (opW .mul dv wv W6).2).2) (p := ⟨g, 6, none⟩) (Or.inl rfl) (.float .f64 mv)).same hyy hb5g
                    replace g2 : W7.cell? ⟨g, 2, none⟩ = some (.int .i64 xn) := (by rw [← hXn]; exact (blk_cell rW7 2))
                    replace gf2 := blk_free rW7 2
                    replace g3 : W7.cell? ⟨g, 3, none⟩ = some (.int .i64 (xnn + y.nn)) := (blk_cell rW7 3)
                    replace gf3 := blk_free rW7 3
                    replace g4 : W7.cell? ⟨g, 4, none⟩ = some (.float .f64 X.le) := (blk_cell rW7 4)
                    replace gf4 := blk_free rW7 4
                    replace g5 : W7.cell? ⟨g, 5, none⟩ = some (.float .f64 y.gr) := (blk_cell rW7 5)
                    replace gf5 := blk_free rW7 5
                    replace g6 : W7.cell? ⟨g, 6, none⟩ = some (.float .f64 mv) := (blk_cell rW7 6)
                    replace gf6 := blk_free rW7 6
                    replace y0 : W7.cell? ⟨b5, 0, none⟩ = some (.int .i64 y.n) := blk_cell yW7 0
                    replace y1 : W7.cell? ⟨b5, 1, none⟩ = some (.int .i64 y.nn) := blk_cell yW7 1
                    replace y2 : W7.cell? ⟨b5, 2, none⟩ = some (.float .f64 y.le) := blk_cell yW7 2
                    replace y3 : W7.cell? ⟨b5, 3, none⟩ = some (.float .f64 y.gr) := blk_cell yW7 3
                    replace y4 : W7.cell? ⟨b5, 4, none⟩ = some (.float .f64 y.me) := blk_cell yW7 4
                    have HW7 := Lib.hid (And.intro kW7 (And.intro rW7 yW7))
                    clear hW7 kW7 rW7 yW7 HW6
                    clear hrr hyy
                    go_region
                    all_goals go_wp2_with fail
                    all_goals go_ret
                    have hrf : (W7.setCell ⟨g, 2, none⟩ (.int .i64 (xn + y.n))).heap[g]? = some (.cells (rcells ob cb c ({ X with n := xn + y.n, nn := xnn + y.nn, gr := y.gr, me := mv } : G)) 69 (0, 0)) := blk_set HW7.out.2.1 2 _
                    have hkf : Keep (· = g) wr (W7.setCell ⟨g, 2, none⟩ (.int .i64 (xn + y.n))) := HW7.out.1.setCell (p := ⟨g, 2, none⟩) (Or.inl rfl) _
                    have hfin : RAt (W7.setCell ⟨g, 2, none⟩ (.int .i64 (xn + y.n))) g base ob cb c ({ X with n := xn + y.n, nn := xnn + y.nn, gr := y.gr, me := mv } : G) := H5.out.1.turn hkf hrf rfl rfl H5.out.1.le64 HYL.out.2.1
                    refine ⟨rfl, ?_, H5.out.2.2.1.trans (hkf.drew.mono fun _ _ h => Or.inl h)⟩
                    rw [HPX.out]
                    exact hfin.drew
                  · skip
                    have HPX : RowKit.Hid (mergeG x y = ({ X with n := xn + y.n, nn := xnn + y.nn, me := canonF (opF .add X.me (opF .mul (opF .sub y.me X.me) (opF .quo (floatOfInt .f64 y.n) (floatOfInt .f64 (xn + y.n))))) } : G)) := Lib.hid (by rw [HM2.out hy0 hx0]; simp [hL, hG])
                    generalize cmpF y.le X.le = z1 at *
                    generalize cmpF y.gr X.gr = z2 at *
                    have d1 : decide (z1 < 0) = false := by simpa using hL
                    have d2 : decide (0 < z2) = false := by simpa using hG
                    have kk1 := Keep.setCell (bs := (· = g)) (Keep.refl _ wr) (p := ⟨g, 3, none⟩) (Or.inl rfl) (.int .i64 (xnn + y.nn))
                    have hr1 : (wr.setCell ⟨g, 3, none⟩ (.int .i64 (xnn + y.nn))).heap[g]? = some (.cells (rcells ob cb c ({ X with nn := xnn + y.nn } : G)) 69 (0, 0)) := blk_set hg5.row 3 _
                    have HS0 := Lib.hid (And.intro kk1 (And.intro hr1 (kk1.same H5.out.2.1 hb5g)))
                    clear kk1 hr1
                    go_wp2_with fail
                    go_region
                    generalize hW1 : (wr.setCell ⟨g, 3, none⟩ (.int .i64 (xnn + y.nn))).drew = W1
                    have kW1 : Keep (· = g) wr W1 := by rw [← hW1]; exact HS0.out.1.drew
                    have rW1 : W1.heap[g]? = some (.cells (rcells ob cb c ({ X with nn := xnn + y.nn } : G)) 69 (0, 0)) := by rw [← hW1]; exact HS0.out.2.1
                    have yW1 : W1.heap[b5]? = some (.cells (lcells y) 55 (0, 0)) := by rw [← hW1]; exact HS0.out.2.2
                    clear g3 g4 g5 g6 gf3 y0 y1 y2 y3 y4 y1f
                    have g2 : W1.cell? ⟨g, 2, none⟩ = some (.int .i64 xn) := (by rw [← hXn]; exact (blk_cell rW1 2))
                    have gf2 := blk_free rW1 2
                    have g3 : W1.cell? ⟨g, 3, none⟩ = some (.int .i64 (xnn + y.nn)) := (blk_cell rW1 3)
                    have gf3 := blk_free rW1 3
                    have g4 : W1.cell? ⟨g, 4, none⟩ = some (.float .f64 X.le) := (blk_cell rW1 4)
                    have gf4 := blk_free rW1 4
                    have g5 : W1.cell? ⟨g, 5, none⟩ = some (.float .f64 X.gr) := (blk_cell rW1 5)
                    have gf5 := blk_free rW1 5
                    have g6 : W1.cell? ⟨g, 6, none⟩ = some (.float .f64 X.me) := (blk_cell rW1 6)
                    have gf6 := blk_free rW1 6
                    have y0 : W1.cell? ⟨b5, 0, none⟩ = some (.int .i64 y.n) := blk_cell yW1 0
                    have y1 : W1.cell? ⟨b5, 1, none⟩ = some (.int .i64 y.nn) := blk_cell yW1 1
                    have y2 : W1.cell? ⟨b5, 2, none⟩ = some (.float .f64 y.le) := blk_cell yW1 2
                    have y3 : W1.cell? ⟨b5, 3, none⟩ = some (.float .f64 y.gr) := blk_cell yW1 3
                    have y4 : W1.cell? ⟨b5, 4, none⟩ = some (.float .f64 y.me) := blk_cell yW1 4
                    have HW1 := Lib.hid (And.intro kW1 (And.intro rW1 yW1))
                    clear hW1 kW1 rW1 yW1
                    go_wp2_with fail
                    go_quiet ((go_at_call 27; exact Calls.quiet_of_same ((HCL.out _).mono fun _ _ ⟨he, hw⟩ => ⟨he, hw.symm⟩)))
                    generalize hW2 : W1.drewN nq = W2
                    have kW2 : Keep (· = g) wr W2 := by rw [← hW2]; exact HW1.out.1.drewN nq
                    have rW2 : W2.heap[g]? = some (.cells (rcells ob cb c ({ X with nn := xnn + y.nn } : G)) 69 (0, 0)) := by rw [← hW2]; exact HW1.out.2.1
                    have yW2 : W2.heap[b5]? = some (.cells (lcells y) 55 (0, 0)) := by rw [← hW2]; exact HW1.out.2.2
                    replace g2 : W2.cell? ⟨g, 2, none⟩ = some (.int .i64 xn) := (by rw [← hXn]; exact (blk_cell rW2 2))
                    replace gf2 := blk_free rW2 2
                    replace g3 : W2.cell? ⟨g, 3, none⟩ = some (.int .i64 (xnn + y.nn)) := (blk_cell rW2 3)
                    replace gf3 := blk_free rW2 3
                    replace g4 : W2.cell? ⟨g, 4, none⟩ = some (.float .f64 X.le) := (blk_cell rW2 4)
                    replace gf4 := blk_free rW2 4
                    replace g5 : W2.cell? ⟨g, 5, none⟩ = some (.float .f64 X.gr) := (blk_cell rW2 5)
                    replace gf5 := blk_free rW2 5
                    replace g6 : W2.cell? ⟨g, 6, none⟩ = some (.float .f64 X.me) := (blk_cell rW2 6)
                    replace gf6 := blk_free rW2 6
                    replace y0 : W2.cell? ⟨b5, 0, none⟩ = some (.int .i64 y.n) := blk_cell yW2 0
                    replace y1 : W2.cell? ⟨b5, 1, none⟩ = some (.int .i64 y.nn) := blk_cell yW2 1
                    replace y2 : W2.cell? ⟨b5, 2, none⟩ = some (.float .f64 y.le) := blk_cell yW2 2
                    replace y3 : W2.cell? ⟨b5, 3, none⟩ = some (.float .f64 y.gr) := blk_cell yW2 3
                    replace y4 : W2.cell? ⟨b5, 4, none⟩ = some (.float .f64 y.me) := blk_cell yW2 4
                    have HW2 := Lib.hid (And.intro kW2 (And.intro rW2 yW2))
                    clear hW2 kW2 rW2 yW2 HW1
                    go_wp2_with fail
                    go_quiet ((go_at_call 27; exact Calls.quiet_of_same ((HCG.out _).mono fun _ _ ⟨he, hw⟩ => ⟨he, hw.symm⟩)))
                    generalize hW3 : W2.drewN nq = W3
                    have kW3 : Keep (· = g) wr W3 := by rw [← hW3]; exact HW2.out.1.drewN nq
                    have rW3 : W3.heap[g]? = some (.cells (rcells ob cb c ({ X with nn := xnn + y.nn } : G)) 69 (0, 0)) := by rw [← hW3]; exact HW2.out.2.1
                    have yW3 : W3.heap[b5]? = some (.cells (lcells y) 55 (0, 0)) := by rw [← hW3]; exact HW2.out.2.2
                    replace g2 : W3.cell? ⟨g, 2, none⟩ = some (.int .i64 xn) := (by rw [← hXn]; exact (blk_cell rW3 2))
                    replace gf2 := blk_free rW3 2
                    replace g3 : W3.cell? ⟨g, 3, none⟩ = some (.int .i64 (xnn + y.nn)) := (blk_cell rW3 3)
                    replace gf3 := blk_free rW3 3
                    replace g4 : W3.cell? ⟨g, 4, none⟩ = some (.float .f64 X.le) := (blk_cell rW3 4)
                    replace gf4 := blk_free rW3 4
                    replace g5 : W3.cell? ⟨g, 5, none⟩ = some (.float .f64 X.gr) := (blk_cell rW3 5)
                    replace gf5 := blk_free rW3 5
                    replace g6 : W3.cell? ⟨g, 6, none⟩ = some (.float .f64 X.me) := (blk_cell rW3 6)
                    replace gf6 := blk_free rW3 6
                    replace y0 : W3.cell? ⟨b5, 0, none⟩ = some (.int .i64 y.n) := blk_cell yW3 0
                    replace y1 : W3.cell? ⟨b5, 1, none⟩ = some (.int .i64 y.nn) := blk_cell yW3 1
                    replace y2 : W3.cell? ⟨b5, 2, none⟩ = some (.float .f64 y.le) := blk_cell yW3 2
                    replace y3 : W3.cell? ⟨b5, 3, none⟩ = some (.float .f64 y.gr) := blk_cell yW3 3
                    replace y4 : W3.cell? ⟨b5, 4, none⟩ = some (.float .f64 y.me) := blk_cell yW3 4
                    have HW3 := Lib.hid (And.intro kW3 (And.intro rW3 yW3))
                    clear hW3 kW3 rW3 yW3 HW2
                    go_wp2_with fail
                    go_region
                    have HME := Lib.hid (fun w2 w3 w4 => mean_chain2 X.me y.me (floatOfInt .f64 y.n) (floatOfInt .f64 (xn + y.n)) W3.drew w2 w3 w4)
                    generalize canonF (opF .add X.me (opF .mul (opF .sub y.me X.me) (opF .quo (floatOfInt .f64 y.n) (floatOfInt .f64 (xn + y.n))))) = mv at *
                    generalize hdv : (opW .sub y.me X.me W3.drew).1 = dv at *
                    clear hdv
                    generalize hW4 : (opW .sub y.me X.me W3.drew).2 = W4
                    have kW4 : Keep (· = g) wr W4 := by rw [← hW4]; exact Keep_opw _ _ _ HW3.out.1.drew
                    have rW4 : W4.heap[g]? = some (.cells (rcells ob cb c ({ X with nn := xnn + y.nn } : G)) 69 (0, 0)) := by rw [← hW4, opW_heap]; exact HW3.out.2.1
                    have yW4 : W4.heap[b5]? = some (.cells (lcells y) 55 (0, 0)) := by rw [← hW4, opW_heap]; exact HW3.out.2.2
                    replace g2 : W4.cell? ⟨g, 2, none⟩ = some (.int .i64 xn) := (by rw [← hXn]; exact (blk_cell rW4 2))
                    replace gf2 := blk_free rW4 2
                    replace g3 : W4.cell? ⟨g, 3, none⟩ = some (.int .i64 (xnn + y.nn)) := (blk_cell rW4 3)
                    replace gf3 := blk_free rW4 3
                    replace g4 : W4.cell? ⟨g, 4, none⟩ = some (.float .f64 X.le) := (blk_cell rW4 4)
                    replace gf4 := blk_free rW4 4
                    replace g5 : W4.cell? ⟨g, 5, none⟩ = some (.float .f64 X.gr) := (blk_cell rW4 5)
                    replace gf5 := blk_free rW4 5
                    replace g6 : W4.cell? ⟨g, 6, none⟩ = some (.float .f64 X.me) := (blk_cell rW4 6)
                    replace gf6 := blk_free rW4 6
                    replace y0 : W4.cell? ⟨b5, 0, none⟩ = some (.int .i64 y.n) := blk_cell yW4 0
                    replace y1 : W4.cell? ⟨b5, 1, none⟩ = some (.int .i64 y.nn) := blk_cell yW4 1
                    replace y2 : W4.cell? ⟨b5, 2, none⟩ = some (.float .f64 y.le) := blk_cell yW4 2
                    replace y3 : W4.cell? ⟨b5, 3, none⟩ = some (.float .f64 y.gr) := blk_cell yW4 3
                    replace y4 : W4.cell? ⟨b5, 4, none⟩ = some (.float .f64 y.me) := blk_cell yW4 4
                    have HW4 := Lib.hid (And.intro kW4 (And.intro rW4 yW4))
                    clear hW4 kW4 rW4 yW4 HW3
                    go_wp2_with fail
                    go_region
                    have HME2 := Lib.hid (fun w3 w4 => HME.out W4.drew w3 w4)
                    clear HME
                    generalize hwv : (opW .quo (floatOfInt .f64 y.n) (floatOfInt .f64 (xn + y.n)) W4.drew).1 = wv at *
                    clear hwv
                    generalize hW5 : (opW .quo (floatOfInt .f64 y.n) (floatOfInt .f64 (xn + y.n)) W4.drew).2 = W5
                    have kW5 : Keep (· = g) wr W5 := by rw [← hW5]; exact Keep_opw _ _ _ HW4.out.1.drew
                    have rW5 : W5.heap[g]? = some (.cells (rcells ob cb c ({ X with nn := xnn + y.nn } : G)) 69 (0, 0)) := by rw [← hW5, opW_heap]; exact HW4.out.2.1
                    have yW5 : W5.heap[b5]? = some (.cells (lcells y) 55 (0, 0)) := by rw [← hW5, opW_heap]; exact HW4.out.2.2
                    replace g2 : W5.cell? ⟨g, 2, none⟩ = some (.int .i64 xn) := (by rw [← hXn]; exact (blk_cell rW5 2))
                    replace gf2 := blk_free rW5 2
                    replace g3 : W5.cell? ⟨g, 3, none⟩ = some (.int .i64 (xnn + y.nn)) := (blk_cell rW5 3)
                    replace gf3 := blk_free rW5 3
                    replace g4 : W5.cell? ⟨g, 4, none⟩ = some (.float .f64 X.le) := (blk_cell rW5 4)
                    replace gf4 := blk_free rW5 4
                    replace g5 : W5.cell? ⟨g, 5, none⟩ = some (.float .f64 X.gr) := (blk_cell rW5 5)
                    replace gf5 := blk_free rW5 5
                    replace g6 : W5.cell? ⟨g, 6, none⟩ = some (.float .f64 X.me) := (blk_cell rW5 6)
                    replace gf6 := blk_free rW5 6
                    replace y0 : W5.cell? ⟨b5, 0, none⟩ = some (.int .i64 y.n) := blk_cell yW5 0
                    replace y1 : W5.cell? ⟨b5, 1, none⟩ = some (.int .i64 y.nn) := blk_cell yW5 1
                    replace y2 : W5.cell? ⟨b5, 2, none⟩ = some (.float .f64 y.le) := blk_cell yW5 2
                    replace y3 : W5.cell? ⟨b5, 3, none⟩ = some (.float .f64 y.gr) := blk_cell yW5 3
                    replace y4 : W5.cell? ⟨b5, 4, none⟩ = some (.float .f64 y.me) := blk_cell yW5 4
                    have HW5 := Lib.hid (And.intro kW5 (And.intro rW5 yW5))
                    clear hW5 kW5 rW5 yW5 HW4
                    go_wp2_with fail
                    refine (canon3_any _ _).mono ?_
                    rintro e w' ⟨rfl, rfl⟩
                    rw [HME2.out]
                    go_wp2_with fail
                    have hrr : (opW .add X.me (opW .mul dv wv W5).1 (opW .mul dv wv W5).2).2.heap[g]? = some (.cells (rcells ob cb c ({ X with nn := xnn + y.nn } : G)) 69 (0, 0)) := by rw [opW_heap, opW_heap]; exact HW5.out.2.1
                    have hyy : (opW .add X.me (opW .mul dv wv W5).1 (opW .mul dv wv W5).2).2.heap[b5]? = some (.cells (lcells y) 55 (0, 0)) := by rw [opW_heap, opW_heap]; exact HW5.out.2.2
                    generalize hW6 : (opW .add X.me (opW .mul dv wv W5).1 (opW .mul dv wv W5).2).2.setCell ⟨g, 6, none⟩ (.float .f64 mv) = W6
                    have kW6 : Keep (· = g) wr W6 := by rw [← hW6]; exact Keep.setCell (Keep_opw _ _ _ (Keep_opw _ _ _ HW5.out.1)) (Or.inl rfl) _
                    have rW6 : W6.heap[g]? = some (.cells (rcells ob cb c ({ X with nn := xnn + y.nn, me := mv } : G)) 69 (0, 0)) := by rw [← hW6]; exact blk_set hrr 6 _
                    have yW6 : W6.heap[b5]? = some (.cells (lcells y) 55 (0, 0)) := by rw [← hW6]; exact (Keep.setCell (bs := (· = g)) (Keep.refl _ (opW .add X.me (opW .mul dv wv W5).1 (opW .mul dv wv W5).2).2) (p := ⟨g, 6, none⟩) (Or.inl rfl) (.float .f64 mv)).same hyy hb5g
                    replace g2 : W6.cell? ⟨g, 2, none⟩ = some (.int .i64 xn) := (by rw [← hXn]; exact (blk_cell rW6 2))
                    replace gf2 := blk_free rW6 2
                    replace g3 : W6.cell? ⟨g, 3, none⟩ = some (.int .i64 (xnn + y.nn)) := (blk_cell rW6 3)
                    replace gf3 := blk_free rW6 3
                    replace g4 : W6.cell? ⟨g, 4, none⟩ = some (.float .f64 X.le) := (blk_cell rW6 4)
                    replace gf4 := blk_free rW6 4
                    replace g5 : W6.cell? ⟨g, 5, none⟩ = some (.float .f64 X.gr) := (blk_cell rW6 5)
                    replace gf5 := blk_free rW6 5
                    replace g6 : W6.cell? ⟨g, 6, none⟩ = some (.float .f64 mv) := (blk_cell rW6 6)
                    replace gf6 := blk_free rW6 6
                    replace y0 : W6.cell? ⟨b5, 0, none⟩ = some (.int .i64 y.n) := blk_cell yW6 0
                    replace y1 : W6.cell? ⟨b5, 1, none⟩ = some (.int .i64 y.nn) := blk_cell yW6 1
                    replace y2 : W6.cell? ⟨b5, 2, none⟩ = some (.float .f64 y.le) := blk_cell yW6 2
                    replace y3 : W6.cell? ⟨b5, 3, none⟩ = some (.float .f64 y.gr) := blk_cell yW6 3
                    replace y4 : W6.cell? ⟨b5, 4, none⟩ = some (.float .f64 y.me) := blk_cell yW6 4
                    have HW6 := Lib.hid (And.intro kW6 (And.intro rW6 yW6))
                    clear hW6 kW6 rW6 yW6 HW5
                    clear hrr hyy
                    go_region
                    all_goals go_wp2_with fail
                    all_goals go_ret
                    have hrf : (W6.setCell ⟨g, 2, none⟩ (.int .i64 (xn + y.n))).heap[g]? = some (.cells (rcells ob cb c ({ X with n := xn + y.n, nn := xnn + y.nn, me := mv } : G)) 69 (0, 0)) := blk_set HW6.out.2.1 2 _
                    have hkf : Keep (· = g) wr (W6.setCell ⟨g, 2, none⟩ (.int .i64 (xn + y.n))) := HW6.out.1.setCell (p := ⟨g, 2, none⟩) (Or.inl rfl) _
                    have hfin : RAt (W6.setCell ⟨g, 2, none⟩ (.int .i64 (xn + y.n))) g base ob cb c ({ X with n := xn + y.n, nn := xnn + y.nn, me := mv } : G) := H5.out.1.turn hkf hrf rfl rfl H5.out.1.le64 H5.out.1.gr64
                    refine ⟨rfl, ?_, H5.out.2.2.1.trans (hkf.drew.mono fun _ _ h => Or.inl h)⟩
                    rw [HPX.out]
                    exact hfin.drew
end Go.Proofs.Ytdkcnbcjjlaidaa
