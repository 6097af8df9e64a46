/- Package linear: seen. By an AI agent. -/
import Derived.Test.YtjiehgfamlidnaaLinK
import Derived.Test.YtjiehgfamlidnaaLinE
import Derived.Test.YtjiehgfamlidnaaAppB
namespace Go.Proofs.Ytjiehgfamlidnaa.Lin
open Go.ChangeShapes Go.WideShapes Go.ChangeAt Go.RowKit
open Md
set_option linter.unusedVariables false
set_option linter.unusedSimpArgs false

theorem look_unit {H : Type} {P : Program} {w : World} {k e t : TypeId} {b n : Nat} {D : DataW H} (hown : w.ownsMap P k unitElem b n D) (KK : Maps.Keyed P k) (ht : P.underlying t = some (.map k e)) (hz : (zeroValue e).run P w = .ok (.agg #[]) w) {key : Value} {kl : Lit} (hkey : keyOf P k key = some kl) :
    Sem.run P (Instr.lookup t (.map (some b)) key true) w = .ok (.tuple #[.agg #[], .bool (Maps.has D kl)]) w := by
  obtain ⟨v, ps, hrun, hv⟩ := hown.look_ok KK ht hz unitElem_mk hkey
  obtain ⟨rfl, _⟩ := unitElem_inv hv
  exact hrun

theorem step_mapUpdate {H : Type} {P : Program} {w : World} {ops : Array Oper} {o : Oper} {a : Act} {K : Act → World → Prop} {Q : Exit → Act → World → Prop} {E : Prop} (hgd : o.guard = none) (m x v : Operand) (t : TypeId) (hop : o.op = Op.mapUpdate t m x v)
    (k e : TypeId) (KK : Maps.Keyed P k) (ht : P.underlying t = some (.map k e)) (b n : Nat) (D : DataW H)
    (hm : a.eval m = .map (some b)) (hown : w.ownsMap P k unitElem b n D) (hn : n < maxLen) (key : Value) (kl : Lit) (hx : a.eval x = key) (hv : a.eval v = .agg #[]) (hkey : keyOf P k key = some kl)
    (h : ∀ w', w'.ownsMap P k unitElem b (n + 1) (D.put kl (.agg [])) → w.mapTurned w' b → K (a.put o.dst undef) w') :
    if Region.wanted o (yielded ops a.tmps) = true then Oper.wp P o a w K Q else E := by
  have hw : Region.wanted o (yielded ops a.tmps) = true := by simp [Region.wanted, hgd]
  rw [if_pos hw]
  obtain ⟨w', hrun, r1, r2⟩ := hown.store KK ht hn hkey unitElem_mk
  unfold Oper.wp
  simp [execOp, hop, hm, hx, hv, hrun, Result.andThen]
  exact h w' r1 r2

def KOk (k : Key) : Prop := k.set < 2 ^ 64 ∧ k.lsns.length = 12 ∧ ∀ x ∈ k.lsns, (Lit.int .i64 x).wf = true
def klit (k : Key) : Lit := kLit k.set k.lsns
theorem klit_inj {a b : Key} (ha : KOk a) (hb : KOk b) (h : klit a = klit b) : a = b := by
  obtain ⟨s1, l1⟩ := a
  obtain ⟨s2, l2⟩ := b
  obtain ⟨e1, e2⟩ := lit_inj ha.1 hb.1 (ha.2.1.trans hb.2.1.symm) ha.2.2 hb.2.2 h
  simp only at e1 e2
  rw [e1, e2]

/-- The search's notes: of what was tried. -/
def TM (w : World) (bt n : Nat) (T : Key → Prop) : Prop := ∃ D : DataW Unit, w.ownsMap Try.prog 71 unitElem bt n D ∧ ∀ k, KOk k → (T k ↔ Maps.has D (klit k) = true)
open Classical in
noncomputable def tB (T : Key → Prop) (k : Key) : Bool := decide (T k)
theorem tB_iff (T : Key → Prop) (k : Key) : tB T k = true ↔ T k := by unfold tB; simp

theorem tm_new (w : World) : TM (w.alloc (.map #[] 0)) w.heap.size 0 (fun _ => False) :=
  ⟨.map [], World.ownsMap_made _ _ _ _, fun k _ => by simp [Maps.has]⟩
theorem tm_kept {w w' : World} {bt n : Nat} {T : Key → Prop} {bad : Nat → Prop} (h : TM w bt n T) (k : Keep bad w w') (hb : ¬ bad bt) : TM w' bt n T := by
  obtain ⟨D, ⟨es, clock, hb2, r⟩, h2⟩ := h
  exact ⟨D, ⟨es, clock, k.same hb2 hb, r⟩, h2⟩
theorem TM.lt {w : World} {bt n : Nat} {T : Key → Prop} (h : TM w bt n T) : bt < w.heap.size := by
  obtain ⟨D, h1, _⟩ := h
  exact h1.lt
theorem TM.mono {w : World} {bt n n' : Nat} {T : Key → Prop} (h : TM w bt n T) (hn : n ≤ n') : TM w bt n' T := by
  obtain ⟨D, h1, h2⟩ := h
  exact ⟨D, h1.mono hn, h2⟩
theorem TM.same {w : World} {bt n : Nat} {T T' : Key → Prop} (h : TM w bt n T) (hT : ∀ k, T k ↔ T' k) : TM w bt n T' := by
  have : T = T' := funext fun k => propext (hT k)
  rw [← this]; exact h
theorem keep_turned {w w' : World} {b : Nat} (h : w.mapTurned w' b) : Keep (· = b) w w' := by
  have hg := h.grown
  obtain ⟨h1, h2, h3, h4, h5⟩ := hg
  exact ⟨by assumption, by assumption, by assumption, by assumption, fun k hk hn => h5 k hk (fun e => hn (by cases e; rfl))⟩
set_option maxRecDepth 100000 in
set_option maxHeartbeats 4000000 in
theorem seen_any {w : World} {b bt n : Nat} {T : Key → Prop} (k : Key) (r3 : w.cell? ⟨b, 3, none⟩ = some (.map (some bt))) (hT : TM w bt n T) (hk : KOk k) (hn : n < 4611686018427387904) :
    Calls Try.prog 40 #[.pointer (some ⟨b, 0, none⟩), .agg (kCells k.set k.lsns).toArray] w fun e w' => e = .returned (.bool (tB T k)) ∧ TM w' bt (n + 1) (fun k' => T k' ∨ k' = k) ∧ Keep (· = bt) w w' := by
  obtain ⟨D, hown, hD⟩ := hT
  have htb : tB T k = Maps.has D (klit k) := by
    rw [Bool.eq_iff_iff, tB_iff]
    exact hD k hk
  have hkey : keyOf Try.prog 71 (.agg (kCells k.set k.lsns).toArray) = some (klit k) := key_of k.set k.lsns hk.1 hk.2.1 hk.2.2
  have hT2 : ∀ k', KOk k' → ((T k' ∨ k' = k) ↔ Maps.has (D.put (klit k) (.agg [])) (klit k') = true) := by
    intro k' hk'
    by_cases e : klit k' = klit k
    · rw [e, Maps.has_put_same hown.isMap (show WideAt.IsKeyLit (klit k) from trivial)]
      simp [klit_inj hk' hk e]
    · rw [Maps.has_put_other e, ← hD k' hk']
      constructor
      · rintro (h | rfl)
        · exact h
        · exact absurd rfl e
      · exact Or.inl
  have HT2 := Lib.hid hT2
  have hbt := hown.lt
  rw [htb]
  clear htb hD hT2
  obtain ⟨st, ls⟩ := k
  obtain ⟨l0, l1, l2, l3, l4, l5, l6, l7, l8, l9, l10, l11, rfl⟩ : ∃ l0 l1 l2 l3 l4 l5 l6 l7 l8 l9 l10 l11, ls = [l0, l1, l2, l3, l4, l5, l6, l7, l8, l9, l10, l11] := by
    match ls, hk.2.1 with
    | [l0, l1, l2, l3, l4, l5, l6, l7, l8, l9, l10, l11], _ => exact ⟨_, _, _, _, _, _, _, _, _, _, _, _, rfl⟩
  clear hk
  simp only at hkey HT2 ⊢
  have hc : (kCells st [l0, l1, l2, l3, l4, l5, l6, l7, l8, l9, l10, l11]).toArray = #[.int .u64 (st : Int), .int .i64 l0, .int .i64 l1, .int .i64 l2, .int .i64 l3, .int .i64 l4, .int .i64 l5, .int .i64 l6, .int .i64 l7, .int .i64 l8, .int .i64 l9, .int .i64 l10, .int .i64 l11] := rfl
  rw [hc] at hkey ⊢
  clear hc
  generalize klit ⟨st, [l0, l1, l2, l3, l4, l5, l6, l7, l8, l9, l10, l11]⟩ = kl at *
  have HO := Lib.hid hown
  have HKEY := Lib.hid hkey
  have HB := Lib.hid hbt
  have hKb : Below w.heap.size w (w.alloc (.cells #[.int .u64 (st : Int), .int .i64 l0, .int .i64 l1, .int .i64 l2, .int .i64 l3, .int .i64 l4, .int .i64 l5, .int .i64 l6, .int .i64 l7, .int .i64 l8, .int .i64 l9, .int .i64 l10, .int .i64 l11] 71)) := (Below.refl _ w).alloc (Nat.le_refl _) _
  have hbk : (w.alloc (.cells #[.int .u64 (st : Int), .int .i64 l0, .int .i64 l1, .int .i64 l2, .int .i64 l3, .int .i64 l4, .int .i64 l5, .int .i64 l6, .int .i64 l7, .int .i64 l8, .int .i64 l9, .int .i64 l10, .int .i64 l11] 71)).heap[w.heap.size]? = some (.cells #[.int .u64 (st : Int), .int .i64 l0, .int .i64 l1, .int .i64 l2, .int .i64 l3, .int .i64 l4, .int .i64 l5, .int .i64 l6, .int .i64 l7, .int .i64 l8, .int .i64 l9, .int .i64 l10, .int .i64 l11] 71 (0, 0)) := blk_new w _
  have HO1 := Lib.hid (hown.alloc (.cells #[.int .u64 (st : Int), .int .i64 l0, .int .i64 l1, .int .i64 l2, .int .i64 l3, .int .i64 l4, .int .i64 l5, .int .i64 l6, .int .i64 l7, .int .i64 l8, .int .i64 l9, .int .i64 l10, .int .i64 l11] 71))
  clear hkey hbt hown HO
  go_enter Try.func40, Try.ntmps40
  go_wp2_with fail
  generalize w.alloc (.cells #[.int .u64 (st : Int), .int .i64 l0, .int .i64 l1, .int .i64 l2, .int .i64 l3, .int .i64 l4, .int .i64 l5, .int .i64 l6, .int .i64 l7, .int .i64 l8, .int .i64 l9, .int .i64 l10, .int .i64 l11] 71) = W at *
  have R3 : W.cell? ⟨b, 3, none⟩ = some (.map (some bt)) := (hKb.cell (cell_in r3)).trans r3
  have HW := Lib.hid (And.intro hKb hbk)
  obtain ⟨k0, k1, k2, k3, k4, k5, k6, k7, k8, k9, k10, k11, k12⟩ : W.cell? ⟨w.heap.size, 0, none⟩ = some (.int .u64 (st : Int)) ∧ W.cell? ⟨w.heap.size, 1, none⟩ = some (.int .i64 l0) ∧ W.cell? ⟨w.heap.size, 2, none⟩ = some (.int .i64 l1) ∧ W.cell? ⟨w.heap.size, 3, none⟩ = some (.int .i64 l2) ∧ W.cell? ⟨w.heap.size, 4, none⟩ = some (.int .i64 l3) ∧ W.cell? ⟨w.heap.size, 5, none⟩ = some (.int .i64 l4) ∧ W.cell? ⟨w.heap.size, 6, none⟩ = some (.int .i64 l5) ∧ W.cell? ⟨w.heap.size, 7, none⟩ = some (.int .i64 l6) ∧ W.cell? ⟨w.heap.size, 8, none⟩ = some (.int .i64 l7) ∧ W.cell? ⟨w.heap.size, 9, none⟩ = some (.int .i64 l8) ∧ W.cell? ⟨w.heap.size, 10, none⟩ = some (.int .i64 l9) ∧ W.cell? ⟨w.heap.size, 11, none⟩ = some (.int .i64 l10) ∧ W.cell? ⟨w.heap.size, 12, none⟩ = some (.int .i64 l11) := ⟨blk_cell hbk 0, blk_cell hbk 1, blk_cell hbk 2, blk_cell hbk 3, blk_cell hbk 4, blk_cell hbk 5, blk_cell hbk 6, blk_cell hbk 7, blk_cell hbk 8, blk_cell hbk 9, blk_cell hbk 10, blk_cell hbk 11, blk_cell hbk 12⟩
  clear hKb hbk r3
  have m1 := World.new_ne W _ k0
  have m2 := World.new_ne W _ R3
  have hz : ∀ W : World, (zeroValue 81).run Try.prog W = .ok (.agg #[]) W := fun W => by kernel_rfl
  have hL1 := look_unit HO1.out.drew madeKeyed Try.underlying73 (hz _) HKEY.out
  have hL2 := fun O => look_unit (HO1.out.alloc O).drew madeKeyed Try.underlying73 (hz _) HKEY.out
  have hz1 : w.heap.size < W.heap.size := cell_in k0
  have hz2 : b < W.heap.size := cell_in R3
  have R3' := fun o => past hz2 R3 o
  have p0 := fun o => past hz1 k0 o
  have p1 := fun o => past hz1 k1 o
  have p2 := fun o => past hz1 k2 o
  have p3 := fun o => past hz1 k3 o
  have p4 := fun o => past hz1 k4 o
  have p5 := fun o => past hz1 k5 o
  have p6 := fun o => past hz1 k6 o
  have p7 := fun o => past hz1 k7 o
  have p8 := fun o => past hz1 k8 o
  have p9 := fun o => past hz1 k9 o
  have p10 := fun o => past hz1 k10 o
  have p11 := fun o => past hz1 k11 o
  have p12 := fun o => past hz1 k12 o
  generalize hgh : Maps.has D kl = hh at *
  go_region
  have hKW : Below W.heap.size W (W.alloc (.cells #[] 81)) := (Below.refl _ W).alloc (Nat.le_refl _) _
  have HO2 := Lib.hid (HO1.out.alloc (.cells #[] 81))
  have HK2 := Lib.hid (HW.out.1.trans (hKW.mono HW.out.1.size))
  have R3'' := R3' (.cells #[] 81)
  have q0 := p0 (.cells #[] 81)
  have q1 := p1 (.cells #[] 81)
  have q2 := p2 (.cells #[] 81)
  have q3 := p3 (.cells #[] 81)
  have q4 := p4 (.cells #[] 81)
  have q5 := p5 (.cells #[] 81)
  have q6 := p6 (.cells #[] 81)
  have q7 := p7 (.cells #[] 81)
  have q8 := p8 (.cells #[] 81)
  have q9 := p9 (.cells #[] 81)
  have q10 := p10 (.cells #[] 81)
  have q11 := p11 (.cells #[] 81)
  have q12 := p12 (.cells #[] 81)
  clear hL1 hL2 R3' R3 hKW m1 m2 HO1 HW p0 k0 p1 k1 p2 k2 p3 k3 p4 k4 p5 k5 p6 k6 p7 k7 p8 k8 p9 k9 p10 k10 p11 k11 p12 k12
  generalize W.alloc (.cells #[] 81) = W2 at *
  obtain ⟨W3, hrun, hown3, hturn⟩ := HO2.out.drew.drew.store madeKeyed Try.underlying73 (show n < maxLen from by unfold maxLen; omega) HKEY.out (unitElem_mk (H := Unit))
  have H3 := Lib.hid (And.intro hown3 hturn)
  clear hown3 hturn
  go_wp2_with fail
  go_region
  go_wp2_with fail
  go_ret
  refine ⟨by rw [hgh]; rfl, ⟨_, H3.out.1, HT2.out⟩, ?_⟩
  exact ((Keep.of_below HK2.out).mono (fun _ _ h => h.elim)).trans (((Keep.refl _ W2).drew.drew).trans (keep_turned H3.out.2))
end Go.Proofs.Ytjiehgfamlidnaa.Lin
