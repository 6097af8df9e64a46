/- A part of the proof of ScriptBlanks: nothing is assumed. By an AI agent. -/
import Derived.Test.YtkkecpamnnojoaaGreatDoorBq17
import Derived.Deep.RegionHeld3
namespace Go.Proofs.YtkkecpamnnojoaaGreatDoor
open Go.ChangeShapes Go.WideShapes Go.ChangeAt Go.RowKit Go.Shelf
open Bt Dc By
set_option linter.unusedVariables false
namespace Sc

theorem SlAt.val {w : World} {v : Value} {n : Nat} {xs : List Value} (h : SlAt w v n xs) : ∃ o cap, v = .slice o n cap := by
 obtain ⟨o, cap, h1, -⟩ := h
 exact ⟨o, cap, h1⟩
theorem manyA {p : Play} (h : 64 < p.faults.length ∨ 16 < p.tasks.length ∨ 65536 < p.picks.length ∨ 16 < p.ends.length) : manyF p = true := by unfold manyF; rw [decide_eq_true h]; rfl
set_option maxRecDepth 100000 in
set_option maxHeartbeats 8000000 in
theorem many_any (m : M) (w : World) (h : Seen w m) (hb : m.fs.length ≤ 1099511627776 ∧ m.ts.length ≤ 1099511627776 ∧ m.ps.length ≤ 1099511627776 ∧ m.es.length ≤ 1099511627776) :
  Calls Tryz.prog 28 #[.agg m.val] w fun e w' => e = .returned (.bool (manyF m.play)) ∧ Keep (fun _ => False) w w' := by
 obtain ⟨o1, c1, hv1⟩ := h.fs.val
 obtain ⟨o2, c2, hv2⟩ := h.ts.val
 obtain ⟨o3, c3, hv3⟩ := h.ps.val
 obtain ⟨o4, c4, hv4⟩ := h.es.val
 obtain ⟨n1, hn1⟩ : ∃ n, m.fs.length = n := ⟨_, rfl⟩
 obtain ⟨n2, hn2⟩ : ∃ n, m.ts.length = n := ⟨_, rfl⟩
 obtain ⟨n3, hn3⟩ : ∃ n, m.ps.length = n := ⟨_, rfl⟩
 obtain ⟨n4, hn4⟩ : ∃ n, m.es.length = n := ⟨_, rfl⟩
 have HP := Lib.hid (And.intro (show m.play.faults.length = n1 from hn1) (And.intro (show m.play.tasks.length = n2 from by unfold M.play; simpa using hn2) (And.intro (show m.play.picks.length = n3 from hn3) (show m.play.ends.length = n4 from by unfold M.play; simpa using hn4))))
 unfold M.val
 rw [hv1, hv2, hv3, hv4, hn1, hn2, hn3, hn4]
 have HH := Lib.hid (And.intro h (And.intro hn2 (And.intro hn4 (And.intro hv2 hv4))))
 rw [hn1, hn2, hn3, hn4] at hb
 obtain ⟨hb1, hb2, hb3, hb4⟩ := hb
 clear h hv1 hv2 hv3 hv4 hn1 hn2 hn3 hn4
 by_cases g1 : 64 < n1
 ·have HR := Lib.hid (manyA (p := m.play) (by rw [HP.out.1]; exact Or.inl g1))
  have i1 : (64 : Int) < (n1 : Int) := by omega
  go_enter Tryz.func28, Tryz.ntmps28
  go_wp2_with fail
  go_ret
  exact ⟨by rw [HR.out]; rfl, (Keep.refl _ w).alloc _⟩
 have i1 : ¬ (64 : Int) < (n1 : Int) := by omega
 by_cases g2 : 16 < n2
 ·have HR := Lib.hid (manyA (p := m.play) (by rw [HP.out.2.1]; exact Or.inr (Or.inl g2)))
  have i2 : (16 : Int) < (n2 : Int) := by omega
  go_enter Tryz.func28, Tryz.ntmps28
  go_wp2_with fail
  go_ret
  exact ⟨by rw [HR.out]; rfl, (Keep.refl _ w).alloc _⟩
 have i2 : ¬ (16 : Int) < (n2 : Int) := by omega
 by_cases g3 : 65536 < n3
 ·have HR := Lib.hid (manyA (p := m.play) (by rw [HP.out.2.2.1]; exact Or.inr (Or.inr (Or.inl g3))))
  have i3 : (65536 : Int) < (n3 : Int) := by omega
  go_enter Tryz.func28, Tryz.ntmps28
  go_wp2_with fail
  go_ret
  exact ⟨by rw [HR.out]; rfl, (Keep.refl _ w).alloc _⟩
 have i3 : ¬ (65536 : Int) < (n3 : Int) := by omega
 by_cases g4 : 16 < n4
 ·have HR := Lib.hid (manyA (p := m.play) (by rw [HP.out.2.2.2]; exact Or.inr (Or.inr (Or.inr g4))))
  have i4 : (16 : Int) < (n4 : Int) := by omega
  go_enter Tryz.func28, Tryz.ntmps28
  go_wp2_with fail
  go_ret
  exact ⟨by rw [HR.out]; rfl, (Keep.refl _ w).alloc _⟩
 have i4 : ¬ (16 : Int) < (n4 : Int) := by omega
 have HM := Lib.hid (show manyF m.play = (m.ts.any (fun t => decide (256 < t.l.length)) || m.es.any (fun x => decide (64 < x.fs.length ∨ 256 < x.ks.length))) from by
  unfold manyF
  rw [HP.out.1, HP.out.2.1, HP.out.2.2.1, HP.out.2.2.2, decide_eq_false (by omega)]
  simp [M.play, List.any_map, Function.comp_def, ME.reopen]
  rfl)
 go_enter Tryz.func28, Tryz.ntmps28
 go_wp2_with fail
 have hbx := blk_new w (.cells #[.int .i64 m.disk, .int .i64 m.segMax, .int .i64 m.base, .int .i64 m.qcap, .int .i64 m.qbytes, .int .i64 m.pmost, .int .i64 m.pbytes, .float .f64 m.linger, .float .f64 m.alpha, .slice o1 n1 c1, .slice o2 n2 c2, .slice o3 n3 c3, .int .i64 m.most, .slice o4 n4 c4] 40)
 have HBX := Lib.hid hbx
 clear hbx
 go_loopg [4, 32] n2 (fun gq s4 s32 wr => ∃ k : Nat, gq + k = n2 ∧ s32 = .int .i64 (k : Int) ∧ Hid ((m.ts.take k).any (fun t => decide (256 < t.l.length)) = false ∧ Keep (fun _ => False) w wr ∧ wr.cell? ⟨w.heap.size, 13, none⟩ = some (.slice o4 n4 c4) ∧ w.heap.size < wr.heap.size))
 case atStart => exact ⟨0, by omega, rfl, by simp, (Keep.refl _ w).alloc _, blk_cell HBX.out 13, by simp⟩
 case round =>
  obtain ⟨k, hgk, rfl, HK⟩ := hrel
  by_cases hk : k < n2
  ·have hkI : (k : Int) < (n2 : Int) := by omega
   have hk0 : (0 : Int) ≤ (k : Int) := by omega
   have hkl : k < m.ts.length := by rw [HH.out.2.1]; exact hk
   obtain ⟨o', c', e', -, hcs, -⟩ := HH.out.1.ts
   rw [HH.out.2.2.2.1] at e'
   cases e'
   obtain ⟨g, f, rfl, hc, hl⟩ := hcs k (by simpa using hkl)
   have ht := HH.out.1.calls _ (List.getElem_mem hkl)
   obtain ⟨o5, c5, hv5⟩ := ht.row.val
   obtain ⟨n5, hn5⟩ : ∃ n, (m.ts[k]).l.length = n := ⟨_, rfl⟩
   have cg : wr.cell? ⟨g, f + k, none⟩ = some (.slice o5 n5 c5) := by
    rw [(HK.out.2.1.cell (p := ⟨g, f + k, none⟩) hl id).trans hc, List.getElem?_map, List.getElem?_eq_getElem hkl, ← hn5, ← hv5]
    rfl
   have htk : m.ts.take (k + 1) = m.ts.take k ++ [m.ts[k]] := by rw [List.take_add_one, List.getElem?_eq_getElem hkl]; rfl
   have HS := Lib.hid (show (m.ts.take (k + 1)).any (fun t => decide (256 < t.l.length)) = decide (256 < n5) from by rw [htk, List.any_append, HK.out.1, ← hn5]; simp)
   have HTK := Lib.hid (show m.ts.any (fun t => decide (256 < t.l.length)) = (decide (256 < n5) || (m.ts.drop (k + 1)).any (fun t => decide (256 < t.l.length))) from by
    rw [← HS.out, ← List.any_append, List.take_append_drop])
   clear hc hcs ht hv5 htk hkl hn5
   by_cases h5 : 256 < n5
   ·have i5 : (256 : Int) < (n5 : Int) := by omega
    have HR := Lib.hid (show manyF m.play = true from by rw [HM.out, HTK.out, decide_eq_true h5]; rfl)
    clear h5
    go_wp2_with fail
    go_ret
    exact ⟨by rw [HR.out]; rfl, HK.out.2.1⟩
   ·have i5 : ¬ (256 : Int) < (n5 : Int) := by omega
    have HR := Lib.hid (show (m.ts.take (k + 1)).any (fun t => decide (256 < t.l.length)) = false from by rw [HS.out, decide_eq_false h5])
    clear h5
    go_wp2_with fail
    go_roundg (gk - 1)
    all_goals first | omega | skip
    exact ⟨k + 1, by omega, by simp, HR.out, HK.out.2⟩
  ·obtain rfl : k = n2 := by omega
   have hkI : ¬ (k : Int) < (k : Int) := by omega
   have hc13 := HK.out.2.2.1
   have hlt := HK.out.2.2.2
   have HM2 := Lib.hid (show manyF m.play = m.es.any (fun x => decide (64 < x.fs.length ∨ 256 < x.ks.length)) from by
    have h := HK.out.1
    rw [List.take_of_length_le (by rw [HH.out.2.1]; exact Nat.le_refl _)] at h
    rw [HM.out, h]; rfl)
   have HK1 := Lib.hid HK.out.2.1
   clear HM HK
   go_wp2_with fail
   go_loopg [6, 43] n4 (fun gq s6 s43 wr => ∃ j : Nat, gq + j = n4 ∧ s43 = .int .i64 (j : Int) ∧ Hid ((m.es.take j).any (fun x => decide (64 < x.fs.length ∨ 256 < x.ks.length)) = false ∧ Keep (fun _ => False) w wr))
   case atStart => exact ⟨0, by omega, rfl, by simp, HK1.out⟩
   case round =>
    obtain ⟨j, hgj, rfl, HJ⟩ := hrel
    by_cases hj : j < n4
    ·have hjI : (j : Int) < (n4 : Int) := by omega
     have hj0 : (0 : Int) ≤ (j : Int) := by omega
     have hjl : j < m.es.length := by rw [HH.out.2.2.1]; exact hj
     obtain ⟨o', c', e', -, hcs, -⟩ := HH.out.1.es
     rw [HH.out.2.2.2.2] at e'
     cases e'
     obtain ⟨g, f, rfl, hgl⟩ := hcs.some (by rw [flatc_len _ 3 (fun _ => rfl)]; omega)
     have he := HH.out.1.ends _ (List.getElem_mem hjl)
     have hcs2 := hcs.kept HJ.out.2
     have d0 := hcs2.get 3 (fun _ => rfl) (List.getElem?_eq_getElem hjl) 0 (by omega)
     have d1 := hcs2.get 3 (fun _ => rfl) (List.getElem?_eq_getElem hjl) 1 (by omega)
     have d2 := hcs2.get 3 (fun _ => rfl) (List.getElem?_eq_getElem hjl) 2 (by omega)
     unfold ME.cells at d0 d1 d2
     simp at d0 d1 d2
     obtain ⟨o5, c5, hv5⟩ := he.keeps.val
     obtain ⟨o6, c6, hv6⟩ := he.faults.val
     obtain ⟨n5, hn5⟩ : ∃ n, (m.es[j]).ks.length = n := ⟨_, rfl⟩
     obtain ⟨n6, hn6⟩ : ∃ n, (m.es[j]).fs.length = n := ⟨_, rfl⟩
     rw [hv5, hn5] at d1
     rw [hv6, hn6] at d2
     have htk : m.es.take (j + 1) = m.es.take j ++ [m.es[j]] := by rw [List.take_add_one, List.getElem?_eq_getElem hjl]; rfl
     have HS := Lib.hid (show (m.es.take (j + 1)).any (fun x => decide (64 < x.fs.length ∨ 256 < x.ks.length)) = decide (64 < n6 ∨ 256 < n5) from by rw [htk, List.any_append, HJ.out.1, ← hn5, ← hn6]; simp)
     have HTK := Lib.hid (show m.es.any (fun x => decide (64 < x.fs.length ∨ 256 < x.ks.length)) = (decide (64 < n6 ∨ 256 < n5) || (m.es.drop (j + 1)).any (fun x => decide (64 < x.fs.length ∨ 256 < x.ks.length))) from by
      rw [← HS.out, ← List.any_append, List.take_append_drop])
     generalize (m.es[j]).dir = dr at *
     clear he hcs hcs2 hv5 hv6 htk hjl hn5 hn6
     by_cases h6 : 64 < n6
     ·have i6 : (64 : Int) < (n6 : Int) := by omega
      have HR := Lib.hid (show manyF m.play = true from by rw [HM2.out, HTK.out, decide_eq_true (Or.inl h6)]; rfl)
      clear h6
      go_wp2_with fail
      go_ret
      exact ⟨by rw [HR.out]; rfl, HJ.out.2.alloc _⟩
     ·have i6 : ¬ (64 : Int) < (n6 : Int) := by omega
      by_cases h5 : 256 < n5
      ·have i5 : (256 : Int) < (n5 : Int) := by omega
       have HR := Lib.hid (show manyF m.play = true from by rw [HM2.out, HTK.out, decide_eq_true (Or.inr h5)]; rfl)
       clear h5 h6
       go_wp2_with fail
       go_ret
       exact ⟨by rw [HR.out]; rfl, HJ.out.2.alloc _⟩
      ·have i5 : ¬ (256 : Int) < (n5 : Int) := by omega
       have HR := Lib.hid (show (m.es.take (j + 1)).any (fun x => decide (64 < x.fs.length ∨ 256 < x.ks.length)) = false from by rw [HS.out, decide_eq_false (by omega)])
       clear h5 h6
       go_wp2_with fail
       go_roundg (gk - 1)
       all_goals first | omega | skip
       exact ⟨j + 1, by omega, by simp, HR.out, HJ.out.2.alloc _⟩
    ·obtain rfl : j = n4 := by omega
     have hjI : ¬ (j : Int) < (j : Int) := by omega
     have HR := Lib.hid (show manyF m.play = false from by
      have h := HJ.out.1
      rw [List.take_of_length_le (by rw [HH.out.2.2.1]; exact Nat.le_refl _)] at h
      rw [HM2.out, h])
     have HJ1 := Lib.hid HJ.out.2
     clear HJ
     go_wp2_with fail
     go_ret
     exact ⟨by rw [HR.out]; rfl, HJ1.out⟩

def rightF (c : Call) : Bool :=
 if c.kind = 1 ∨ c.kind = 2 then decide (c.lsn = 0) else if c.kind = 3 ∨ c.kind = 7 then decide (c.lsn = 0 ∧ c.data = []) else if c.kind = 4 ∨ c.kind = 5 ∨ c.kind = 6 then decide (c.data = []) else false
set_option maxRecDepth 100000 in
set_option maxHeartbeats 8000000 in
set_option linter.unusedSimpArgs false in
theorem right_any (c : MC) (w : World) (h : SlAt w c.d c.c.data.length (u8v c.c.data)) :
  Calls Tryz.prog 60 #[.agg #[.int .i64 c.c.kind, .int .i64 c.c.lsn, c.d]] w fun e w' => e = .returned (.bool (rightF c.c)) ∧ Keep (fun _ => False) w w' := by
 obtain ⟨o, cp, hv⟩ := h.val
 rw [hv]
 obtain ⟨n, hn⟩ : ∃ n, c.c.data.length = n := ⟨_, rfl⟩
 have hd : c.c.data = [] ↔ n = 0 := by rw [← hn]; exact List.length_eq_zero_iff.symm
 obtain ⟨k, hk⟩ : ∃ k, c.c.kind = k := ⟨_, rfl⟩
 obtain ⟨l, hl⟩ : ∃ l, c.c.lsn = l := ⟨_, rfl⟩
 have HX := Lib.hid (show rightF c.c = (if k = 1 ∨ k = 2 then decide (l = 0) else if k = 3 ∨ k = 7 then decide (l = 0 ∧ n = 0) else if k = 4 ∨ k = 5 ∨ k = 6 then decide (n = 0) else false) from by
  unfold rightF; rw [hk, hl]; simp only [hd])
 rw [hn, hk, hl]
 clear h hv hn hk hl hd
 have hK := (Keep.refl (fun _ => False) w).alloc (.cells #[.int .i64 k, .int .i64 l, .slice o n cp] 76)
 have HK := Lib.hid hK
 clear hK
 have b1 : ∀ j : Int, k ≠ j → (k == j) = false := fun j h => by rw [beq_eq_false_iff_ne]; exact h
 have hl0 : (l == 0) = decide (l = 0) := by by_cases h : l = 0 <;> simp [h]
 have hn0 : ((n : Int) == 0) = decide (n = 0) := by by_cases h : n = 0 <;> simp [h]
 have finish : ∀ b : Bool, (if k = 1 ∨ k = 2 then decide (l = 0) else if k = 3 ∨ k = 7 then decide (l = 0 ∧ n = 0) else if k = 4 ∨ k = 5 ∨ k = 6 then decide (n = 0) else false) = b → rightF c.c = b := fun b h => by rw [HX.out, h]
 have HF := Lib.hid finish
 clear finish
 rcases (show k = 1 ∨ k = 2 ∨ k = 3 ∨ k = 7 ∨ k = 4 ∨ k = 5 ∨ k = 6 ∨ (k ≠ 1 ∧ k ≠ 2 ∧ k ≠ 3 ∧ k ≠ 7 ∧ k ≠ 4 ∧ k ≠ 5 ∧ k ≠ 6) by omega) with rfl | rfl | rfl | rfl | rfl | rfl | rfl | ⟨k1, k2, k3, k7, k4, k5, k6⟩
 ·clear b1
  go_enter Tryz.func60, Tryz.ntmps60
  go_wp2_with fail
  go_ret
  exact ⟨by rw [HF.out _ rfl]; simp [hl0], HK.out⟩
 ·clear b1
  go_enter Tryz.func60, Tryz.ntmps60
  go_wp2_with fail
  go_ret
  exact ⟨by rw [HF.out _ rfl]; simp [hl0], HK.out⟩
 ·clear b1
  by_cases h : l = 0
  ·have hb : (l == 0) = true := by rw [h]; rfl
   have hx : decide (l = 0 ∧ n = 0) = decide (n = 0) := by simp [h]
   have HQ := Lib.hid hx
   clear h hx hl0
   go_enter Tryz.func60, Tryz.ntmps60
   go_wp2_with fail
   go_ret
   exact ⟨by rw [HF.out _ rfl]; simp [HQ.out, hn0], HK.out⟩
  ·have hb : (l == 0) = false := by rw [beq_eq_false_iff_ne]; exact h
   have hx : decide (l = 0 ∧ n = 0) = false := by simp [h]
   have HQ := Lib.hid hx
   clear h hx hl0
   go_enter Tryz.func60, Tryz.ntmps60
   go_wp2_with fail
   go_ret
   exact ⟨by rw [HF.out _ rfl]; simp [HQ.out], HK.out⟩
 ·clear b1
  by_cases h : l = 0
  ·have hb : (l == 0) = true := by rw [h]; rfl
   have hx : decide (l = 0 ∧ n = 0) = decide (n = 0) := by simp [h]
   have HQ := Lib.hid hx
   clear h hx hl0
   go_enter Tryz.func60, Tryz.ntmps60
   go_wp2_with fail
   go_ret
   exact ⟨by rw [HF.out _ rfl]; simp [HQ.out, hn0], HK.out⟩
  ·have hb : (l == 0) = false := by rw [beq_eq_false_iff_ne]; exact h
   have hx : decide (l = 0 ∧ n = 0) = false := by simp [h]
   have HQ := Lib.hid hx
   clear h hx hl0
   go_enter Tryz.func60, Tryz.ntmps60
   go_wp2_with fail
   go_ret
   exact ⟨by rw [HF.out _ rfl]; simp [HQ.out], HK.out⟩
 ·clear b1
  go_enter Tryz.func60, Tryz.ntmps60
  go_wp2_with fail
  go_ret
  exact ⟨by rw [HF.out _ rfl]; simp [hl0, hn0], HK.out⟩
 ·clear b1
  go_enter Tryz.func60, Tryz.ntmps60
  go_wp2_with fail
  go_ret
  exact ⟨by rw [HF.out _ rfl]; simp [hl0, hn0], HK.out⟩
 ·clear b1
  go_enter Tryz.func60, Tryz.ntmps60
  go_wp2_with fail
  go_ret
  exact ⟨by rw [HF.out _ rfl]; simp [hl0, hn0], HK.out⟩
 ·have e1 := b1 1 k1
  have e2 := b1 2 k2
  have e3 := b1 3 k3
  have e4 := b1 4 k4
  have e5 := b1 5 k5
  have e6 := b1 6 k6
  have e7 := b1 7 k7
  have HQ := Lib.hid (HF.out false (by simp [k1, k2, k3, k4, k5, k6, k7]))
  clear b1 HF HX
  go_enter Tryz.func60, Tryz.ntmps60
  go_wp2_with fail
  go_ret
  exact ⟨by rw [HQ.out]; rfl, HK.out⟩

theorem wpList_append_slk {P : Program} (w : World) {ops : Array Oper} {rest : List Oper} {o : Oper} {a : Act} {Q : Exit → Act → World → Prop} (hgd : o.guard = none) (s x : Operand) (t : TypeId)
  (ho : o.op = .call { callee := .builtin .append, args := #[s, x], argTypes := #[t, t] })
  (base : Nat) (e : TypeId) (i : TypeInfo) (z : Value) (size bytes : Nat) (ht : P.underlying t = some (.slice e)) (hi : P.info? e = some i) (hz : i.zero = some z)
  (hsize : i.size = size) (hby : i.bytes = bytes) (hzs : z.cells.size = size) (hsz : 0 < size)
  (v : Value) (n : Nat) (xs : List Value) (hs : a.eval s = v) (hown : w.ownsRow base e size v n xs)
  (m : Nat) (news : List Value) (oa : Option Addr) (c : Nat) (hx : a.eval x = .slice oa m c) (hl : news.length = m * size) (hnews : CsAt w oa news) (h1 : ∀ u ∈ news, u.oneCell' = true)
  (hc : oa = none → c = 0) (h63 : n + m ≤ maxLen) (hbytes : (n + m) * bytes ≤ 140737488355328) (hbase : base ≤ w.heap.size)
  (h : ∀ v' w', w'.ownsRow base e size v' (n + m) (xs ++ news) → w.grownBy w' v.ownBlock → (v'.ownBlock = v.ownBlock ∨ v'.ownBlock = some w.heap.size) → wpList P ops Q rest (a.put o.dst v') w') :
  wpList P ops Q (o :: rest) a w := by
 cases oa with
 | some ad =>
  refine wpList_append_own_at (P := P) w hgd s x t ho base e i z size bytes ht hi hz hsize hby hzs hsz v n xs hs hown ad m c news hx hl ?_ h1 h63 hbytes hbase fun v' w' h2 h3 _ h5 => h v' w' h2 h3 h5
  intro j u hj
  obtain ⟨g, f, e1, e2, -⟩ := hnews j (List.getElem?_eq_some_iff.1 hj).1
  cases e1
  rw [addr_add, e2, hj]
 | none =>
  have hn0 : news = [] := by
   cases news with
   | nil => rfl
   | cons y r => obtain ⟨_, _, e1, _⟩ := hnews 0 (by simp); cases e1
  subst hn0
  have hm0 : m = 0 := by
   rcases Nat.eq_zero_or_pos m with h | h
   ·exact h
   ·have := Nat.mul_pos h hsz; simp at hl; omega
  subst hm0
  rw [hc rfl] at hx
  refine wpList_plain hgd fun K hK => ?_
  have hr := run_append_owned_none (P := P) (w := w) base t o.type e i size ht hi v n xs hown
  unfold Oper.wp execOp
  simp only [ho, resolve, invoke, builtin, Sem.run_bind, Sem.run_pure, Result.andThen_ok, List.map_toArray, List.map_cons, List.map_nil, hs, hx, hr]
  refine hK _ _ (h v w ?_ ?_ (Or.inl rfl))
  ·rw [List.append_nil]; exact hown
  ·exact ⟨rfl, rfl, rfl, Nat.le_refl _, fun _ _ _ => rfl⟩
theorem keep_none {w w' : World} (h : w.grownBy w' (Value.slice none 0 0).ownBlock) : Keep (fun _ => False) w w' := ⟨h.os, h.tape, h.output, h.size, fun i hi _ => h.block i hi (by simp [Value.ownBlock])⟩
theorem blk_none {w w' : World} {b : Nat} {o : Obj} (h : w.grownBy w' (Value.slice none 0 0).ownBlock) (hb : w.heap[b]? = some o) : w'.heap[b]? = some o := (keep_none h).same hb id

def endFs (es : List ME) : List Fault := es.flatMap fun e => e.fs
def knownF (p : Play) : Bool := (p.faults ++ p.ends.flatMap (fun e => e.faults)).all (fun f => decide (faultWord f.kind ≠ [])) && p.tasks.all (fun l => l.all rightF)
theorem fsv_app (A B : List Fault) : fsv (A ++ B) = fsv A ++ fsv B := by simp [fsv]
theorem fsv_one {A : List Fault} : ∀ u ∈ fsv A, u.oneCell' = true := by
 intro u hu
 obtain ⟨f, -, h⟩ := List.mem_flatMap.1 hu
 simp [fcells] at h
 rcases h with rfl | rfl | rfl <;> rfl
theorem infoF3 : ∃ i z, Tryz.prog.info? 114 = some i ∧ i.zero = some z ∧ i.size = 3 ∧ i.bytes = 24 ∧ z.cells.size = 3 := by
 have h : (Tryz.prog.info? 114).map (fun i => (i.zero, i.size, i.bytes)) = some (some (.agg #[.int .i64 0, .int .i64 0, .int .i64 0]), 3, 24) := by kernel_rfl
 obtain ⟨i, h1, h2, h3, h4⟩ := info_parts h
 exact ⟨i, _, h1, h2, h3, h4, rfl⟩
theorem endFs_len : ∀ (l : List ME), (∀ e ∈ l, e.fs.length ≤ 64) → (endFs l).length ≤ 64 * l.length
 | [], _ => by simp [endFs]
 | e :: l, h => by
  have h1 := endFs_len l fun x hx => h x (List.mem_cons_of_mem _ hx)
  have h2 := h e (by simp)
  unfold endFs at h1 ⊢
  rw [List.flatMap_cons, List.length_append, List.length_cons]
  omega
theorem grow_row {w w2 : World} {base sz n : Nat} {e : TypeId} {v : Value} {xs : List Value} {o : Obj} (h : w.ownsRow base e sz v n xs) (hg : (w.alloc o).grownBy w2 v.ownBlock) : Keep (fun g => base ≤ g) w w2 :=
 ((Keep.refl (fun g => base ≤ g) w).alloc o).trans ((keep_grown hg).mono fun g _ hv => by
  rcases h.2 with ⟨h1, -⟩ | ⟨g2, c2, cur, h1, h2, -⟩
  ·rw [h1] at hv; cases hv
  ·rw [h1] at hv; cases hv; exact h2)
set_option maxRecDepth 100000 in
set_option maxHeartbeats 16000000 in
theorem known_any (m : M) (w : World) (h : Seen w m) (hb : m.fs.length ≤ 64 ∧ m.ts.length ≤ 16 ∧ (∀ t ∈ m.ts, t.l.length ≤ 256) ∧ m.es.length ≤ 16 ∧ ∀ e ∈ m.es, e.fs.length ≤ 64) :
  Calls Tryz.prog 29 #[.agg m.val] w fun e w' => e = .returned (.bool (knownF m.play)) ∧ Keep (fun _ => False) w w' := by
 obtain ⟨o1, c1, hv1, -, hcs1, hcn1⟩ := h.fs
 obtain ⟨o2, c2, hv2⟩ := h.ts.val
 obtain ⟨o3, c3, hv3⟩ := h.ps.val
 obtain ⟨o4, c4, hv4⟩ := h.es.val
 obtain ⟨n1, hn1⟩ : ∃ n, m.fs.length = n := ⟨_, rfl⟩
 obtain ⟨n2, hn2⟩ : ∃ n, m.ts.length = n := ⟨_, rfl⟩
 obtain ⟨n3, hn3⟩ : ∃ n, m.ps.length = n := ⟨_, rfl⟩
 obtain ⟨n4, hn4⟩ : ∃ n, m.es.length = n := ⟨_, rfl⟩
 have HM := Lib.hid (show knownF m.play = ((m.fs ++ endFs m.es).all (fun f => decide (faultWord f.kind ≠ [])) && m.ts.all (fun t => t.l.all (fun c => rightF c.c))) from by
  unfold knownF endFs
  simp [M.play, List.flatMap_map, List.all_map, Function.comp_def, ME.reopen])
 unfold M.val
 rw [hv1, hv2, hv3, hv4, hn1, hn2, hn3, hn4]
 have HH := Lib.hid (And.intro h (And.intro hn2 (And.intro hn4 (And.intro hv2 (And.intro hv4 (And.intro hn1 hb))))))
 have HC1 := Lib.hid (And.intro hcs1 hcn1)
 have hb1 : n1 ≤ 64 := by rw [← hn1]; exact hb.1
 have hb2 : n2 ≤ 16 := by rw [← hn2]; exact hb.2.1
 have hb4 : n4 ≤ 16 := by rw [← hn4]; exact hb.2.2.2.1
 clear h hv1 hv2 hv3 hv4 hn1 hn2 hn3 hn4 hcs1 hcn1 hb
 obtain ⟨i0, z0, hi0, hz0, hz1, hz2, hz3⟩ := infoF3
 have HI := Lib.hid (And.intro hi0 (And.intro hz0 (And.intro hz1 (And.intro hz2 hz3))))
 clear hi0 hz0 hz1 hz2 hz3
 go_enter Tryz.func29, Tryz.ntmps29
 obtain ⟨W, hW⟩ : ∃ W, w.alloc (.cells #[.int .i64 m.disk, .int .i64 m.segMax, .int .i64 m.base, .int .i64 m.qcap, .int .i64 m.qbytes, .int .i64 m.pmost, .int .i64 m.pbytes, .float .f64 m.linger, .float .f64 m.alpha, .slice o1 n1 c1, .slice o2 n2 c2, .slice o3 n3 c3, .int .i64 m.most, .slice o4 n4 c4] 40) = W := ⟨_, rfl⟩
 have kW : Keep (fun _ => False) w W := by rw [← hW]; exact (Keep.refl _ w).alloc _
 have bW : W.heap[w.heap.size]? = some (.cells #[.int .i64 m.disk, .int .i64 m.segMax, .int .i64 m.base, .int .i64 m.qcap, .int .i64 m.qbytes, .int .i64 m.pmost, .int .i64 m.pbytes, .float .f64 m.linger, .float .f64 m.alpha, .slice o1 n1 c1, .slice o2 n2 c2, .slice o3 n3 c3, .int .i64 m.most, .slice o4 n4 c4] 40 (0, 0)) := by rw [← hW]; exact blk_new _ _
 have sW : W.heap.size = w.heap.size + 1 := by rw [← hW]; simp
 have HW := Lib.hid (And.intro kW (And.intro bW sW))
 have cw9 := blk_cell bW 9
 simp at cw9
 clear kW bW sW
 go_wp2_with (at_builtin; refine wpList_append_slk W rfl (.const (.slice none 0 0)) (.tmp 13) 35 rfl (w.heap.size + 1) 114 i0 z0 3 24 Tryz.underlying35 HI.out.1 HI.out.2.1 HI.out.2.2.1 HI.out.2.2.2.1 HI.out.2.2.2.2 (by decide) (.slice none 0 0) 0 [] rfl (row_nil _ _ _ _) n1 (fsv m.fs) o1 c1 rfl (by unfold fsv; rw [flatc_len _ 3 (fun _ => rfl), HH.out.2.2.2.2.2.1, Nat.mul_comm]) (HC1.out.1.kept HW.out.1) fsv_one HC1.out.2 (by unfold maxLen; omega) (by omega) (by rw [HW.out.2.2]; exact Nat.le_refl _) ?_; intro v1 w1 hrow hgr _; have k1 := HW.out.1.trans (keep_none hgr); have b1 := blk_none hgr HW.out.2.1; have H1 := Lib.hid (And.intro hrow (And.intro k1 b1)); have cc13 := blk_cell b1 13; simp at cc13; clear hrow hgr k1 b1)
 go_loopg [3, 5, 18] n4 (fun gq s3 s5 s18 wr => ∃ k : Nat, gq + k = n4 ∧ s18 = .int .i64 (k : Int) ∧ Hid (∃ L, L = (m.fs ++ endFs (m.es.take k)).length ∧ wr.ownsRow (w.heap.size + 1) 114 3 s3 L (fsv (m.fs ++ endFs (m.es.take k))) ∧ Keep (fun _ => False) w wr ∧ wr.heap[w.heap.size]? = W.heap[w.heap.size]?))
 case atStart => exact ⟨0, by omega, rfl, n1, by rw [← HH.out.2.2.2.2.2.1]; simp [endFs], by simpa [endFs] using H1.out.1, H1.out.2.1, by rw [H1.out.2.2, HW.out.2.1]⟩
 case round =>
  obtain ⟨k, hgk, rfl, HK⟩ := hrel
  obtain ⟨L, hL, hrow, hkp, hbw⟩ := HK
  have HK := Lib.hid (And.intro hL (And.intro hrow (And.intro hkp hbw)))
  by_cases hk : k < n4
  ·have hkI : (k : Int) < (n4 : Int) := by omega
   have hk0 : (0 : Int) ≤ (k : Int) := by omega
   have hkl : k < m.es.length := by rw [HH.out.2.2.1]; exact hk
   obtain ⟨o', c', e', -, hcs, -⟩ := HH.out.1.es
   rw [HH.out.2.2.2.2.1] at e'
   cases e'
   obtain ⟨g, f, rfl, hgl⟩ := hcs.some (by rw [flatc_len _ 3 (fun _ => rfl)]; omega)
   have he := HH.out.1.ends _ (List.getElem_mem hkl)
   have hcs2 := hcs.kept hkp
   have d0 := hcs2.get 3 (fun _ => rfl) (List.getElem?_eq_getElem hkl) 0 (by omega)
   have d1 := hcs2.get 3 (fun _ => rfl) (List.getElem?_eq_getElem hkl) 1 (by omega)
   have d2 := hcs2.get 3 (fun _ => rfl) (List.getElem?_eq_getElem hkl) 2 (by omega)
   unfold ME.cells at d0 d1 d2
   simp at d0 d1 d2
   obtain ⟨o5, c5, hv5⟩ := he.keeps.val
   obtain ⟨o6, c6, hv6, -, hcs6, hcn6⟩ := he.faults
   obtain ⟨n6, hn6⟩ : ∃ n, (m.es[k]).fs.length = n := ⟨_, rfl⟩
   have hb6 : n6 ≤ 64 := by rw [← hn6]; exact HH.out.2.2.2.2.2.2.2.2.2.2 _ (List.getElem_mem hkl)
   rw [hv5] at d1
   rw [hv6, hn6] at d2
   have htk : m.es.take (k + 1) = m.es.take k ++ [m.es[k]] := by rw [List.take_add_one, List.getElem?_eq_getElem hkl]; rfl
   have hap : m.fs ++ endFs (m.es.take (k + 1)) = (m.fs ++ endFs (m.es.take k)) ++ (m.es[k]).fs := by rw [htk]; unfold endFs; rw [List.flatMap_append]; simp only [List.flatMap_cons, List.flatMap_nil, List.append_nil, List.append_assoc]
   have HS := Lib.hid (And.intro hap (And.intro hcs6 (And.intro hcn6 hn6)))
   have hLb : L ≤ 64 + 64 * 16 := by
    have h1 := endFs_len (m.es.take k) (fun e he => HH.out.2.2.2.2.2.2.2.2.2.2 e (List.mem_of_mem_take he))
    have h2 := HH.out.2.2.2.2.2.1
    rw [hL, List.length_append]
    rw [List.length_take] at h1
    omega
   clear hcs hcs2 he hv5 hv6 htk hap hcs6 hcn6 hL hrow hkp hbw hn6
   generalize (m.es[k]).ks.length = n5 at *
   generalize (m.es[k]).dir = dr at *
   go_wp2_with (at_builtin; refine wpList_append_slk _ rfl (.tmp 22) (.tmp 24) 35 rfl (w.heap.size + 1) 114 i0 z0 3 24 Tryz.underlying35 HI.out.1 HI.out.2.1 HI.out.2.2.1 HI.out.2.2.2.1 HI.out.2.2.2.2 (by decide) u3 L _ rfl (row_keep HK.out.2.1 ((Keep.refl (fun _ => False) wr).alloc _) fun _ _ => id) n6 (fsv (m.es[k]).fs) o6 c6 rfl (by unfold fsv; rw [flatc_len _ 3 (fun _ => rfl), HS.out.2.2.2, Nat.mul_comm]) (HS.out.2.1.kept (HK.out.2.2.1.alloc _)) fsv_one HS.out.2.2.1 (by unfold maxLen; omega) (by omega) (by have := lt_of_block (HK.out.2.2.2.trans HW.out.2.1); simp; omega) ?_; intro v2 w2 hrow hgr _; have hr2 := grow_row HK.out.2.1 hgr; have H2 := Lib.hid (And.intro hrow hr2); clear hrow hgr hr2)
   go_roundg (gk - 1)
   all_goals first | omega | skip
   refine ⟨k + 1, by omega, by simp, L + n6, ?_, ?_, HK.out.2.2.1.own H2.out.2 (fun i hi => Or.inr (by omega)), ?_⟩
   ·rw [HS.out.1, List.length_append, HS.out.2.2.2, HK.out.1]
   ·rw [HS.out.1, fsv_app]; exact H2.out.1
   ·exact (H2.out.2.block _ (lt_of_block (HK.out.2.2.2.trans HW.out.2.1)) (by omega)).trans HK.out.2.2.2
  ·obtain rfl : k = n4 := by omega
   have hkI : ¬ (k : Int) < (k : Int) := by omega
   have htk : m.es.take k = m.es := List.take_of_length_le (by rw [HH.out.2.2.1]; exact Nat.le_refl _)
   rw [htk] at hL hrow
   obtain ⟨F, hF⟩ : ∃ F, m.fs ++ endFs m.es = F := ⟨_, rfl⟩
   rw [hF] at hL hrow
   have HM2 := Lib.hid (show knownF m.play = (F.all (fun f => decide (faultWord f.kind ≠ [])) && m.ts.all (fun t => t.l.all (fun c => rightF c.c))) from by rw [HM.out, hF])
   obtain ⟨o7, c7, hv7, -, hcs7, -⟩ := SlAt.of_row hrow
   have hLb : L ≤ 64 + 64 * 16 := by
    have h1 := endFs_len m.es (fun e he => HH.out.2.2.2.2.2.2.2.2.2.2 e he)
    have h2 := HH.out.2.2.2.2.2.1
    have h3 := HH.out.2.2.1
    rw [hL, ← hF, List.length_append]
    omega
   have cw10 : wr.cell? ⟨w.heap.size, 10, none⟩ = some (.slice o2 n2 c2) := by
    rw [World.cell?_of_block hbw, blk_cell HW.out.2.1 10]
    rfl
   have HF := Lib.hid (And.intro hL (And.intro hcs7 (And.intro hkp (And.intro cw10 (lt_of_block (hbw.trans HW.out.2.1))))))
   clear HK hL hrow hkp hbw htk hF hcs7 cw10 HM H1
   generalize wr = wA at *
   go_wp2_with fail
   go_loopg [7, 29] L (fun gq s7 s29 wr2 => ∃ j : Nat, gq + j = L ∧ s29 = .int .i64 (j : Int) ∧ Hid ((F.take j).all (fun f => decide (faultWord f.kind ≠ [])) = true ∧ Keep (fun _ => False) wA wr2))
   case atStart => exact ⟨0, by omega, rfl, by simp, Keep.refl _ _⟩
   case round =>
    obtain ⟨j, hgj, rfl, HJ⟩ := hrel
    by_cases hj : j < L
    ·have hjI : (j : Int) < (L : Int) := by omega
     have hj0 : (0 : Int) ≤ (j : Int) := by omega
     have hjl : j < F.length := by rw [← HF.out.1]; exact hj
     have hcs7 : CsAt wA o7 (F.flatMap fcells) := HF.out.2.1
     obtain ⟨g, f, rfl, hgl⟩ := hcs7.some (by rw [flatc_len _ 3 (fun _ => rfl)]; omega)
     have hcs2 := hcs7.kept HJ.out.2
     have d0 := hcs2.get 3 (fun _ => rfl) (List.getElem?_eq_getElem hjl) 0 (by omega)
     have d1 := hcs2.get 3 (fun _ => rfl) (List.getElem?_eq_getElem hjl) 1 (by omega)
     have d2 := hcs2.get 3 (fun _ => rfl) (List.getElem?_eq_getElem hjl) 2 (by omega)
     unfold fcells at d0 d1 d2
     simp at d0 d1 d2
     have htk : F.take (j + 1) = F.take j ++ [F[j]] := by rw [List.take_add_one, List.getElem?_eq_getElem hjl]; rfl
     have HS := Lib.hid (show (F.take (j + 1)).all (fun f => decide (faultWord f.kind ≠ [])) = decide (faultWord (F[j]).kind ≠ []) from by rw [htk, List.all_append, HJ.out.1]; simp)
     have HTK := Lib.hid (show F.all (fun f => decide (faultWord f.kind ≠ [])) = (decide (faultWord (F[j]).kind ≠ []) && (F.drop (j + 1)).all (fun f => decide (faultWord f.kind ≠ []))) from by
      rw [← HS.out, ← List.all_append, List.take_append_drop])
     generalize (F[j]).kind = kd at *
     generalize (F[j]).at_ = ka at *
     generalize (F[j]).part = kp at *
     have HFW := Lib.hid (fun W => faultWord_any kd W)
     have HZ := Lib.hid (HJ.out.2.alloc (.cells #[.int .i64 ka, .int .i64 kd, .int .i64 kp] 114))
     clear hcs7 hcs2 htk
     by_cases hw : faultWord kd = []
     ·have HR := Lib.hid (show knownF m.play = false from by rw [HM2.out, HTK.out, decide_eq_false (by simp [hw])]; rfl)
      rw [hw] at HFW
      have hs' : (strB []).toList.isEmpty = true := by rw [ByteArray.toList_eq, strB_list]; rfl
      clear hw
      go_wp2_with (go_at_call 59; refine (HFW.out _).mono ?_; rintro e w' ⟨rfl, rfl⟩)
      go_ret
      exact ⟨by rw [HR.out]; rfl, HF.out.2.2.1.trans HZ.out⟩
     ·have HR := Lib.hid (show (F.take (j + 1)).all (fun f => decide (faultWord f.kind ≠ [])) = true from by rw [HS.out, decide_eq_true hw])
      have hs' : (strB (faultWord kd)).toList.isEmpty = false := by
       rw [ByteArray.toList_eq, strB_list]
       cases hq : faultWord kd with
       | nil => exact absurd hq hw
       | cons a b => rfl
      generalize strB (faultWord kd) = sw at *
      clear hw
      go_wp2_with (go_at_call 59; refine (HFW.out _).mono ?_; rintro e w' ⟨rfl, rfl⟩)
      go_roundg (gk - 1)
      all_goals first | omega | skip
      exact ⟨j + 1, by omega, by simp, HR.out, HZ.out⟩
    ·obtain rfl : j = L := by omega
     have hjI : ¬ (j : Int) < (j : Int) := by omega
     have HM3 := Lib.hid (show knownF m.play = m.ts.all (fun t => t.l.all (fun c => rightF c.c)) from by
      have h := HJ.out.1
      rw [List.take_of_length_le (by rw [HF.out.1]; exact Nat.le_refl _)] at h
      rw [HM2.out, h]; rfl)
     have cw10 : wr.cell? ⟨w.heap.size, 10, none⟩ = some (.slice o2 n2 c2) := (HJ.out.2.cell (p := ⟨w.heap.size, 10, none⟩) HF.out.2.2.2.2 id).trans HF.out.2.2.2.1
     have HJ1 := Lib.hid (HF.out.2.2.1.trans HJ.out.2)
     clear HJ HM2 HF
     generalize wr = wB at *
     go_wp2_with fail
     go_loopg [9, 11, 41] n2 (fun gq s9 s11 s41 wr2 => ∃ a : Nat, gq + a = n2 ∧ s41 = .int .i64 (a : Int) ∧ Hid ((m.ts.take a).all (fun t => t.l.all (fun c => rightF c.c)) = true ∧ Keep (fun _ => False) w wr2))
     case atStart => exact ⟨0, by omega, rfl, by simp, HJ1.out⟩
     case round =>
      obtain ⟨a, hga, rfl, HA⟩ := hrel
      obtain ⟨G, hG⟩ : ∃ G, gk = G := ⟨_, rfl⟩
      rw [hG] at hga
      have HGG := Lib.hid hG
      clear hG
      by_cases ha : a < n2
      ·have haI : (a : Int) < (n2 : Int) := by omega
       have ha0 : (0 : Int) ≤ (a : Int) := by omega
       have hal : a < m.ts.length := by rw [HH.out.2.1]; exact ha
       obtain ⟨o', c', e', -, hcs, -⟩ := HH.out.1.ts
       rw [HH.out.2.2.2.1] at e'
       cases e'
       obtain ⟨g, f, rfl, hc, hl⟩ := hcs a (by simpa using hal)
       have ht := HH.out.1.calls _ (List.getElem_mem hal)
       obtain ⟨o5, c5, hv5, -, hcs5, -⟩ := ht.row
       obtain ⟨n5, hn5⟩ : ∃ n, (m.ts[a]).l.length = n := ⟨_, rfl⟩
       have hb5 : n5 ≤ 256 := by rw [← hn5]; exact HH.out.2.2.2.2.2.2.2.2.1 _ (List.getElem_mem hal)
       have cg : wr.cell? ⟨g, f + a, none⟩ = some (.slice o5 n5 c5) := by
        rw [(HA.out.2.cell (p := ⟨g, f + a, none⟩) hl id).trans hc, List.getElem?_map, List.getElem?_eq_getElem hal, ← hn5, ← hv5]
        rfl
       have htk : m.ts.take (a + 1) = m.ts.take a ++ [m.ts[a]] := by rw [List.take_add_one, List.getElem?_eq_getElem hal]; rfl
       obtain ⟨tl, htl⟩ : ∃ tl, (m.ts[a]).l = tl := ⟨_, rfl⟩
       have HS := Lib.hid (show (m.ts.take (a + 1)).all (fun t => t.l.all (fun c => rightF c.c)) = tl.all (fun c => rightF c.c) from by rw [htk, List.all_append, HA.out.1, ← htl]; simp)
       have HTK := Lib.hid (show m.ts.all (fun t => t.l.all (fun c => rightF c.c)) = (tl.all (fun c => rightF c.c) && (m.ts.drop (a + 1)).all (fun t => t.l.all (fun c => rightF c.c))) from by
        rw [← HS.out, ← List.all_append, List.take_append_drop])
       have HT := Lib.hid (And.intro (show CsAt w o5 (tl.flatMap MC.cells) from by rw [← htl]; exact hcs5) (And.intro (show tl.length = n5 from by rw [← htl]; exact hn5) (show ∀ c ∈ tl, SlAt w c.d c.c.data.length (u8v c.c.data) from by rw [← htl]; exact ht.data)))
       have HA1 := Lib.hid HA.out.2
       clear hc hcs ht hv5 htk hal hn5 htl hcs5 HA
       generalize wr = wC at *
       go_wp2_with fail
       go_loopg [11, 47] n5 (fun gq s11 s47 wr2 => ∃ b : Nat, gq + b = n5 ∧ s47 = .int .i64 (b : Int) ∧ Hid ((tl.take b).all (fun c => rightF c.c) = true ∧ Keep (fun _ => False) w wr2))
       case atStart => exact ⟨0, by omega, rfl, by simp, HA1.out⟩
       case round =>
        obtain ⟨b, hgb, rfl, HB⟩ := hrel
        by_cases hbb : b < n5
        ·have hbI : (b : Int) < (n5 : Int) := by omega
         have hb0 : (0 : Int) ≤ (b : Int) := by omega
         have hbl : b < tl.length := by rw [HT.out.2.1]; exact hbb
         obtain ⟨g2, f2, rfl, hgl⟩ := HT.out.1.some (by rw [flatc_len _ 3 (fun _ => rfl)]; omega)
         have hcs2 := HT.out.1.kept HB.out.2
         have d0 := hcs2.get 3 (fun _ => rfl) (List.getElem?_eq_getElem hbl) 0 (by omega)
         have d1 := hcs2.get 3 (fun _ => rfl) (List.getElem?_eq_getElem hbl) 1 (by omega)
         have d2 := hcs2.get 3 (fun _ => rfl) (List.getElem?_eq_getElem hbl) 2 (by omega)
         unfold MC.cells at d0 d1 d2
         simp at d0 d1 d2
         have hdd := HT.out.2.2 _ (List.getElem_mem hbl)
         have htk : tl.take (b + 1) = tl.take b ++ [tl[b]] := by rw [List.take_add_one, List.getElem?_eq_getElem hbl]; rfl
         obtain ⟨c, hcc⟩ : ∃ c, tl[b] = c := ⟨_, rfl⟩
         have HS2 := Lib.hid (show (tl.take (b + 1)).all (fun c => rightF c.c) = rightF c.c from by rw [htk, List.all_append, HB.out.1, hcc]; simp)
         have HTK2 := Lib.hid (show tl.all (fun c => rightF c.c) = (rightF c.c && (tl.drop (b + 1)).all (fun c => rightF c.c)) from by
          rw [← HS2.out, ← List.all_append, List.take_append_drop])
         rw [hcc] at d0 d1 d2 hdd
         obtain ⟨oD, cD, hvD⟩ := hdd.val
         rw [hvD] at d2
         obtain ⟨nD, hnD⟩ : ∃ n, c.c.data.length = n := ⟨_, rfl⟩
         rw [hnD] at d2
         obtain ⟨ck, hck⟩ : ∃ ck, c.c.kind = ck := ⟨_, rfl⟩
         obtain ⟨cl, hcl⟩ : ∃ cl, c.c.lsn = cl := ⟨_, rfl⟩
         have HRT := Lib.hid (fun W (k : Keep (fun _ => False) w W) => right_any c W (hdd.kept k))
         rw [hvD, hnD, hck, hcl] at HRT
         rw [hck] at d0
         rw [hcl] at d1
         have HZ := Lib.hid (HB.out.2.alloc (.cells #[.int .i64 ck, .int .i64 cl, .slice oD nD cD] 76))
         clear hcs2 htk hdd hvD hnD hcc hbl hck hcl
         cases hr : rightF c.c with
         | false =>
          rw [hr] at HRT
          have HR := Lib.hid (show knownF m.play = false from by rw [HM3.out, HTK.out, HTK2.out, hr]; rfl)
          clear hr
          go_wp2_with (go_at_call 60; refine (HRT.out _ HZ.out).mono ?_; rintro e w' ⟨rfl, k5⟩; have HK5 := Lib.hid k5; clear k5)
          go_ret
          exact ⟨by rw [HR.out]; rfl, HZ.out.trans HK5.out⟩
         | true =>
          rw [hr] at HRT
          have HR := Lib.hid (show (tl.take (b + 1)).all (fun c => rightF c.c) = true from by rw [HS2.out, hr])
          clear hr
          go_wp2_with (go_at_call 60; refine (HRT.out _ HZ.out).mono ?_; rintro e w' ⟨rfl, k5⟩; have HK5 := Lib.hid k5; clear k5)
          go_roundg (gk - 1)
          all_goals first | omega | skip
          exact ⟨b + 1, by omega, by simp, HR.out, HZ.out.trans HK5.out⟩
        ·obtain rfl : b = n5 := by omega
         have hbI : ¬ (b : Int) < (b : Int) := by omega
         have HR := Lib.hid (show (m.ts.take (a + 1)).all (fun t => t.l.all (fun c => rightF c.c)) = true from by
          have h := HB.out.1
          rw [List.take_of_length_le (by rw [HT.out.2.1]; exact Nat.le_refl _)] at h
          rw [HS.out, h])
         have HB1 := Lib.hid HB.out.2
         clear HB
         go_wp2_with fail
         have hG := HGG.out
         go_roundg (G - 1)
         all_goals first | omega | skip
         exact ⟨a + 1, by omega, by simp, HR.out, HB1.out⟩
      ·obtain rfl : a = n2 := by omega
       have haI : ¬ (a : Int) < (a : Int) := by omega
       have HR := Lib.hid (show knownF m.play = true from by
        have h := HA.out.1
        rw [List.take_of_length_le (by rw [HH.out.2.1]; exact Nat.le_refl _)] at h
        rw [HM3.out, h])
       have HA1 := Lib.hid HA.out.2
       clear HA
       go_wp2_with fail
       go_ret
       exact ⟨by rw [HR.out]; rfl, HA1.out⟩

def faultL (f : Fault) : Str := putL [[102, 97, 117, 108, 116], decS f.at_, faultWord f.kind, decS f.part]
def faultsS (l : List Fault) : Str := l.flatMap faultL
def FaultOk (f : Fault) : Prop := IsI f.at_ ∧ IsI f.part
theorem cell_kept {w w' : World} {a : Addr} {u : Value} (k : Keep (fun _ => False) w w') (h : w.cell? a = some u) : w'.cell? a = some u := by
 have hl : a.block < w.heap.size := World.block_lt_of_cell? w a h
 exact (k.cell (p := a) hl id).trans h
theorem ws_new (w : World) (ws : List Str) : WsAt (w.alloc (.cells (ws.map encS).toArray 9)) (some ⟨w.heap.size, 0, none⟩) ws := fun i hi => by
 refine ⟨w.heap.size, 0, rfl, ?_, by simp⟩
 rw [blk_cell (blk_new w _) (0 + i)]
 simp [List.getElem?_map, List.getElem?_eq_getElem hi, List.getD_eq_getElem?_getD]
theorem Pr.past {w : World} {own : Nat → Option T} {xb : Nat} {v : Value} {B : Str} (h : Pr w own xb v B) {g : Nat} (hg : w.heap.size ≤ g) : own g = none := by
 cases hq : own g with
 | none => rfl
 | some t => have := h.low g (by rw [hq]; simp); omega
theorem puts_cells {w w' : World} {own : Nat → Option T} {xb q : Nat} {B : Str} {u0 u1 u2 : Value} (h : Puts w own xb B w') (hq : own q = none) (hc : w.cell? ⟨q, 0, none⟩ = some u0 ∧ w.cell? ⟨q, 1, none⟩ = some u1 ∧ w.cell? ⟨q, 2, none⟩ = some u2) :
  Puts w own xb B w' ∧ w'.cell? ⟨q, 0, none⟩ = some u0 ∧ w'.cell? ⟨q, 1, none⟩ = some u1 ∧ w'.cell? ⟨q, 2, none⟩ = some u2 := by
 have H := h
 obtain ⟨own', v', -, ht⟩ := h
 have hl : q < w.heap.size := World.block_lt_of_cell? w _ hc.1
 refine ⟨H, ?_, ?_, ?_⟩
 ·exact (ht.keep.cell (p := ⟨q, 0, none⟩) hl (by rw [hq]; simp)).trans hc.1
 ·exact (ht.keep.cell (p := ⟨q, 1, none⟩) hl (by rw [hq]; simp)).trans hc.2.1
 ·exact (ht.keep.cell (p := ⟨q, 2, none⟩) hl (by rw [hq]; simp)).trans hc.2.2
theorem SlAt.to {w w' : World} {own own' : Nat → Option T} {v : Value} {n : Nat} {xs : List Value} (h : SlAt w v n xs) (t : To own own' w w') (hf : 0 < xs.length → ∀ o cap n, v = .slice (some o) n cap → own o.block = none) : SlAt w' v n xs ∧ (0 < xs.length → ∀ o cap n, v = .slice (some o) n cap → own' o.block = none) := by
 obtain ⟨o, cap, rfl, h1, h2, h3⟩ := h
 refine ⟨⟨o, cap, rfl, h1, fun i hi => ?_, h3⟩, fun hx o' cap' n' e => ?_⟩
 ·obtain ⟨g, f, rfl, hc, hl⟩ := h2 i hi
  exact ⟨g, f, rfl, (t.keep.cell (p := ⟨g, f + i, none⟩) hl (by rw [hf (by omega) _ _ _ rfl]; simp)).trans hc, Nat.lt_of_lt_of_le hl t.keep.size⟩
 ·cases e
  obtain ⟨g, f, e, hc, hl⟩ := h2 0 hx
  cases e
  exact t.old g hl (hf hx _ _ _ rfl)
set_option maxRecDepth 100000 in
set_option maxHeartbeats 8000000 in
theorem pfaults_any {w : World} {own : Nat → Option T} {xb : Nat} {v : Value} {B : Str} (N0 : Nat) (fv : Value) (fs : List Fault) (h : Pr w own xb v B) (hE : Ev N0 w) (hlow : ∀ g, own g ≠ none → N0 ≤ g) (hfs : SlAt w fv fs.length (fsv fs)) (hfree : 0 < fs.length → ∀ o cap n, fv = .slice (some o) n cap → own o.block = none) (hok : ∀ f ∈ fs, FaultOk f) (hn : fs.length ≤ 1073741824) (hb : (B ++ faultsS fs).length ≤ 1099511627776) :
  Calls Tryz.prog 65 #[.pointer (some ⟨xb, 0, none⟩), fv] w fun e w' => e = .returned (.tuple #[]) ∧ Puts w own xb (B ++ faultsS fs) w' := by
 obtain ⟨o1, c1, rfl, -, hcs, -⟩ := hfs
 obtain ⟨n, hN⟩ : ∃ n, fs.length = n := ⟨_, rfl⟩
 have HH := Lib.hid (And.intro h (And.intro hE (And.intro hlow (And.intro hcs (And.intro hfree (And.intro hok (And.intro hN hb)))))))
 rw [hN] at hn ⊢
 clear h hE hlow hcs hfree hok hN hb
 go_enter Tryz.func65, Tryz.ntmps65
 go_wp2_with fail
 go_loopg [5, 8] n (fun gq s5 s8 wr => ∃ k : Nat, gq + k = n ∧ s8 = .int .i64 (k : Int) ∧ Hid (∃ own' v', Pr wr own' xb v' (B ++ faultsS (fs.take k)) ∧ To own own' w wr))
 case atStart => exact ⟨0, by omega, rfl, own, v, by simpa [faultsS] using HH.out.1, To.refl _ _⟩
 case round =>
  obtain ⟨k, hgk, rfl, HK⟩ := hrel
  obtain ⟨own', v', hp, hto⟩ := HK
  by_cases hk : k < n
  ·have hkI : (k : Int) < (n : Int) := by omega
   have hk0 : (0 : Int) ≤ (k : Int) := by omega
   have hkl : k < fs.length := by rw [HH.out.2.2.2.2.2.2.1]; exact hk
   obtain ⟨g, f, rfl, hgl⟩ := HH.out.2.2.2.1.some (by unfold fsv; rw [flatc_len _ 3 (fun _ => rfl)]; omega)
   have hgo : own g = none := HH.out.2.2.2.2.1 (by omega) ⟨g, f, none⟩ _ _ rfl
   have hcs2 : CsAt wr (some ⟨g, f, none⟩) (fs.flatMap fcells) := fun i hi => by
    obtain ⟨g', f', e, h1, h2⟩ := HH.out.2.2.2.1 i hi
    cases e
    exact ⟨g, f, rfl, (hto.keep.cell (p := ⟨g, f + i, none⟩) hgl (by rw [hgo]; simp)).trans h1, Nat.lt_of_lt_of_le hgl hto.keep.size⟩
   have d0 := hcs2.get 3 (fun _ => rfl) (List.getElem?_eq_getElem hkl) 0 (by omega)
   have d1 := hcs2.get 3 (fun _ => rfl) (List.getElem?_eq_getElem hkl) 1 (by omega)
   have d2 := hcs2.get 3 (fun _ => rfl) (List.getElem?_eq_getElem hkl) 2 (by omega)
   unfold fcells at d0 d1 d2
   simp at d0 d1 d2
   have hfo := HH.out.2.2.2.2.2.1 _ (List.getElem_mem hkl)
   have htk : fs.take (k + 1) = fs.take k ++ [fs[k]] := by rw [List.take_add_one, List.getElem?_eq_getElem hkl]; rfl
   have hsn : faultsS (fs.take (k + 1)) = faultsS (fs.take k) ++ faultL fs[k] := by rw [htk]; unfold faultsS; rw [List.flatMap_append]; simp only [List.flatMap_cons, List.flatMap_nil, List.append_nil]
   have hle : (B ++ faultsS (fs.take (k + 1))).length ≤ 1099511627776 := by
    have h1 := HH.out.2.2.2.2.2.2.2
    have h2 : faultsS fs = faultsS (fs.take (k + 1)) ++ faultsS (fs.drop (k + 1)) := by unfold faultsS; rw [← List.flatMap_append, List.take_append_drop]
    rw [h2] at h1
    simp only [List.length_append] at h1 ⊢
    omega
   unfold faultL at hsn
   unfold FaultOk at hfo
   generalize (fs[k]).kind = kd at *
   generalize (fs[k]).at_ = ka at *
   generalize (fs[k]).part = kp at *
   have HD1 := Lib.hid (fun W hE => dec64_any ka N0 W hE hfo.1)
   have HD2 := Lib.hid (fun W hE => dec_any kp N0 W hE hfo.2)
   have HFW := Lib.hid (fun W => faultWord_any kd W)
   have hev : Ev N0 wr := HH.out.2.1.on (hto.keep.below HH.out.2.1.le HH.out.2.2.1)
   obtain ⟨W0, hW0⟩ : ∃ W0, wr.alloc (.cells #[.int .i64 ka, .int .i64 kd, .int .i64 kp] 114) = W0 := ⟨_, rfl⟩
   obtain ⟨q, hq⟩ : ∃ q, wr.heap.size = q := ⟨_, rfl⟩
   have b0 : W0.heap[q]? = some (.cells #[.int .i64 ka, .int .i64 kd, .int .i64 kp] 114 (0, 0)) := by rw [← hW0, ← hq]; exact blk_new _ _
   have k0 : Keep (fun _ => False) wr W0 := by rw [← hW0]; exact (Keep.refl _ wr).alloc _
   have HP := Lib.hid (And.intro hp (And.intro hto (And.intro hsn (And.intro hle (And.intro hev k0)))))
   have HE0 := Lib.hid (hev.kept k0.none)
   have e0 := blk_cell b0 0
   have e1 := blk_cell b0 1
   have e2 := blk_cell b0 2
   simp at e0 e1 e2
   clear hp hto hcs2 hgo hfo htk hsn hle hev k0 b0 hkl
   have HNow := Lib.hid ((Keep.refl (fun _ => False) W0).drewN 1)
   obtain ⟨s1, hs1⟩ : ∃ s, decS ka = s := ⟨_, rfl⟩
   obtain ⟨s2, hs2⟩ : ∃ s, faultWord kd = s := ⟨_, rfl⟩
   obtain ⟨s3, hs3⟩ : ∃ s, decS kp = s := ⟨_, rfl⟩
   rw [hs1] at HD1
   rw [hs2] at HFW
   rw [hs3] at HD2
   have HSS := Lib.hid (And.intro hs1 (And.intro hs2 hs3))
   have HQ := Lib.hid hq
   clear hs1 hs2 hs3
   go_wp2_with fail
   clear hq
   go_region_held3 (fun W' => W'.cell? ⟨q, 0, none⟩ = some (.int .i64 ka) ∧ W'.cell? ⟨q, 1, none⟩ = some (.int .i64 kd) ∧ W'.cell? ⟨q, 2, none⟩ = some (.int .i64 kp))
    (first
     | exact ⟨cell_kept HNow.out e0, cell_kept HNow.out e1, cell_kept HNow.out e2⟩
     | exact ⟨cell_kept (HNow.out.alloc _) e0, cell_kept (HNow.out.alloc _) e1, cell_kept (HNow.out.alloc _) e2⟩
     | exact HPut.out.2)
    (first
     | (go_at_call 63; refine (HD1.out _ (HE0.out.kept HNow.out.none)).mono ?_; rintro e w' ⟨rfl, kx⟩; have HNow := Lib.hid (HNow.out.trans kx); clear kx)
     | (go_at_call 59; refine (HFW.out _).mono ?_; rintro e w' ⟨rfl, hw⟩; obtain rfl := hw)
     | (go_at_call 62; refine (HD2.out _ (HE0.out.kept HNow.out.none)).mono ?_; rintro e w' ⟨rfl, kx⟩; have HNow := Lib.hid (HNow.out.trans kx); clear kx)
     | (go_at_call 61; refine (put_any _ 0 4 [[102, 97, 117, 108, 116], s1, s2, s3] (HP.out.1.kept ((HP.out.2.2.2.2.2.trans HNow.out).alloc _)) (ws_new _ [[102, 97, 117, 108, 116], s1, s2, s3]) (HP.out.1.past ((HP.out.2.2.2.2.2.trans HNow.out).size)) (Nat.le_refl _) (by simp) (by rw [← HSS.out.1, ← HSS.out.2.1, ← HSS.out.2.2, List.append_assoc, ← HP.out.2.2.1]; exact HP.out.2.2.2.1)).mono ?_; rintro e w' ⟨rfl, hpt⟩; have HPut := Lib.hid (puts_cells hpt (HP.out.1.past (Nat.le_of_eq HQ.out)) ⟨cell_kept (HNow.out.alloc _) e0, cell_kept (HNow.out.alloc _) e1, cell_kept (HNow.out.alloc _) e2⟩); have HNow := Lib.hid (HNow.out.alloc (.cells ([[102, 97, 117, 108, 116], s1, s2, s3].map encS).toArray 9)); clear hpt))
   all_goals go_wp2_with fail
   go_roundg (gk - 1)
   all_goals first | omega | skip
   case rel =>
    refine ⟨k + 1, by omega, by simp, ?_⟩
    obtain ⟨own2, v2, h1, h2⟩ := HPut.out.1
    refine ⟨own2, v2, ?_, (HP.out.2.1.trans (To.kept (HP.out.2.2.2.2.2.trans HNow.out))).trans h2⟩
    rw [HP.out.2.2.1, HSS.out.1, HSS.out.2.1, HSS.out.2.2, ← List.append_assoc]
    exact h1
  ·obtain rfl : k = n := by omega
   have hkI : ¬ (k : Int) < (k : Int) := by omega
   rw [List.take_of_length_le (by rw [HH.out.2.2.2.2.2.2.1]; exact Nat.le_refl _)] at hp
   have HP := Lib.hid (And.intro hp hto)
   clear hp hto
   go_wp2_with fail
   go_end0
   exact ⟨rfl, own', v', HP.out.1, HP.out.2⟩

def callT (c : Call) : Str :=
 if c.kind = 1 ∨ c.kind = 2 then (if 65536 < c.data.length then c.data else putL [callWord c.kind, pairsS c.data])
 else if c.kind = 3 ∨ c.kind = 7 then putL [callWord c.kind] else putL [callWord c.kind, decS c.lsn]
theorem puts_kept {w W w' : World} {own : Nat → Option T} {xb : Nat} {B : Str} (k : Keep (fun _ => False) w W) (h : Puts W own xb B w') : Puts w own xb B w' := by
 obtain ⟨own', v', h1, h2⟩ := h
 exact ⟨own', v', h1, (To.kept k).trans h2⟩
theorem csat_news {w : World} {g f : Nat} {xs : List Value} (h : CsAt w (some ⟨g, f, none⟩) xs) : ∀ j u, xs[j]? = some u → w.cell? ((⟨g, f, none⟩ : Addr).add j) = some u := fun j u hj => by
 obtain ⟨g', f', e1, e2, -⟩ := h j (List.getElem?_eq_some_iff.1 hj).1
 cases e1
 rw [addr_add, e2, hj]
theorem u8v_one' {s : Str} : ∀ u ∈ u8v s, u.oneCell' = true := by
 intro u hu
 obtain ⟨b, -, rfl⟩ := List.mem_map.1 hu
 rfl
set_option maxRecDepth 100000 in
set_option maxHeartbeats 8000000 in
theorem pcall_any {w : World} {own : Nat → Option T} {xb : Nat} {v : Value} {B : Str} (N0 : Nat) (c : MC) (h : Pr w own xb v B) (hE : Ev N0 w) (hlow : ∀ g, own g ≠ none → N0 ≤ g) (hd : SlAt w c.d c.c.data.length (u8v c.c.data)) (hok : IsI c.c.lsn) (hn : c.c.data.length ≤ 1073741824) (hb : (B ++ callT c.c).length ≤ 1099511627776) :
    Calls Tryz.prog 66 #[.pointer (some ⟨xb, 0, none⟩), .agg #[.int .i64 c.c.kind, .int .i64 c.c.lsn, c.d]] w fun e w' => e = .returned (.tuple #[]) ∧ Puts w own xb (B ++ callT c.c) w' := by
  obtain ⟨oD, cD, hv, hcap, hcs, hcn⟩ := hd
  obtain ⟨k, hk⟩ : ∃ k, c.c.kind = k := ⟨_, rfl⟩
  obtain ⟨l, hl⟩ : ∃ l, c.c.lsn = l := ⟨_, rfl⟩
  obtain ⟨D, hD⟩ : ∃ D, c.c.data = D := ⟨_, rfl⟩
  obtain ⟨n, hN⟩ : ∃ n, D.length = n := ⟨_, rfl⟩
  have hX : callT c.c = (if k = 1 ∨ k = 2 then (if 65536 < n then D else putL [callWord k, pairsS D]) else if k = 3 ∨ k = 7 then putL [callWord k] else putL [callWord k, decS l]) := by
    unfold callT; rw [hk, hl, hD, hN]
  rw [hD] at hv hcap hcs hn
  rw [hN] at hv hcap hn
  rw [hX] at hb ⊢
  rw [hv, hk, hl]
  rw [hl] at hok
  have hfr := True.intro
  obtain ⟨q, hq⟩ : ∃ q, w.heap.size = q := ⟨_, rfl⟩
  obtain ⟨W0, hW0⟩ : ∃ W0, w.alloc (.cells #[.int .i64 k, .int .i64 l, .slice oD n cD] 76) = W0 := ⟨_, rfl⟩
  have b0 : W0.heap[q]? = some (.cells #[.int .i64 k, .int .i64 l, .slice oD n cD] 76 (0, 0)) := by rw [← hW0, ← hq]; exact blk_new _ _
  have k0 : Keep (fun _ => False) w W0 := by rw [← hW0]; exact (Keep.refl _ w).alloc _
  have HH := Lib.hid (And.intro h (And.intro hE (And.intro hlow (And.intro hcs (And.intro hfr (And.intro hok (And.intro hN (And.intro k0 hcn))))))))
  have HE0 := Lib.hid (hE.kept k0.none)
  have HQ := Lib.hid (h.past (Nat.le_of_eq hq))
  have hp0 := h.kept k0
  have HP := Lib.hid hp0
  have HW := Lib.hid (fun W => callWord_any k W)
  have HB := Lib.hid hb
  have e0 := blk_cell b0 0
  have e1 := blk_cell b0 1
  have e2 := blk_cell b0 2
  simp at e0 e1 e2
  clear h hE hlow hcs hfr hok hN k0 hp0 b0 hv hk hl hD hX hcn hb
  have b1 : ∀ j : Int, k ≠ j → (k == j) = false := fun j h => by rw [beq_eq_false_iff_ne]; exact h
  by_cases h12 : k = 1 ∨ k = 2
  · rw [if_pos h12] at HB ⊢
    by_cases hbig : 65536 < n
    · rw [if_pos hbig] at HB ⊢
      have hb2 : (65536 : Int) < (n : Int) := by omega
      have c0 := blk_cell HP.out.blk 0
      have f0 := blk_free HP.out.blk 0
      simp at c0
      obtain ⟨o, p, hv⟩ := HP.out.row.len
      have hrw := HP.out.row.row
      rw [hv] at hrw c0
      obtain ⟨L, hL⟩ : ∃ L, B.length = L := ⟨_, rfl⟩
      have HL := Lib.hid hL
      rw [hL] at hv hrw c0
      have hsz : L + n ≤ 1099511627776 := by have := HB.out; rw [List.length_append, hL, HH.out.2.2.2.2.2.2.1] at this; exact this
      have HR := Lib.hid (And.intro hrw (And.intro hv hsz))
      obtain ⟨g, f, rfl, hgl⟩ := HH.out.2.2.2.1.some (by rw [u8v_len, HH.out.2.2.2.2.2.2.1]; omega)
      obtain ⟨i0, hi0, hz0, hz1, hz2⟩ := info8k
      clear hv hrw hL hsz hbig
      rcases h12 with rfl | rfl
      all_goals
        clear b1
        go_enter Tryz.func66, Tryz.ntmps66
        go_wp2_with (go_at_call 93; refine (HW.out _).mono ?_; rintro e w' ⟨rfl, hw⟩; obtain rfl : W0 = w' := hw.symm)
        go_region_law (first
          | (refine step_append_k rfl (.tmp 28) (.tmp 30) 53 rfl 0 5 i0 (.int .u8 0) 1 1 Tryz.underlying53 hi0 hz0 hz1 hz2 rfl (by decide) (.slice o L p) L (u8v B) rfl (row_keep HR.out.1 ((Keep.refl (fun _ => False) W0).drewN 1) fun _ _ => id) ⟨g, f, none⟩ n cD (u8v D) rfl (by rw [u8v_len, HH.out.2.2.2.2.2.2.1, Nat.mul_one]) (csat_news (HH.out.2.2.2.1.kept (HH.out.2.2.2.2.2.2.2.1.drewN 1))) u8v_one' (by have := HR.out.2.2; unfold maxLen; omega) (by have := HR.out.2.2; omega) (Nat.zero_le _) ?_
             intro v4 w4 hown hgr hblk
             rw [← HH.out.2.2.2.2.2.2.1] at hown
             rw [← HR.out.2.1] at hgr hblk
             obtain ⟨o2, L2, p2, hv2, hm⟩ := more_x (HP.out.kept ((Keep.refl (fun _ => False) W0).drewN 1)) HL.out hown hgr (hblk.imp_right fun e => ⟨_, e, Nat.le_refl _⟩)
             have c4 := more_c (HP.out.kept ((Keep.refl (fun _ => False) W0).drewN 1)) hgr c0
             have f4 := more_f (HP.out.kept ((Keep.refl (fun _ => False) W0).drewN 1)) hgr f0
             have HM := Lib.hid hm
             rw [hv2]
             clear hown hgr hblk hm hv2))
        all_goals go_wp2_with fail
        all_goals refine bodyPost_ret (results_none rfl _ _ _) rfl ?_
        all_goals exact ⟨rfl, _, .slice o2 L2 p2, HM.out.1, (To.kept (HH.out.2.2.2.2.2.2.2.1.drewN 1)).trans HM.out.2.1⟩
    · rw [if_neg hbig] at HB ⊢
      have hb2 : ¬ (65536 : Int) < (n : Int) := by omega
      have HPA := Lib.hid (fun W k => pairs_any oD cD D W (HH.out.2.2.2.1.kept k) (by rw [HH.out.2.2.2.2.2.2.1]; exact hn))
      rw [HH.out.2.2.2.2.2.2.1] at HPA
      obtain ⟨s1, hs1⟩ : ∃ s, callWord k = s := ⟨_, rfl⟩
      obtain ⟨s2, hs2⟩ : ∃ s, pairsS D = s := ⟨_, rfl⟩
      rw [hs1] at HW HB ⊢
      rw [hs2] at HPA HB ⊢
      have HNow := Lib.hid (Keep.refl (fun _ => False) W0)
      clear hbig hs1 hs2
      rcases h12 with rfl | rfl
      all_goals
        clear b1
        go_enter Tryz.func66, Tryz.ntmps66
        go_wp2_with (first
          | (go_at_call 93; refine (HW.out _).mono ?_; rintro e w' ⟨rfl, hw⟩; obtain rfl : W0 = w' := hw.symm)
          | (go_at_call 94; refine (HPA.out _ (HH.out.2.2.2.2.2.2.2.1.trans HNow.out)).mono ?_; rintro e w' ⟨rfl, kx⟩; have HNow := Lib.hid (HNow.out.trans kx); clear kx)
          | (go_at_call 61; refine (put_any _ 0 2 [s1, s2] (HP.out.kept (HNow.out.alloc _)) (ws_new _ [s1, s2]) (HP.out.past HNow.out.size) (Nat.le_refl _) (by simp) (by skip; exact HB.out)).mono ?_; rintro e w' ⟨rfl, hpt⟩; have HPut := Lib.hid hpt; have HNow := Lib.hid (HNow.out.alloc (.cells ([s1, s2].map encS).toArray 9)); clear hpt))
        go_end0
        exact ⟨rfl, puts_kept (HH.out.2.2.2.2.2.2.2.1.trans HNow.out) HPut.out⟩
  · rw [if_neg h12] at HB ⊢
    have n1 : k ≠ 1 := fun e => h12 (Or.inl e)
    have n2 : k ≠ 2 := fun e => h12 (Or.inr e)
    have e1' := b1 1 n1
    have e2' := b1 2 n2
    obtain ⟨s1, hs1⟩ : ∃ s, callWord k = s := ⟨_, rfl⟩
    have HNow := Lib.hid (Keep.refl (fun _ => False) W0)
    by_cases h37 : k = 3 ∨ k = 7
    · rw [if_pos h37] at HB ⊢
      rw [hs1] at HW HB ⊢
      clear hs1 h12 n1 n2
      rcases h37 with rfl | rfl
      all_goals
        clear b1 e1' e2'
        go_enter Tryz.func66, Tryz.ntmps66
        go_wp2_with (first
          | (go_at_call 93; refine (HW.out _).mono ?_; rintro e w' ⟨rfl, hw⟩; obtain rfl : W0 = w' := hw.symm)
          | (go_at_call 61; refine (put_any _ 0 1 [s1] (HP.out.kept (HNow.out.alloc _)) (ws_new _ [s1]) (HP.out.past HNow.out.size) (Nat.le_refl _) (by simp) (by skip; exact HB.out)).mono ?_; rintro e w' ⟨rfl, hpt⟩; have HPut := Lib.hid hpt; have HNow := Lib.hid (HNow.out.alloc (.cells ([s1].map encS).toArray 9)); clear hpt))
        go_end0
        exact ⟨rfl, puts_kept (HH.out.2.2.2.2.2.2.2.1.trans HNow.out) HPut.out⟩
    · rw [if_neg h37] at HB ⊢
      have e3' := b1 3 (fun e => h37 (Or.inl e))
      have e7' := b1 7 (fun e => h37 (Or.inr e))
      have HDC := Lib.hid (fun W hE => dec64_any l N0 W hE HH.out.2.2.2.2.2.1)
      obtain ⟨s2, hs2⟩ : ∃ s, decS l = s := ⟨_, rfl⟩
      rw [hs1] at HW HB ⊢
      rw [hs2] at HDC HB ⊢
      clear hs1 hs2 h12 n1 n2 h37 b1
      go_enter Tryz.func66, Tryz.ntmps66
      go_wp2_with (first
        | (go_at_call 93; refine (HW.out _).mono ?_; rintro e w' ⟨rfl, hw⟩; obtain rfl : W0 = w' := hw.symm)
        | (go_at_call 63; refine (HDC.out _ (HE0.out.kept HNow.out.none)).mono ?_; rintro e w' ⟨rfl, kx⟩; have HNow := Lib.hid (HNow.out.trans kx); clear kx)
        | (go_at_call 61; refine (put_any _ 0 2 [s1, s2] (HP.out.kept (HNow.out.alloc _)) (ws_new _ [s1, s2]) (HP.out.past HNow.out.size) (Nat.le_refl _) (by simp) (by skip; exact HB.out)).mono ?_; rintro e w' ⟨rfl, hpt⟩; have HPut := Lib.hid hpt; have HNow := Lib.hid (HNow.out.alloc (.cells ([s1, s2].map encS).toArray 9)); clear hpt))
      go_end0
      exact ⟨rfl, puts_kept (HH.out.2.2.2.2.2.2.2.1.trans HNow.out) HPut.out⟩
end Sc
end Go.Proofs.YtkkecpamnnojoaaGreatDoor
