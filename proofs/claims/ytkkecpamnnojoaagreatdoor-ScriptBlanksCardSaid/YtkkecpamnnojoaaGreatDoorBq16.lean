/- A part of the proof of ScriptBlanks: nothing is assumed. By an AI agent. -/
import Derived.Test.YtkkecpamnnojoaaGreatDoorBq15
namespace Go.Proofs.YtkkecpamnnojoaaGreatDoor
open Go.ChangeShapes Go.WideShapes Go.ChangeAt Go.RowKit
open Bt Dc By
set_option linter.unusedVariables false
namespace Sc

structure TkAt (w : World) (own : Nat → Option T) (pb : Nat) (m : M) (B g f cl : Nat) (x : Str) (ws : List Str) : Prop where
 p : PAt w own pb m
 ev : Ev B w
 wat : WsAt w (some ⟨g, f, none⟩) (x :: ws)
 sz : ∀ i, ((x :: ws).getD i []).length ≤ 1073741824
 cap : ws.length + 1 ≤ cl
 len : ws.length ≤ 1048576
 free : own g = none
 low : ∀ q, own q ≠ none → B ≤ q
 es : m.es.length ≤ 1048576
 ts : m.ts.length ≤ 1048576
 ps : m.ps.length ≤ 1048576
 al : (armL m).length ≤ 1048576
 cl_ : (callL m).length ≤ 1048576
theorem TkAt.tail {w : World} {own : Nat → Option T} {pb : Nat} {m : M} {B g f cl : Nat} {x : Str} {ws : List Str} (h : TkAt w own pb m B g f cl x ws) : WsAt w (some ⟨g, f + 1, none⟩) ws ∧ (∀ i, (ws.getD i []).length ≤ 1073741824) :=
 ⟨h.wat.tail, fun i => by have := h.sz (i + 1); simpa using this⟩
theorem len_ws {w : World} {own : Nat → Option T} {pb : Nat} {m : M} {B g f cl : Nat} {x : Str} {ws : List Str} (h : TkAt w own pb m B g f cl x ws) : g < w.heap.size := (h.wat.at_ (i := 0) (by simp)).2
set_option maxRecDepth 100000 in
set_option maxHeartbeats 8000000 in
theorem take_play {w : World} {own : Nat → Option T} {pb : Nat} {m : M} {B g f cl : Nat} {x : Str} {ws : List Str} (h : TkAt w own pb m B g f cl x ws) (hn : ws.length = 9) :
  Calls Tryz.prog 48 #[.pointer (some ⟨pb, 0, none⟩), .int .i64 1, .slice (some ⟨g, f, none⟩) (ws.length + 1) cl] w (Res own pb m.st (takeF m.play 1 x ws) w) := by
 have hcl := h.cap
 have HK := Lib.hid (play_any B ws g (f + 1) (cl - 1) h.p h.ev h.tail.1 h.tail.2 hn (by omega) h.free h.low)
 rw [hn] at hcl ⊢
 have hc1 : 1 < cl := by omega
 have hc2 : ¬ cl - 1 = 0 := by omega
 rw [show takeF m.play 1 x ws = playF m.play ws from rfl]
 clear h hn
 generalize playF m.play ws = R at *
 go_enter Tryz.func48, Tryz.ntmps48
 go_wp2_with fail
 refine HK.out.mono ?_
 intro e w' hr
 rcases hr with ⟨p, own', m', h1, rfl, h2⟩ | ⟨c, h1, h2, rfl, h3⟩
 ·have HR := Lib.hid h2
  clear h2
  go_wp2_with fail
  go_ret
  exact Or.inl ⟨p, own', m', h1, rfl, HR.out⟩
 ·have HR := Lib.hid (And.intro h2 h3)
  clear h2 h3
  go_wp2_with fail
  go_ret
  exact Or.inr ⟨c, h1, HR.out.1, rfl, HR.out.2⟩
set_option maxRecDepth 100000 in
set_option maxHeartbeats 8000000 in
theorem take_fault {w : World} {own : Nat → Option T} {pb : Nat} {m : M} {B g f cl : Nat} {x : Str} {ws : List Str} (h : TkAt w own pb m B g f cl x ws) (hn : ws.length = 3) :
  Calls Tryz.prog 48 #[.pointer (some ⟨pb, 0, none⟩), .int .i64 3, .slice (some ⟨g, f, none⟩) (ws.length + 1) cl] w (Res own pb m.st (takeF m.play 3 x ws) w) := by
 have hcl := h.cap
 obtain ⟨a, b, c, rfl⟩ : ∃ a b c, ws = [a, b, c] := by
  match ws, hn with
  | [a, b, c], _ => exact ⟨a, b, c, rfl⟩
 have HK := Lib.hid (fault_any B a b c g (f + 1) (cl - 1) h.p h.ev h.tail.1 (h.tail.2 0) (h.tail.2 1) (h.tail.2 2) (by simp at hcl; omega) h.free h.es h.al)
 rw [show [a, b, c].length = 3 from rfl] at hcl ⊢
 have hc1 : 1 < cl := by omega
 have hc2 : ¬ cl - 1 = 0 := by omega
 rw [show takeF m.play 3 x [a, b, c] = faultF m.play [a, b, c] from rfl]
 clear h hn
 generalize faultF m.play [a, b, c] = R at *
 go_enter Tryz.func48, Tryz.ntmps48
 go_wp2_with fail
 refine HK.out.mono ?_
 intro e w' hr
 rcases hr with ⟨p, own', m', h1, rfl, h2⟩ | ⟨c, h1, h2, rfl, h3⟩
 ·have HR := Lib.hid h2
  clear h2
  go_wp2_with fail
  go_ret
  exact Or.inl ⟨p, own', m', h1, rfl, HR.out⟩
 ·have HR := Lib.hid (And.intro h2 h3)
  clear h2 h3
  go_wp2_with fail
  go_ret
  exact Or.inr ⟨c, h1, HR.out.1, rfl, HR.out.2⟩
set_option maxRecDepth 100000 in
set_option maxHeartbeats 8000000 in
theorem take_call {w : World} {own : Nat → Option T} {pb : Nat} {m : M} {B g f cl : Nat} {x : Str} {ws : List Str} (h : TkAt w own pb m B g f cl x ws) (hne : m.ts ≠ []) (hk0 : callKind x ≠ 0) (hct : counts 5 x ws.length = true) :
  Calls Tryz.prog 48 #[.pointer (some ⟨pb, 0, none⟩), .int .i64 5, .slice (some ⟨g, f, none⟩) (ws.length + 1) cl] w (Res own pb m.st (takeF m.play 5 x ws) w) := by
 have hcl := h.cap
 have hlw := h.len
 have HK := Lib.hid (call_any B x ws g f cl h.p h.ev h.wat h.sz hcl hne h.ts h.cl_ hk0 hct (by omega))
 rw [show takeF m.play 5 x ws = callF m.play x ws from rfl]
 clear h hct hne
 generalize callF m.play x ws = R at *
 generalize ws.length = n at *
 go_enter Tryz.func48, Tryz.ntmps48
 go_wp2_with fail
 refine HK.out.mono ?_
 intro e w' hr
 rcases hr with ⟨p, own', m', h1, rfl, h2⟩ | ⟨c, h1, h2, rfl, h3⟩
 ·have HR := Lib.hid h2
  clear h2
  go_wp2_with fail
  go_ret
  exact Or.inl ⟨p, own', m', h1, rfl, HR.out⟩
 ·have HR := Lib.hid (And.intro h2 h3)
  clear h2 h3
  go_wp2_with fail
  go_ret
  exact Or.inr ⟨c, h1, HR.out.1, rfl, HR.out.2⟩
set_option maxRecDepth 100000 in
set_option maxHeartbeats 8000000 in
theorem take_end {w : World} {own : Nat → Option T} {pb : Nat} {m : M} {B g f cl : Nat} {x : Str} {ws : List Str} (h : TkAt w own pb m B g f cl x ws) (hn : 1 ≤ ws.length) :
  Calls Tryz.prog 48 #[.pointer (some ⟨pb, 0, none⟩), .int .i64 7, .slice (some ⟨g, f, none⟩) (ws.length + 1) cl] w (Res own pb m.st (takeF m.play 7 x ws) w) := by
 have hcl := h.cap
 have hlw := h.len
 obtain ⟨y, r, rfl⟩ : ∃ y r, ws = y :: r := by
  cases ws with
  | nil => simp at hn
  | cons y r => exact ⟨y, r, rfl⟩
 have HK := Lib.hid (end_any B y r g (f + 1) (cl - 1) h.p h.ev h.tail.1 h.tail.2 (by simp at hcl; omega) h.es (by simp at hlw; omega) h.free h.low)
 rw [List.length_cons] at hcl hlw ⊢
 have hc1 : 1 < cl := by omega
 have hc2 : ¬ cl - 1 = 0 := by omega
 rw [show takeF m.play 7 x (y :: r) = endF m.play (y :: r) from rfl]
 clear h hn
 generalize endF m.play (y :: r) = R at *
 generalize r.length = n at *
 go_enter Tryz.func48, Tryz.ntmps48
 go_wp2_with fail
 refine HK.out.mono ?_
 intro e w' hr
 rcases hr with ⟨p, own', m', h1, rfl, h2⟩ | ⟨c, h1, h2, rfl, h3⟩
 ·have HR := Lib.hid h2
  clear h2
  go_wp2_with fail
  go_ret
  exact Or.inl ⟨p, own', m', h1, rfl, HR.out⟩
 ·have HR := Lib.hid (And.intro h2 h3)
  clear h2 h3
  go_wp2_with fail
  go_ret
  exact Or.inr ⟨c, h1, HR.out.1, rfl, HR.out.2⟩
theorem one_code {c : Str} {gb off : Nat} {cs : Array Value} {t : TypeId} {w w' : World} {e : Ending} (h : ((∃ n, numOf c = some n ∧ e = .returned (.int .i64 0) ∧ w'.heap[gb]? = some (.cells (cs.setIfInBounds off (.int .i64 n)) t (0, 0))) ∨ (numOf c = none ∧ e = .returned (.int .i64 66))) ∧ Keep (fun q => q = gb) w w') :
  ∃ code : Int, e = .returned (.int .i64 code) ∧ ((∃ n, numOf c = some n ∧ code = 0 ∧ w'.heap[gb]? = some (.cells (cs.setIfInBounds off (.int .i64 n)) t (0, 0))) ∨ (numOf c = none ∧ code = 66)) ∧ Keep (fun q => q = gb) w w' := by
 rcases h with ⟨(⟨n, h1, h2, h3⟩ | ⟨h1, h2⟩), h4⟩
 ·exact ⟨0, h2, Or.inl ⟨n, h1, rfl, h3⟩, h4⟩
 ·exact ⟨66, h2, Or.inr ⟨h1, rfl⟩, h4⟩
set_option maxRecDepth 100000 in
set_option maxHeartbeats 8000000 in
theorem take_most {w : World} {own : Nat → Option T} {pb : Nat} {m : M} {B g f cl : Nat} {x : Str} {ws : List Str} (h : TkAt w own pb m B g f cl x ws) (hn : ws.length = 1) :
  Calls Tryz.prog 48 #[.pointer (some ⟨pb, 0, none⟩), .int .i64 2, .slice (some ⟨g, f, none⟩) (ws.length + 1) cl] w (Res own pb m.st (takeF m.play 2 x ws) w) := by
 have hcl := h.cap
 obtain ⟨y, rfl⟩ : ∃ y, ws = [y] := List.length_eq_one_iff.1 hn
 have cy := (h.wat.at_ (i := 1) (by simp)).1
 simp at cy
 have hgp : g ≠ pb := by intro e; have := h.free; rw [e, h.p.tag] at this; cases this
 have hlt := lt_of_block h.p.blk
 have kW : Keep (fun _ => False) w (w.drew.alloc (.cells #[.pointer (some ⟨pb, 12, none⟩)] 108)) := (Keep.refl _ w).drew.alloc _
 have hI := ints_one y g (f + 1) (cl - 1) 1 w.heap.size pb 12 m.cells 61 B _ (h.ev.kept kW.none) ((kW.cell (p := ⟨g, f + 1, none⟩) (len_ws h) id).trans cy) (h.tail.2 0) (blk_new _ _) (kW.same h.p.blk id) (show 12 < 15 by decide) (by omega) hgp (h.low pb (by rw [h.p.tag]; simp))
 have HI := Lib.hid hI
 have HR := Lib.hid (show takeF m.play 2 x [y] = (match numOf y with | none => .error 66 | some n => .ok { m.play with most := n }) from rfl)
 have HP := Lib.hid (And.intro h.p kW)
 rw [show [y].length = 1 from rfl] at hcl ⊢
 have hc1 : 1 < cl := by omega
 have hc2 : ¬ cl - 1 = 0 := by omega
 have hc3 : ¬ cl = 1 := by omega
 clear h hn hI kW
 go_enter Tryz.func48, Tryz.ntmps48
 go_wp2_with fail
 go_region_with (go_at_call 81; refine HI.out.mono ?_; intro e w2 hq; obtain ⟨code, rfl, hq2, k2⟩ := one_code hq; clear hq)
 clear HI
 have k02 : Keep (fun q => q = pb) w w2 := (HP.out.2.mono fun _ _ h => h.elim).trans k2
 rcases hq2 with ⟨n, hn, rfl, hb⟩ | ⟨hn, rfl⟩
 ·have HX := Lib.hid (And.intro hn (And.intro k02 hb))
  clear hn k02 hb k2
  go_wp2_with fail
  go_ret
  obtain ⟨hp1, hp2⟩ := PAt.scalars (m' := { m with most := n }) HP.out.1 HX.out.2.1 HX.out.2.2 rfl rfl rfl rfl rfl rfl rfl rfl
  exact Or.inl ⟨_, _, _, by rw [HR.out, HX.out.1]; rfl, rfl, hp1, rfl, rfl, hp2⟩
 ·have HX := Lib.hid (And.intro hn k02)
  clear hn k02 k2
  go_wp2_with fail
  go_ret
  exact Or.inr ⟨66, by rw [HR.out, HX.out.1], by decide, rfl, HX.out.2.mono fun q _ hq => by rw [hq, HP.out.1.tag]; simp⟩
theorem infoT : ∃ i, Tryz.prog.info? 56 = some i ∧ i.zero = some (.slice none 0 0) ∧ i.size = 1 ∧ i.bytes = 24 := by
 have h : (Tryz.prog.info? 56).map (fun i => (i.zero, i.size, i.bytes)) = some (some (.slice none 0 0), 1, 24) := by kernel_rfl
 exact info_parts h
theorem infoI : ∃ i, Tryz.prog.info? 3 = some i ∧ i.zero = some (.int .i64 0) ∧ i.size = 1 ∧ i.bytes = 8 := by
 have h : (Tryz.prog.info? 3).map (fun i => (i.zero, i.size, i.bytes)) = some (some (.int .i64 0), 1, 8) := by kernel_rfl
 exact info_parts h
set_option maxRecDepth 100000 in
set_option maxHeartbeats 8000000 in
theorem take_task {w : World} {own : Nat → Option T} {pb : Nat} {m : M} {B g f cl : Nat} {x : Str} {ws : List Str} (h : TkAt w own pb m B g f cl x ws) :
  Calls Tryz.prog 48 #[.pointer (some ⟨pb, 0, none⟩), .int .i64 4, .slice (some ⟨g, f, none⟩) (ws.length + 1) cl] w (Res own pb m.st (takeF m.play 4 x ws) w) := by
 have hts := h.ts
 have hp := h.p
 have HR := Lib.hid (show takeF m.play 4 x ws = .ok { m.play with tasks := m.play.tasks ++ [[]] } from rfl)
 generalize ws.length = n at *
 obtain ⟨oa, pa, hv⟩ := hp.ts.len
 have c10 := blk_cell hp.blk 10
 have f10 := blk_free hp.blk 10
 simp [M.cells] at c10
 have hlt := lt_of_block hp.blk
 have HP := Lib.hid (And.intro hp hv)
 rw [hv] at c10
 have HN := Lib.hid (show ∀ q, m.tv.ownBlock = some q → q ≠ pb from fun q hq e => by
  have h4 := hp.ts.tag q hq
  rw [e, hp.tag] at h4
  cases h4)
 have hrow : (w.alloc (.cells #[.slice none 0 0] 56)).ownsRow 0 56 1 m.tv m.ts.length (m.ts.map (·.v)) := row_keep hp.ts.row ((Keep.refl (fun _ => False) w).alloc _) fun _ _ => id
 have HROW := Lib.hid hrow
 obtain ⟨i0, hi, hz0, hz1, hz2⟩ := infoT
 clear h hp hv hrow
 go_enter Tryz.func48, Tryz.ntmps48
 go_wp2_with (at_builtin; refine wpList_append_own_at _ rfl (.tmp 41) (.tmp 42) 36 rfl 0 56 i0 _ 1 24 Tryz.underlying36 hi hz0 hz1 hz2 rfl (by decide) m.tv m.ts.length (m.ts.map (·.v)) (by rw [HP.out.2]; rfl) HROW.out ⟨w.heap.size, 0, none⟩ 1 1 [.slice none 0 0] rfl rfl (new_cells _ _ _) (by intro u hu; simp at hu; subst hu; rfl) (by unfold maxLen; omega) (by omega) (Nat.zero_le _) ?a2)
 case a2 =>
  intro v4 w4 hown hgr _ hblk
  obtain ⟨g4, c4, rfl⟩ := ownsRow_succ hown
  have k4 : Keep (fun q => m.tv.ownBlock = some q) w w4 := ((Keep.refl (fun q => m.tv.ownBlock = some q) w).alloc _).trans (keep_grown hgr)
  have ca4 := (k4.cell (p := ⟨pb, 10, none⟩) hlt (fun h => HN.out _ h rfl)).trans c10
  have fa4 := (k4.frozen (p := ⟨pb, 10, none⟩) hlt (fun h => HN.out _ h rfl)).trans f10
  have H4 := Lib.hid (And.intro hown (And.intro hblk k4))
  clear hown hgr hblk k4 c10 f10
  go_wp2_with fail
  go_ret
  obtain ⟨own', hp1, hp2⟩ := HP.out.1.task_push H4.out.1 H4.out.2.2 (by
   rcases H4.out.2.1 with h | h
   ·exact Or.inl h
   ·exact Or.inr ⟨_, h, by simp⟩)
  obtain ⟨e1, e2⟩ := M.newTask_play m (.slice (some ⟨g4, 0, none⟩) (m.ts.length + 1) c4)
  exact Or.inl ⟨_, _, _, HR.out, rfl, hp1, e1, e2, hp2⟩
set_option maxRecDepth 100000 in
set_option maxHeartbeats 8000000 in
theorem take_picks {w : World} {own : Nat → Option T} {pb : Nat} {m : M} {B g f cl : Nat} {x : Str} {ws : List Str} (h : TkAt w own pb m B g f cl x ws) (hn1 : 1 ≤ ws.length) :
  Calls Tryz.prog 48 #[.pointer (some ⟨pb, 0, none⟩), .int .i64 6, .slice (some ⟨g, f, none⟩) (ws.length + 1) cl] w (Res own pb m.st (takeF m.play 6 x ws) w) := by
 have hcl := h.cap
 have hlw := h.len
 have hgl := len_ws h
 have HH := Lib.hid h
 have HR := Lib.hid (show takeF m.play 6 x ws = (match nums ws with | none => .error 66 | some l => .ok { m.play with picks := m.play.picks ++ l }) from rfl)
 obtain ⟨n, hn⟩ : ∃ n, ws.length = n := ⟨_, rfl⟩
 have HN := Lib.hid hn
 rw [hn] at hcl hlw hn1 ⊢
 have hc1 : 1 < cl := by omega
 have hc2 : ¬ cl - 1 = 0 := by omega
 clear h hn
 go_enter Tryz.func48, Tryz.ntmps48
 go_wp2_with fail
 go_loopg [8, 9, 10, 57] n (fun gq s8 s9 s10 s57 wr => ∃ k : Nat, gq + k = n ∧ s57 = .int .i64 (k : Int) ∧ Hid (∃ (ns : List Int) (m' : M) (ownk : Nat → Option T), nums (ws.take k) = some ns ∧ PAt wr ownk pb m' ∧ m'.play = { m.play with picks := m.play.picks ++ ns } ∧ m'.st = m.st ∧ m'.ps.length = m.ps.length + k ∧ To own ownk w wr))
 case atStart => exact ⟨0, by omega, rfl, [], m, own, by simp [nums], HH.out.p, by simp, rfl, rfl, To.refl _ _⟩
 case round =>
  obtain ⟨k, hgk, rfl, HK⟩ := hrel
  obtain ⟨ns, m', ownk, hns, hpk, hpl, hst, hpsl, hto⟩ := HK.out
  by_cases hk : k < n
  ·have hkw : k < ws.length := by rw [HN.out]; exact hk
   have cw0 := (HH.out.wat.at_ (i := k + 1) (by simp; exact hkw)).1
   have cw : wr.cell? ⟨g, f + 1 + k, none⟩ = some (.string (strB (ws.getD k []))) := by
    rw [show f + 1 + k = f + (k + 1) by omega]
    exact (hto.keep.cell (p := ⟨g, f + (k + 1), none⟩) hgl (by rw [HH.out.free]; simp)).trans (by simpa using cw0)
   have hEk : Ev B wr := HH.out.ev.on (hto.keep.below HH.out.ev.le HH.out.low)
   have HNUM := Lib.hid (number_s (ws.getD k []) B wr hEk (HH.out.tail.2 k))
   have HS := Lib.hid (show nums (ws.take (k + 1)) = (numOf (ws.getD k [])).map fun n => ns ++ [n] from by
    rw [take_snoc hkw, nums_snoc, hns, List.getD_eq_getElem?_getD, List.getElem?_eq_getElem hkw]
    rfl)
   have HB := Lib.hid (And.intro hpk (And.intro hpl (And.intro hst (And.intro hpsl hto))))
   generalize ws.getD k [] = y at *
   have hk1 : (k : Int) < (n : Int) := by omega
   have hk0 : (0 : Int) ≤ (k : Int) := by omega
   clear HK hns hpk hpl hst hpsl hto cw0 hEk hkw
   go_wp2_with fail
   refine HNUM.out.mono ?_
   clear HNUM
   rintro e w2 ⟨⟨z, ok, rfl, hq⟩, hb2⟩
   obtain ⟨q1, q2⟩ := ok_of hq
   have k2 := Keep.of_below hb2
   cases ok with
   | false =>
    have HX := Lib.hid (And.intro (q2 (by trivial)) k2)
    clear hq q1 q2 hb2 k2
    go_wp2_with fail
    go_ret
    have h1 : nums (ws.take (k + 1)) = none := by rw [HS.out, HX.out.1]; rfl
    exact Or.inr ⟨66, by rw [HR.out, nums_none ws (k + 1) h1], by decide, rfl, HB.out.2.2.2.2.keep.trans (HX.out.2.mono fun _ _ h => h.elim)⟩
   | true =>
    have hp2 : PAt w2 ownk pb m' := HB.out.1.kept k2
    obtain ⟨oa, pa, hv⟩ := hp2.ps.len
    have c11 := blk_cell hp2.blk 11
    have f11 := blk_free hp2.blk 11
    simp [M.cells] at c11
    have hlt := lt_of_block hp2.blk
    rw [hv] at c11
    have HP := Lib.hid (And.intro hp2 hv)
    have HNE := Lib.hid (show ∀ q, m'.pv.ownBlock = some q → q ≠ pb from fun q hq e => by
     have h4 := hp2.ps.tag q hq
     rw [e, hp2.tag] at h4
     cases h4)
    have hrow : (w2.alloc (.cells #[.int .i64 z] 3)).ownsRow 0 3 1 m'.pv m'.ps.length (m'.ps.map (Value.int .i64)) := row_keep hp2.ps.row ((Keep.refl (fun _ => False) w2).alloc _) fun _ _ => id
    have HROW := Lib.hid hrow
    have hbl : m'.ps.length ≤ 3000000 := by have := HB.out.2.2.2.1; have := HH.out.ps; omega
    obtain ⟨i0, hi, hz0, hz1, hz2⟩ := infoI
    have HX := Lib.hid (And.intro (q1 (by trivial)) k2)
    clear hq q1 q2 hb2 k2 hp2 hv hrow
    go_wp2_with (at_builtin; refine wpList_append_own_at _ rfl (.tmp 73) (.tmp 75) 37 rfl 0 3 i0 _ 1 8 Tryz.underlying37 hi hz0 hz1 hz2 rfl (by decide) m'.pv m'.ps.length (m'.ps.map (Value.int .i64)) (by rw [HP.out.2]; rfl) HROW.out ⟨w2.heap.size, 0, none⟩ 1 1 [.int .i64 z] rfl rfl (new_cells _ _ _) (by intro u hu; simp at hu; subst hu; rfl) (by unfold maxLen; omega) (by omega) (Nat.zero_le _) ?a2)
    case a2 =>
     intro v4 w4 hown hgr _ hblk
     obtain ⟨g4, c4, rfl⟩ := ownsRow_succ hown
     have k4 : Keep (fun q => m'.pv.ownBlock = some q) w2 w4 := ((Keep.refl (fun q => m'.pv.ownBlock = some q) w2).alloc _).trans (keep_grown hgr)
     have ca4 := (k4.cell (p := ⟨pb, 11, none⟩) hlt (fun h => HNE.out _ h rfl)).trans c11
     have fa4 := (k4.frozen (p := ⟨pb, 11, none⟩) hlt (fun h => HNE.out _ h rfl)).trans f11
     have H4 := Lib.hid (And.intro hown (And.intro hblk k4))
     clear hown hgr hblk k4 c11 f11
     go_wp2_with fail
     go_roundg (gk - 1)
     all_goals first | omega | skip
     case rel =>
      obtain ⟨own', hp1, hp2⟩ := HP.out.1.pick_push z H4.out.1 H4.out.2.2 (by
       rcases H4.out.2.1 with h | h
       ·exact Or.inl h
       ·exact Or.inr ⟨_, h, by simp⟩)
      refine ⟨k + 1, by omega, rfl, ns ++ [z], _, own', ?_, hp1, ?_, HB.out.2.2.1, ?_, (HB.out.2.2.2.2.trans (To.kept HX.out.2)).trans hp2⟩
      ·rw [HS.out, HX.out.1]; rfl
      ·have h1 := HB.out.2.1
       show ({ m'.play with picks := m'.ps ++ [z] } : Play) = _
       rw [show m'.ps = m'.play.picks from rfl, h1]
       simp
      ·show (m'.ps ++ [z]).length = _
       rw [List.length_append, HB.out.2.2.2.1]
       simp
       omega
  ·obtain rfl : k = n := by omega
   have hns2 := hns
   rw [List.take_of_length_le (by rw [HN.out]; exact Nat.le_refl _)] at hns2
   have HX := Lib.hid (And.intro hns2 (And.intro hpk (And.intro hpl (And.intro hst hto))))
   clear HK hns hns2 hpk hpl hst hpsl hto hgk
   go_wp2_with fail
   go_ret
   exact Or.inl ⟨_, _, _, by rw [HR.out, HX.out.1], rfl, HX.out.2.1, HX.out.2.2.1, HX.out.2.2.2.1, HX.out.2.2.2.2⟩

structure Few (p : Play) : Prop where
 ends : p.ends.length ≤ 16
 tasks : p.tasks.length ≤ 16
 picks : p.picks.length ≤ 65536
 armed : (Sc.armed p).length ≤ 64
 last : (p.tasks.getLastD []).length ≤ 256
theorem few0 : Few play0 := ⟨by decide, by decide, by decide, by decide, by decide⟩
theorem armed_arm (p : Play) (f : Fault) : (Sc.armed (Sc.arm p f)).length = (Sc.armed p).length + 1 ∧ (Sc.arm p f).ends.length = p.ends.length ∧ (Sc.arm p f).tasks = p.tasks ∧ (Sc.arm p f).picks = p.picks := by
 unfold Sc.arm
 cases hl : p.ends.getLast? with
 | none =>
  have he : p.ends = [] := List.getLast?_eq_none_iff.1 hl
  refine ⟨?_, rfl, rfl, rfl⟩
  have e1 : Sc.armed { p with faults := p.faults ++ [f] } = p.faults ++ [f] := by
   unfold Sc.armed
   show (match p.ends.getLast? with | some r => r.faults | none => p.faults ++ [f]) = _
   rw [hl]
  have e2 : Sc.armed p = p.faults := by unfold Sc.armed; rw [hl]
  show (Sc.armed { p with faults := p.faults ++ [f] }).length = _
  rw [e1, e2]
  simp
 | some r =>
  obtain ⟨pre, hpre⟩ : ∃ pre, p.ends = pre ++ [r] := List.getLast?_eq_some_iff.1 hl
  refine ⟨?_, ?_, rfl, rfl⟩
  ·unfold Sc.armed
   rw [hl]
   simp
  ·rw [hpre]; simp
theorem few_take {p q : Play} {k : Int} {x : Str} {ws : List Str} (h : Few p) (hk1 : 1 ≤ k) (hk2 : k ≤ 7) (hf : full p k ws.length = false) (ht : takeF p k x ws = .ok q) : Few q := by
 unfold takeF at ht
 by_cases h1 : k = 1
 ·rw [if_pos h1] at ht
  unfold playF at ht
  split at ht
  ·split at ht
   ·cases ht
   ·split at ht
    ·cases ht
    ·cases ht
     exact ⟨h.ends, h.tasks, h.picks, h.armed, h.last⟩
  ·cases ht
 rw [if_neg h1] at ht
 by_cases h2 : k = 2
 ·rw [if_pos h2] at ht
  split at ht
  ·cases ht
  ·cases ht
   exact ⟨h.ends, h.tasks, h.picks, h.armed, h.last⟩
 rw [if_neg h2] at ht
 by_cases h3 : k = 3
 ·rw [if_pos h3] at ht
  have hf2 : ¬ 64 ≤ (Sc.armed p).length := by
   unfold full at hf
   rw [if_pos h3] at hf
   simpa using hf
  have key : ∀ f, Few (Sc.arm p f) := fun f => by
   obtain ⟨e1, e2, e3, e4⟩ := armed_arm p f
   exact ⟨by rw [e2]; exact h.ends, by rw [e3]; exact h.tasks, by rw [e4]; exact h.picks, by rw [e1]; omega, by rw [e3]; exact h.last⟩
  unfold faultF at ht
  split at ht
  ·cases ht
  ·split at ht
   ·cases ht
   ·split at ht
    ·cases ht
    ·cases ht
     exact key _
 rw [if_neg h3] at ht
 by_cases h4 : k = 4
 ·rw [if_pos h4] at ht
  have hf2 : ¬ 16 ≤ p.tasks.length := by
   unfold full at hf
   rw [if_neg h3, if_pos h4] at hf
   simpa using hf
  cases ht
  exact ⟨h.ends, by simp; omega, h.picks, h.armed, by simp [List.getLastD_eq_getLast?]⟩
 rw [if_neg h4] at ht
 by_cases h5 : k = 5
 ·rw [if_pos h5] at ht
  have hf2 : ¬ 256 ≤ (p.tasks.getLastD []).length := by
   unfold full at hf
   rw [if_neg h3, if_neg h4, if_pos h5] at hf
   simpa using hf
  have key : ∀ c, Few (callTo p c) ∨ p.tasks = [] := fun c => by
   by_cases he : p.tasks = []
   ·exact Or.inr he
   ·left
    obtain ⟨t, hl⟩ : ∃ t, p.tasks.getLast? = some t := ⟨_, List.getLast?_eq_some_getLast he⟩
    obtain ⟨pre, hpre⟩ : ∃ pre, p.tasks = pre ++ [t] := List.getLast?_eq_some_iff.1 hl
    refine ⟨h.ends, ?_, h.picks, h.armed, ?_⟩
    ·have := h.tasks
     unfold callTo
     rw [hpre] at this ⊢
     simpa using this
    ·unfold callTo
     simp [List.getLastD_eq_getLast?] at hf2 ⊢
     omega
  have key2 : ∀ c, Few (callTo p c) := fun c => by
   rcases key c with h | he
   ·exact h
   ·refine ⟨h.ends, ?_, h.picks, h.armed, ?_⟩ <;> unfold callTo <;> simp [he]
  unfold callF at ht
  split at ht
  ·split at ht
   ·cases ht
   ·cases ht; exact key2 _
  ·split at ht
   ·split at ht
    ·cases ht
    ·cases ht; exact key2 _
   ·cases ht; exact key2 _
 rw [if_neg h5] at ht
 by_cases h6 : k = 6
 ·rw [if_pos h6] at ht
  have hf2 : ¬ 65536 < p.picks.length + ws.length := by
   unfold full at hf
   rw [if_neg h3, if_neg h4, if_neg h5, if_pos h6] at hf
   simpa using hf
  split at ht
  ·cases ht
  ·rename_i l hl
   cases ht
   have := nums_len hl
   exact ⟨h.ends, h.tasks, by simp; omega, h.armed, h.last⟩
 rw [if_neg h6] at ht
 unfold endF at ht
 split at ht
 ·cases ht
 ·split at ht
  ·cases ht
  ·cases ht
   by_cases h7 : k = 7
   ·have hf2 : ¬ 16 ≤ p.ends.length := by
     unfold full at hf
     rw [if_neg h3, if_neg h4, if_neg h5, if_neg h6, if_pos h7] at hf
     simp at hf
     omega
    exact ⟨by simp; omega, h.tasks, h.picks, by unfold Sc.armed; simp, h.last⟩
   ·omega
theorem kind_range (x : Str) : 0 ≤ kindOf x ∧ kindOf x ≤ 7 := by
 unfold kindOf
 repeat' split
 all_goals omega
theorem kind_call {x : Str} (h : kindOf x = 5) : callKind x ≠ 0 := by
 unfold kindOf at h
 repeat' split at h
 all_goals first | omega | assumption
theorem Few.mem {m : M} (h : Few m.play) : m.es.length ≤ 16 ∧ m.ts.length ≤ 16 ∧ m.ps.length ≤ 65536 ∧ (armL m).length ≤ 64 ∧ (callL m).length ≤ 256 := by
 refine ⟨?_, ?_, h.picks, ?_, ?_⟩
 ·have := h.ends; unfold M.play at this; simpa using this
 ·have := h.tasks; unfold M.play at this; simpa using this
 ·rw [armL_is]; exact h.armed
 ·rw [callL_len]; exact h.last
def LineR (own : Nat → Option T) (pb : Nat) (r : Except Int PS) (w : World) (e : Ending) (w' : World) : Prop :=
 (∃ own' m', r = .ok m'.ps_ ∧ e = .returned (.int .i64 0) ∧ PAt w' own' pb m' ∧ To own own' w w') ∨ (∃ c, r = .error c ∧ c ≠ 0 ∧ e = .returned (.int .i64 c) ∧ Keep (fun g => own g ≠ none) w w')
theorem enters_st {st : Nat} (h : st ≤ 5) : ∀ args w, (callFunc (stF st) args).run Tryz.prog w = .ok (.enter (stF st) args) w := by
 obtain rfl | rfl | rfl | rfl | rfl | rfl : st = 0 ∨ st = 1 ∨ st = 2 ∨ st = 3 ∨ st = 4 ∨ st = 5 := by omega
 ·exact enters_of Tryz.func17 (by kernel_rfl) rfl
 ·exact enters_of Tryz.func39 (by kernel_rfl) rfl
 ·exact enters_of Tryz.func72 (by kernel_rfl) rfl
 ·exact enters_of Tryz.func96 (by kernel_rfl) rfl
 ·exact enters_of Tryz.func109 (by kernel_rfl) rfl
 ·exact enters_of Tryz.func137 (by kernel_rfl) rfl
theorem take_any {w : World} {own : Nat → Option T} {pb : Nat} {m : M} {B g f cl : Nat} {x : Str} {ws : List Str} (k : Int) (h : TkAt w own pb m B g f cl x ws) (hk1 : 1 ≤ k) (hk2 : k ≤ 7) (hk : kindOf x = k) (hne : k = 5 → m.ts ≠ []) (hct : counts k x ws.length = true) :
  Calls Tryz.prog 48 #[.pointer (some ⟨pb, 0, none⟩), .int .i64 k, .slice (some ⟨g, f, none⟩) (ws.length + 1) cl] w (Res own pb m.st (takeF m.play k x ws) w) := by
 obtain rfl | rfl | rfl | rfl | rfl | rfl | rfl : k = 1 ∨ k = 2 ∨ k = 3 ∨ k = 4 ∨ k = 5 ∨ k = 6 ∨ k = 7 := by omega
 ·exact take_play h (by simpa [counts] using hct)
 ·exact take_most h (by simpa [counts] using hct)
 ·exact take_fault h (by simpa [counts] using hct)
 ·exact take_task h
 ·exact take_call h (hne rfl) (kind_call hk) hct
 ·exact take_picks h (by simpa [counts] using hct)
 ·exact take_end h (by simpa [counts] using hct)

theorem wsp_mem : ∀ (s cur : Str) (x : Str), x ∈ wsp cur s → x.length ≤ cur.length + s.length
 | [], cur, x, h => by
  rw [wsp] at h
  split at h
  ·simp at h
  ·simp at h; subst h; simp
 | c :: s, cur, x, h => by
  rw [wsp] at h
  split at h
  ·split at h
   ·have := wsp_mem s [] x h; simp at this ⊢; omega
   ·rcases List.mem_cons.1 h with rfl | h
    ·simp
    ·have := wsp_mem s [] x h; simp at this ⊢; omega
  ·have := wsp_mem s (cur ++ [c]) x h; simp at this ⊢; omega
theorem words_sz (s : Str) (i : Nat) : ((wordsOf s).getD i []).length ≤ s.length := by
 rcases Nat.lt_or_ge i (wordsOf s).length with h | h
 ·rw [List.getD_eq_getElem?_getD, List.getElem?_eq_getElem h]
  have := wsp_mem s [] _ (List.getElem_mem h)
  simpa using this
 ·rw [List.getD_eq_getElem?_getD, List.getElem?_eq_none h]; simp
theorem lineF_is (σ : PS) (s : Str) : lineF σ s = (if (ahead 35 s).all okB = false then .error 64
 else match wordsOf (ahead 35 s) with
 | [] => .ok σ
 | w :: ws =>
  if kindOf w = 0 then .error 65
  else if nxt σ.st (kindOf w) = 6 ∨ (kindOf w = 5 ∧ σ.p.tasks = []) then .error 63
  else if full σ.p (kindOf w) ws.length = true then .error 9
  else if counts (kindOf w) w ws.length = false then .error 64
  else match takeF σ.p (kindOf w) w ws with
   | .error e => .error e
   | .ok p => .ok ⟨p, nxt σ.st (kindOf w)⟩) := rfl
@[go_sem] theorem run_store_func {P : Program} {w : World} {a : Addr} {m : Mode} (f : Fn) (x y : Array Value) : (store a (.func f x y) m).run P w = stored P w a (.func f x y) m := run_store P w a _ m rfl
theorem eq_func (K : Nat) (w : World) : (binOp BinOp.eql 59 (.func (.func K) #[] #[]) .nilFunc).run Tryz.prog w = .ok (.bool false) w := by kernel_rfl
theorem eq_nil (w : World) : (binOp BinOp.eql 59 .nilFunc .nilFunc).run Tryz.prog w = .ok (.bool true) w := by kernel_rfl
theorem neq_func (K : Nat) (w : World) : (binOp BinOp.neq 59 (.func (.func K) #[] #[]) .nilFunc).run Tryz.prog w = .ok (.bool true) w := by kernel_rfl
theorem neq_nil (w : World) : (binOp BinOp.neq 59 .nilFunc .nilFunc).run Tryz.prog w = .ok (.bool false) w := by kernel_rfl
set_option maxRecDepth 100000 in
set_option maxHeartbeats 16000000 in
theorem line_any {w : World} {own : Nat → Option T} {pb : Nat} {m : M} (B : Nat) (s : Str) (h : PAt w own pb m) (hE : Ev B w) (hs : s.length ≤ 65536) (hlow : ∀ q, own q ≠ none → B ≤ q) (hfew : Few m.play) (hst : m.st ≤ 5) :
  Calls Tryz.prog 19 #[.pointer (some ⟨pb, 0, none⟩), .string (strB s)] w (LineR own pb (lineF m.ps_ s) w) := by
 have HH := Lib.hid (And.intro h (And.intro hE (And.intro hlow (And.intro hfew hst))))
 have HC := Lib.hid (cut_s s 35 B w hE (by omega))
 have HR := Lib.hid (lineF_is m.ps_ s)
 have hal := ahead_len 35 s
 rw [show (35 : UInt8).toNat = 35 from rfl] at HC
 generalize ahead 35 s = b at *
 have hbl : b.length ≤ 65536 := Nat.le_trans hal hs
 clear h hE hs hlow hfew hst hal
 go_enter Tryz.func19, Tryz.ntmps19
 go_wp2_with fail
 refine HC.out.mono ?_
 clear HC
 rintro e w1 ⟨rfl, nd, rfl⟩
 have HPL := Lib.hid (fun (W : World) => plain_s b W (by omega))
 have hpl1 : PAt (w.drewN nd) own pb m := HH.out.1.drewN nd
 cases hall : b.all okB with
 | false =>
  rw [hall] at HPL
  have HX := Lib.hid (show lineF m.ps_ s = .error 64 from by rw [HR.out, hall]; rfl)
  clear hall hpl1
  go_wp2_with (go_at_call 42; refine (HPL.out _).mono ?_; rintro e w' ⟨rfl, rfl⟩)
  go_ret
  exact Or.inr ⟨64, HX.out, by decide, rfl, ((Keep.refl _ w).drewN nd)⟩
 | true =>
  rw [hall] at HPL
  have HR1 := Lib.hid (show lineF m.ps_ s = (match wordsOf b with
   | [] => .ok m.ps_
   | w :: ws =>
    if kindOf w = 0 then .error 65
    else if nxt m.st (kindOf w) = 6 ∨ (kindOf w = 5 ∧ m.play.tasks = []) then .error 63
    else if full m.play (kindOf w) ws.length = true then .error 9
    else if counts (kindOf w) w ws.length = false then .error 64
    else match takeF m.play (kindOf w) w ws with
     | .error e => .error e
     | .ok p => .ok ⟨p, nxt m.st (kindOf w)⟩) from by rw [HR.out, hall]; rfl)
  clear hall HR
  have HWM := Lib.hid (words_made (strB b))
  go_wp2_with (first
   | (go_at_call 42; refine (HPL.out _).mono ?_; rintro e w' ⟨rfl, rfl⟩)
   | (go_at_call 44; refine (HWM.out _).mono ?_; rintro e w' ⟨rfl, rfl⟩))
  obtain ⟨q, hq⟩ : ∃ q, w.heap.size = q := ⟨_, rfl⟩
  obtain ⟨W, hW⟩ : ∃ W, (w.drewN nd).alloc (.cells #[.string (strB b)] 9) = W := ⟨_, rfl⟩
  have hbW : W.heap[q]? = some (.cells #[.string (strB b)] 9 (0, 0)) := by rw [← hW, ← hq]; exact blk_new (w.drewN nd) _
  have kW : Keep (fun _ => False) w W := by rw [← hW]; exact ((Keep.refl _ w).drewN nd).alloc _
  rw [hW, hq]
  clear hW
  have hwl : (wordsOf b).length ≤ b.length + 1 := wsp_len b []
  have HCO := Lib.hid (collect_words q b W hbW (by omega) (by omega))
  have HWZ := Lib.hid (words_sz b)
  have HW := Lib.hid (And.intro kW True.intro)
  clear hpl1 hbW kW
  refine HCO.out.mono ?_
  clear HCO
  rintro e w2 ⟨v, rfl, hrow, k2⟩
  have k02 : Keep (fun _ => False) w w2 := HW.out.1.own k2 fun i hi => Or.inr (by omega)
  obtain ⟨o, cap, rfl, hoc, hcap, hws⟩ := WsAt.of_row hrow
  cases hwd : wordsOf b with
  | nil =>
   rw [hwd] at HR1
   have HX := Lib.hid (And.intro HR1.out k02)
   clear hrow hoc hcap hws k2 k02
   rw [show ([] : List Str).length = 0 from rfl]
   go_wp2_with fail
   go_ret
   exact Or.inl ⟨own, m, HX.out.1, rfl, HH.out.1.kept HX.out.2, To.kept HX.out.2⟩
  | cons x ws =>
   rw [hwd] at HR1 hcap hws hwl HWZ
   obtain ⟨g, f, rfl, -, hgl⟩ := hws 0 (by simp)
   obtain ⟨cx, -⟩ := hws.at_ (i := 0) (by simp)
   simp at cx
   have hg0 : w.heap.size ≤ g := by
    rcases hrow.2 with ⟨h1, -⟩ | ⟨g', cap', cur, h1, h2, -⟩
    ·cases h1
    ·cases h1; exact Nat.le_trans HW.out.1.size h2
   have hgo : own g = none := by
    cases hq2 : own g with
    | none => rfl
    | some t => have := HH.out.1.low g (by rw [hq2]; simp); omega
   have HX := Lib.hid (And.intro k02 (And.intro hws hgo))
   have hp2 : PAt w2 own pb m := HH.out.1.kept k02
   have c14 := blk_cell hp2.blk 14
   have f14 := blk_free hp2.blk 14
   have c10 := blk_cell hp2.blk 10
   simp [M.cells] at c14 c10
   obtain ⟨ot, pt, htv⟩ := hp2.ts.len
   rw [htv] at c10
   have HP2 := Lib.hid hp2
   have HKI := Lib.hid (kind_s x w2)
   rw [List.length_cons] at hcap hwl
   have hn1 : ws.length ≤ 65536 := by omega
   clear hrow hoc hws k2 k02 hp2 htv hwd
   rw [List.length_cons]
   obtain ⟨n, hn⟩ : ∃ n, ws.length = n := ⟨_, rfl⟩
   have HN := Lib.hid hn
   rw [hn] at hcap hwl hn1 ⊢
   clear hn
   have hkr := kind_range x
   by_cases hk0 : kindOf x = 0
   ·have HZ := Lib.hid (show lineF m.ps_ s = .error 65 from by rw [HR1.out]; simp only [hk0, if_true])
    rw [hk0] at HKI
    clear hk0 hkr
    go_wp2_with (go_at_call 45; refine HKI.out.mono ?_; rintro e w' ⟨rfl, hw⟩; obtain rfl : w2 = w' := hw.symm)
    go_ret
    exact Or.inr ⟨65, HZ.out, by decide, rfl, HX.out.1.mono fun _ _ h => h.elim⟩
   ·have HR2 := Lib.hid (show lineF m.ps_ s = (if nxt m.st (kindOf x) = 6 ∨ (kindOf x = 5 ∧ m.play.tasks = []) then .error 63
     else if full m.play (kindOf x) ws.length = true then .error 9
     else if counts (kindOf x) x ws.length = false then .error 64
     else match takeF m.play (kindOf x) x ws with
      | .error e => .error e
      | .ok p => .ok ⟨p, nxt m.st (kindOf x)⟩) from by rw [HR1.out]; simp only [if_neg hk0])
    have HKK := Lib.hid (rfl : kindOf x = kindOf x)
    clear HR1
    obtain ⟨k, hk⟩ : ∃ k, kindOf x = k := ⟨_, rfl⟩
    have HKX := Lib.hid hk
    rw [hk] at HKI HR2 hk0 hkr
    clear hk HKK
    have hk0' : (k == 0) = false := by rw [beq_eq_false_iff_ne]; exact hk0
    rw [stV_lt HH.out.2.2.2.2] at c14
    have heg := enters_st HH.out.2.2.2.2
    have HST := Lib.hid (state_any m.st HH.out.2.2.2.2 k w2)
    obtain ⟨nx, hnx⟩ : ∃ nx, nxt m.st k = nx := ⟨_, rfl⟩
    have HNX := Lib.hid hnx
    rw [hnx] at HST HR2
    have hnx6 : nx ≤ 6 := by rw [← hnx]; exact nxt_le
    clear hnx
    generalize stF m.st = K at *
    go_wp2_with (go_at_call 45; refine HKI.out.mono ?_; rintro e w' ⟨rfl, hw⟩; obtain rfl : w2 = w' := hw.symm)
    refine HST.out.mono ?_
    rintro e w' ⟨rfl, hw⟩
    obtain rfl : w2 = w' := hw.symm
    clear HST HKI
    obtain ⟨e1, e2, e3, e4, e5⟩ := HH.out.2.2.2.1.mem
    have q1 := eq_func
    have q2 := eq_nil
    by_cases hn6 : nx = 6
    ·have HZ := Lib.hid (show lineF m.ps_ s = .error 63 from by rw [HR2.out, if_pos (Or.inl hn6)])
     rw [show stV nx = .nilFunc from by rw [hn6]; rfl]
     clear hn6 hnx6
     go_wp2_with fail
     go_ret
     exact Or.inr ⟨63, HZ.out, by decide, rfl, HX.out.1.mono fun _ _ h => h.elim⟩
    ·have hnx5 : nx ≤ 5 := by omega
     rw [stV_lt hnx5]
     obtain ⟨K2, hK2⟩ : ∃ K2, stF nx = K2 := ⟨_, rfl⟩
     have HK2 := Lib.hid hK2
     rw [hK2]
     clear hK2
     have HN5 := Lib.hid (And.intro hn6 hnx5)
     clear hn6 hnx6 hnx5
     have htn : m.play.tasks = [] ↔ m.ts = [] := by unfold M.play; simp
     by_cases hkt : k = 5 ∧ m.ts = []
     ·have HZ := Lib.hid (show lineF m.ps_ s = .error 63 from by rw [HR2.out, if_pos (Or.inr ⟨hkt.1, htn.2 hkt.2⟩)])
      have b5 : (k == 5) = true := by rw [hkt.1]; rfl
      rw [hkt.2] at c10
      rw [show ([] : List MT).length = 0 from rfl] at c10
      clear hkt htn
      go_wp2_with fail
      go_ret
      exact Or.inr ⟨63, HZ.out, by decide, rfl, HX.out.1.mono fun _ _ h => h.elim⟩
     ·have HR3 := Lib.hid (show lineF m.ps_ s = (if full m.play k ws.length = true then .error 9
       else if counts k x ws.length = false then .error 64
       else match takeF m.play k x ws with
        | .error e => .error e
        | .ok p => .ok ⟨p, nx⟩) from by rw [HR2.out, if_neg (fun h => by rcases h with h | h; (exact HN5.out.1 h); exact hkt ⟨h.1, htn.1 h.2⟩)])
      have hk5 : k = 5 → m.ts ≠ [] := fun h e => hkt ⟨h, e⟩
      have hlen0 : k = 5 → ((m.ts.length : Int) == 0) = false := fun h => by
       rw [beq_eq_false_iff_ne]
       have := List.length_pos_iff.2 (hk5 h)
       omega
      have HF := Lib.hid (full_any k n HP2.out (by omega) (by omega) (by omega) (by omega) hk5)
      rw [← HN.out] at HF
      have HK5 := Lib.hid hk5
      have hbb : ((k == 5) = false) ∨ ((k == 5) = true ∧ ((m.ts.length : Int) == 0) = false) := by
       by_cases h : k = 5
       ·exact Or.inr ⟨by rw [h]; rfl, hlen0 h⟩
       ·exact Or.inl (by rw [beq_eq_false_iff_ne]; exact h)
      clear hkt htn HR2 hk5 hlen0
      cases hfl : full m.play k ws.length with
      | true =>
       rw [hfl] at HF
       have HZ := Lib.hid (show lineF m.ps_ s = .error 9 from by rw [HR3.out, if_pos hfl])
       rw [HN.out] at HF
       clear hfl
       rcases hbb with b5 | ⟨b5, b6⟩
       all_goals
        go_wp2_with (go_at_call 46; refine HF.out.mono ?_; rintro e wY ⟨rfl, j, rfl⟩)
        go_ret
        exact Or.inr ⟨9, HZ.out, by decide, rfl, (HX.out.1.mono fun _ _ h => h.elim).drewN _⟩
      | false =>
       rw [hfl] at HF
       have HR4 := Lib.hid (show lineF m.ps_ s = (if counts k x ws.length = false then .error 64
        else match takeF m.play k x ws with
         | .error e => .error e
         | .ok p => .ok ⟨p, nx⟩) from by rw [HR3.out, if_neg (by rw [hfl]; decide)])
       have HFL := Lib.hid hfl
       rw [HN.out] at HF
       have HCT := Lib.hid (fun (W : World) (hc : W.cell? ⟨g, f, none⟩ = some (.string (strB x))) => counts_any k x n g f cap W hc (by omega))
       rw [HN.out] at HR4
       clear hfl HR3
       cases hct : counts k x n with
       | false =>
        rw [hct] at HCT
        have HZ := Lib.hid (show lineF m.ps_ s = .error 64 from by rw [HR4.out, if_pos hct])
        clear hct
        rcases hbb with b5 | ⟨b5, b6⟩
        all_goals
         go_wp2_with (first
          | (go_at_call 46; refine HF.out.mono ?_; rintro e wY ⟨rfl, j, rfl⟩)
          | (go_at_call 47; refine (HCT.out _ (by first | assumption | exact cx)).mono ?_; rintro e w' ⟨rfl, rfl⟩))
         go_ret
         exact Or.inr ⟨64, HZ.out, by decide, rfl, (HX.out.1.mono fun _ _ h => h.elim).drewN _⟩
       | true =>
        rw [hct] at HCT
        have HR5 := Lib.hid (show lineF m.ps_ s = (match takeF m.play k x ws with
         | .error e => .error e
         | .ok p => .ok ⟨p, nx⟩) from by rw [HR4.out, if_neg (by rw [hct]; decide)])
        have HCC := Lib.hid (show counts k x ws.length = true from by rw [HN.out]; exact hct)
        clear hct HR4
        rcases hbb with b5 | ⟨b5, b6⟩
        all_goals
         go_wp2_with (first
          | (go_at_call 46; refine HF.out.mono ?_; rintro e wY ⟨rfl, j, rfl⟩)
          | (go_at_call 47; refine (HCT.out _ (by first | assumption | exact cx)).mono ?_; rintro e w' ⟨rfl, rfl⟩))
         obtain ⟨wZ, hwZ⟩ : ∃ wZ, (w2.drewN j).setCell ⟨pb, 14, none⟩ (.func (.func K2) #[] #[]) = wZ := ⟨_, rfl⟩
         rw [hwZ]
         have hbZ : wZ.heap[pb]? = some (.cells (M.cells { m with st := nx }) 61 (0, 0)) := by
          rw [← hwZ]
          have h := blk_set (w := w2.drewN j) (b := pb) HP2.out.blk 14 (.func (.func K2) #[] #[])
          rw [h, ← HK2.out, ← stV_lt HN5.out.2]
          rfl
         have kZ : Keep (fun q => q = pb) w2 wZ := by rw [← hwZ]; exact ((Keep.refl (fun q => q = pb) w2).drewN j).setCell (p := ⟨pb, 14, none⟩) (Or.inl rfl) _
         clear hwZ
         obtain ⟨hpZ, htZ⟩ := PAt.scalars (m' := { m with st := nx }) HP2.out kZ hbZ rfl rfl rfl rfl rfl rfl rfl rfl
         have htoZ : To own own w wZ := (To.kept HX.out.1).trans htZ
         have hgp : g ≠ pb := by
          intro e
          have h1 := HX.out.2.2
          rw [e, HP2.out.tag] at h1
          cases h1
         have HTK := Lib.hid (take_any (m := { m with st := nx }) (B := B) (g := g) (f := f) (cl := cap) (x := x) (ws := ws) k {
           p := hpZ
           ev := HH.out.2.1.on (htoZ.keep.below HH.out.2.1.le HH.out.2.2.1)
           wat := HX.out.2.1.keep kZ fun g' f' h => by cases h; exact hgp
           sz := fun i => Nat.le_trans (HWZ.out i) (by omega)
           cap := by rw [HN.out]; omega
           len := by rw [HN.out]; omega
           free := HX.out.2.2
           low := HH.out.2.2.1
           es := (by omega : m.es.length ≤ 1048576)
           ts := (by omega : m.ts.length ≤ 1048576)
           ps := (by omega : m.ps.length ≤ 1048576)
           al := (by omega : (armL m).length ≤ 1048576)
           cl_ := (by omega : (callL m).length ≤ 1048576) } (by omega) (by omega) HKX.out HK5.out HCC.out)
         rw [HN.out] at HTK
         have HTO := Lib.hid htoZ
         clear hbZ kZ hpZ htZ htoZ
         refine HTK.out.mono ?_
         clear HTK
         intro e w' hr
         rcases hr with ⟨p, own', m', h1, rfl, h2, h3, h4, h5⟩ | ⟨c, h1, h2, rfl, h3⟩
         ·have HQ := Lib.hid (And.intro h1 (And.intro h2 (And.intro h3 (And.intro h4 h5))))
          clear h1 h2 h3 h4 h5
          go_wp2_with fail
          go_ret
          refine Or.inl ⟨own', m', ?_, rfl, HQ.out.2.1, HTO.out.trans HQ.out.2.2.2.2⟩
          rw [HR5.out, show takeF m.play k x ws = .ok p from HQ.out.1]
          show Except.ok (⟨p, nx⟩ : PS) = .ok ⟨m'.play, m'.st⟩
          rw [HQ.out.2.2.1, HQ.out.2.2.2.1]
         ·have HQ := Lib.hid (And.intro h1 (And.intro h2 h3))
          clear h1 h2 h3
          go_wp2_with fail
          go_ret
          refine Or.inr ⟨c, ?_, HQ.out.2.1, rfl, (HTO.out.keep.trans (HQ.out.2.2.mono fun _ _ h => h))⟩
          rw [HR5.out, show takeF m.play k x ws = .error c from HQ.out.1]
end Sc
end Go.Proofs.YtkkecpamnnojoaaGreatDoor
namespace Go.Proofs.YtkkecpamnnojoaaGreatDoor
open Go.ChangeShapes Go.WideShapes Go.ChangeAt Go.RowKit Go.Shelf
open Bt Dc By
set_option linter.unusedVariables false
attribute [local go_sem] Oper.semAt_some
namespace Sc

theorem parseFrom_app : ∀ (l1 l2 : List Str) (σ : PS) (n : Nat), parseFrom σ n (l1 ++ l2) = match parseFrom σ n l1 with
  | .error e => .error e
  | .ok σ' => parseFrom σ' (n + l1.length) l2
 | [], l2, σ, n => rfl
 | s :: l1, l2, σ, n => by
  rw [List.cons_append, parseFrom, parseFrom]
  cases lineF σ s with
  | error e => rfl
  | ok σ' =>
   simp only []
   rw [parseFrom_app l1 l2 σ' (n + 1), List.length_cons, show n + 1 + l1.length = n + (l1.length + 1) by omega]
theorem lines_mem : ∀ (s : Str) (x : Str), x ∈ linesOf s → x.length ≤ s.length
 | [], x, h => by simp [linesOf] at h
 | c :: s, x, h => by
  rw [lines_cons] at h
  split at h
  ·rcases List.mem_cons.1 h with rfl | h
   ·simp
   ·have := lines_mem s x h; simp; omega
  ·split at h
   ·simp at h; subst h; simp
   ·rename_i l ls hl
    rcases List.mem_cons.1 h with rfl | h
    ·have := lines_mem s l (by rw [hl]; simp); simp; omega
    ·have := lines_mem s x (by rw [hl]; simp [h]); simp; omega
theorem lines_len : ∀ (s : Str), (linesOf s).length ≤ s.length
 | [] => Nat.le_refl _
 | c :: s => by
  have ih := lines_len s
  rw [lines_cons]
  split
  ·simp; omega
  ·split
   ·simp
   ·rename_i l ls hl
    rw [hl] at ih
    simp at ih ⊢
    omega
theorem few_line {σ σ' : PS} {s : Str} (h : Few σ.p) (hs : σ.st ≤ 5) (hl : lineF σ s = .ok σ') : Few σ'.p ∧ σ'.st ≤ 5 := by
 rw [lineF_is] at hl
 by_cases h1 : (ahead 35 s).all okB = false
 ·rw [if_pos h1] at hl; cases hl
 rw [if_neg h1] at hl
 cases hw : wordsOf (ahead 35 s) with
 | nil => rw [hw] at hl; cases hl; exact ⟨h, hs⟩
 | cons x ws =>
  rw [hw] at hl
  simp only [] at hl
  by_cases h2 : kindOf x = 0
  ·rw [if_pos h2] at hl; cases hl
  rw [if_neg h2] at hl
  by_cases h3 : nxt σ.st (kindOf x) = 6 ∨ (kindOf x = 5 ∧ σ.p.tasks = [])
  ·rw [if_pos h3] at hl; cases hl
  rw [if_neg h3] at hl
  by_cases h4 : full σ.p (kindOf x) ws.length = true
  ·rw [if_pos h4] at hl; cases hl
  rw [if_neg h4] at hl
  by_cases h5 : counts (kindOf x) x ws.length = false
  ·rw [if_pos h5] at hl; cases hl
  rw [if_neg h5] at hl
  cases ht : takeF σ.p (kindOf x) x ws with
  | error e => rw [ht] at hl; cases hl
  | ok p =>
   rw [ht] at hl
   cases hl
   have hr := kind_range x
   refine ⟨few_take h (by omega) hr.2 (by simpa using h4) ht, ?_⟩
   have := nxt_le (st := σ.st) (k := kindOf x)
   have h6 : nxt σ.st (kindOf x) ≠ 6 := fun e => h3 (Or.inl e)
   show nxt σ.st (kindOf x) ≤ 5
   omega
structure LAt (w : World) (own : Nat → Option T) (m : M) : Prop where
 low : ∀ g, own g ≠ none → g < w.heap.size
 fs : RowT w own (1, 0, 0) 114 3 m.fv m.fs.length (fsv m.fs)
 ts : RowT w own (2, 0, 0) 56 1 m.tv m.ts.length (m.ts.map (·.v))
 calls : ∀ i t, m.ts[i]? = some t → CallsAt w own i t
 ps : RowT w own (5, 0, 0) 3 1 m.pv m.ps.length (m.ps.map (Value.int .i64))
 es : RowT w own (6, 0, 0) 82 3 m.ev m.es.length (m.es.flatMap ME.cells)
 ends : ∀ i e, m.es[i]? = some e → EndAt w own i e
theorem LAt.keep {w w' : World} {own : Nat → Option T} {m : M} {bs : Nat → Prop} (h : LAt w own m) (k : Keep bs w w') (hn : ∀ g, own g ≠ none → ¬ bs g) : LAt w' own m where
 low := fun g hg => Nat.lt_of_lt_of_le (h.low g hg) k.size
 fs := h.fs.move k (fun g hg => hn g (by rw [hg]; simp)) (fun g hg => hg)
 ts := h.ts.move k (fun g hg => hn g (by rw [hg]; simp)) (fun g hg => hg)
 calls := fun i t ht => (h.calls i t ht).move k (fun g n j _ hg => hn g (by rw [hg]; simp)) (fun g n j _ hg => hg)
 ps := h.ps.move k (fun g hg => hn g (by rw [hg]; simp)) (fun g hg => hg)
 es := h.es.move k (fun g hg => hn g (by rw [hg]; simp)) (fun g hg => hg)
 ends := fun i e he => (h.ends i e he).move k (fun g n j _ hg => hn g (by rw [hg]; simp)) (fun g n j _ hg => hg)
def m0 : M := ⟨0, 0, 0, 0, 0, 0, 0, 0, 0, .slice none 0 0, [], .slice none 0 0, [], .slice none 0 0, [], 0, .slice none 0 0, [], 0⟩
def M.val (m : M) : Array Value :=
 #[.int .i64 m.disk, .int .i64 m.segMax, .int .i64 m.base, .int .i64 m.qcap, .int .i64 m.qbytes, .int .i64 m.pmost, .int .i64 m.pbytes, .float .f64 m.linger, .float .f64 m.alpha,
  m.fv, m.tv, m.pv, .int .i64 m.most, m.ev]
theorem LAt.zero (w : World) : LAt w (fun _ => none) m0 where
 low := fun g h => absurd rfl h
 fs := RowT.nil _ _ _ _ _
 ts := RowT.nil _ _ _ _ _
 calls := fun i t h => by simp [m0] at h
 ps := RowT.nil _ _ _ _ _
 es := RowT.nil _ _ _ _ _
 ends := fun i t h => by simp [m0] at h
theorem results_parse (tmps : Array Value) (w : World) (q : Nat) (cs : Array Value) (n c : Int) (h2 : tmps.getD 2 undef = .pointer (some ⟨q, 0, none⟩)) (h3 : tmps.getD 3 undef = .pointer (some ⟨q + 1, 0, none⟩)) (h4 : tmps.getD 4 undef = .pointer (some ⟨q + 1 + 1, 0, none⟩))
  (b0 : w.heap[q]? = some (.cells cs 40 (0, 0))) (hs : cs.size = 14) (b1 : w.heap[q + 1]? = some (.cells #[.int .i64 n] 3 (0, 0))) (b2 : w.heap[q + 1 + 1]? = some (.cells #[.int .i64 c] 41 (0, 0))) :
  (results Tryz.f8 tmps).run Tryz.prog w = .ok (.tuple #[.agg cs, .int .i64 n, .int .i64 c]) w := by
 have h1 := run_loadVar_row (P := Tryz.prog) w q 40 40 cs (0, 0) _ b0 Tryz.underlying40 rfl (by rw [hs]; kernel_rfl)
 have c1 := blk_cell b1 0
 have c2 := blk_cell b2 0
 simp at c1 c2
 have k1 : (loadVar 3 ⟨q + 1, 0, none⟩).run Tryz.prog w = .ok (.int .i64 n) w := by simp [go_sem, c1]
 have k2 : (loadVar 41 ⟨q + 1 + 1, 0, none⟩).run Tryz.prog w = .ok (.int .i64 c) w := by simp [go_sem, c2]
 have e2 : tmps[2]?.getD undef = .pointer (some ⟨q, 0, none⟩) := by simpa using h2
 have e3 : tmps[3]?.getD undef = .pointer (some ⟨q + 1, 0, none⟩) := by simpa using h3
 have e4 : tmps[4]?.getD undef = .pointer (some ⟨q + 1 + 1, 0, none⟩) := by simpa using h4
 simp [results, Tryz.results8, e2, e3, e4, asAddr, h1, k1, k2]
theorem seven (w : World) (o0 o1 o2 o3 o4 o5 o6 : Obj) : ∃ W, (((((((w.alloc o0).alloc o1).alloc o2).alloc o3).alloc o4).alloc o5).alloc o6) = W ∧ W.heap[w.heap.size]? = some o0 ∧ W.heap[w.heap.size + 1]? = some o1 ∧ W.heap[w.heap.size + 1 + 1]? = some o2 ∧ W.heap[w.heap.size + 1 + 1 + 1]? = some o3
  ∧ W.heap[w.heap.size + 1 + 1 + 1 + 1]? = some o4 ∧ W.heap[w.heap.size + 1 + 1 + 1 + 1 + 1]? = some o5 ∧ W.heap[w.heap.size + 1 + 1 + 1 + 1 + 1 + 1]? = some o6 ∧ W.heap.size = w.heap.size + 1 + 1 + 1 + 1 + 1 + 1 + 1 ∧ Keep (fun _ => False) w W := by
 refine ⟨_, rfl, blk_alloc (blk_alloc (blk_alloc (blk_alloc (blk_alloc (blk_alloc (blk_new w o0) _) _) _) _) _) _, blk_alloc (blk_alloc (blk_alloc (blk_alloc (blk_alloc (blk_new_at _ _ ?_) _) _) _) _) _, blk_alloc (blk_alloc (blk_alloc (blk_alloc (blk_new_at _ _ ?_) _) _) _) _, blk_alloc (blk_alloc (blk_alloc (blk_new_at _ _ ?_) _) _) _, blk_alloc (blk_alloc (blk_new_at _ _ ?_) _) _, blk_alloc (blk_new_at _ _ ?_) _, blk_new_at _ _ ?_, ?_, (((((((Keep.refl _ w).alloc _).alloc _).alloc _).alloc _).alloc _).alloc _).alloc _⟩ <;> simp
structure PI (w0 : World) (q : Nat) (pre : List Str) (W : World) (own : Nat → Option T) (m : M) : Prop where
 read : parseFrom ⟨play0, 0⟩ 0 pre = .ok m.ps_
 pat : PAt W own (q + 1 + 1 + 1) m
 no : ∀ g, g ≤ q + 8 → g ≠ q + 1 + 1 + 1 → own g = none
 few : Few m.play
 st : m.st ≤ 5
 r0 : W.heap[q]? = some (.cells m0.val 40 (0, 0))
 r1 : W.heap[q + 1]? = some (.cells #[.int .i64 0] 3 (0, 0))
 r2 : W.heap[q + 1 + 1]? = some (.cells #[.int .i64 0] 41 (0, 0))
 bx : W.heap[q + 1 + 1 + 1 + 1]? = some (.cells #[.pointer (some ⟨q + 1 + 1 + 1, 0, none⟩)] 57 (0, 0))
 bn : W.heap[q + 1 + 1 + 1 + 1 + 1]? = some (.cells #[.int .i64 (pre.length : Int)] 3 (0, 0))
 k : Keep (fun _ => False) w0 W
theorem PI.keep {w0 : World} {q : Nat} {pre : List Str} {W W' : World} {own : Nat → Option T} {m : M} {bs : Nat → Prop} (h : PI w0 q pre W own m) (hq : w0.heap.size = q) (k : Keep bs W W') (hn : ∀ g, bs g → q + 6 ≤ g ∧ own g = none) : PI w0 q pre W' own m where
 read := h.read
 pat := h.pat.keep k fun g hg hb => hg (hn g hb).2
 no := h.no
 few := h.few
 st := h.st
 r0 := k.same h.r0 fun hb => by have := (hn _ hb).1; omega
 r1 := k.same h.r1 fun hb => by have := (hn _ hb).1; omega
 r2 := k.same h.r2 fun hb => by have := (hn _ hb).1; omega
 bx := k.same h.bx fun hb => by have := (hn _ hb).1; omega
 bn := k.same h.bn fun hb => by have := (hn _ hb).1; omega
 k := h.k.own k fun i hb => Or.inr (by have := (hn _ hb).1; omega)
structure PX (w0 : World) (q : Nat) (pre : List Str) (W : World) (c : Int) : Prop where
 read : parseFrom ⟨play0, 0⟩ 0 pre = .error (pre.length, c)
 r0 : W.heap[q]? = some (.cells m0.val 40 (0, 0))
 r1 : W.heap[q + 1]? = some (.cells #[.int .i64 (pre.length : Int)] 3 (0, 0))
 r2 : W.heap[q + 1 + 1]? = some (.cells #[.int .i64 c] 41 (0, 0))
 k : Keep (fun _ => False) w0 W
theorem PX.keep {w0 : World} {q : Nat} {pre : List Str} {W W' : World} {c : Int} {bs : Nat → Prop} (h : PX w0 q pre W c) (hq : w0.heap.size = q) (k : Keep bs W W') (hn : ∀ g, bs g → q + 6 ≤ g) : PX w0 q pre W' c where
 read := h.read
 r0 := k.same h.r0 fun hb => by have := hn _ hb; omega
 r1 := k.same h.r1 fun hb => by have := hn _ hb; omega
 r2 := k.same h.r2 fun hb => by have := hn _ hb; omega
 k := h.k.own k fun i hb => Or.inr (by have := hn _ hb; omega)
def ParseR (s : Str) (w : World) (e : Ending) (w' : World) : Prop :=
 ∃ (m : M) (own : Nat → Option T) (n c : Int), e = .returned (.tuple #[.agg m.val, .int .i64 n, .int .i64 c]) ∧ ((m.play, n, c) : Play × Int × Int) = ((parseF s).1, ((parseF s).2.1 : Int), (parseF s).2.2) ∧ LAt w' own m ∧ (∀ g, own g ≠ none → w.heap.size ≤ g) ∧ Keep (fun _ => False) w w'
end Sc
end Go.Proofs.YtkkecpamnnojoaaGreatDoor
