/- A part of the proof of ScriptBlanks: nothing is assumed. By an AI agent. -/
import Derived.Test.YtkkecpamnnojoaaGreatDoorBq21
import Derived.Test.YtkkecpamnnojoaaGreatDoorBq20
import Derived.StillTailTactics
import Derived.Test.YtkkecpamnnojoaaGreatDoorBq19
namespace Go.Proofs.YtkkecpamnnojoaaGreatDoor
open Go.ChangeShapes Go.WideShapes Go.ChangeAt Go.RowKit Go.Shelf
open Bt Dc By
set_option linter.unusedVariables false
namespace Sc

structure Tw (a b : M) : Prop where
 disk : b.disk = a.disk
 segMax : b.segMax = a.segMax
 base : b.base = a.base
 qcap : b.qcap = a.qcap
 qbytes : b.qbytes = a.qbytes
 pmost : b.pmost = a.pmost
 pbytes : b.pbytes = a.pbytes
 linger : canW b.linger = canW a.linger
 alpha : canW b.alpha = canW a.alpha
 fs : b.fs = a.fs
 ts : b.ts.map (fun t => t.l.map (·.c)) = a.ts.map (fun t => t.l.map (·.c))
 ps : b.ps = a.ps
 most : b.most = a.most
 es : b.es.map ME.reopen = a.es.map ME.reopen
theorem Tw.of {a b : M} (h : canP a.play = canP b.play) : Tw a b := by
 unfold canP M.play at h
 simp only [Play.mk.injEq] at h
 obtain ⟨h1, h2, h3, h4, h5, h6, h7, h8, h9, h10, h11, h12, h13, h14⟩ := h
 exact ⟨h1.symm, h2.symm, h3.symm, h4.symm, h5.symm, h6.symm, h7.symm, h8.symm, h9.symm, h10.symm, h11.symm, h12.symm, h13.symm, h14.symm⟩
theorem Tw.tlen {a b : M} (h : Tw a b) : b.ts.length = a.ts.length := by have := congrArg List.length h.ts; simpa using this
theorem Tw.elen {a b : M} (h : Tw a b) : b.es.length = a.es.length := by have := congrArg List.length h.es; simpa using this
theorem Tw.task {a b : M} (h : Tw a b) {i : Nat} (hi : i < a.ts.length) (hi' : i < b.ts.length) : (b.ts[i]).l.map (·.c) = (a.ts[i]).l.map (·.c) := by
 have := congrArg (fun l => l[i]?) h.ts
 simpa [hi, hi'] using this
theorem Tw.end_ {a b : M} (h : Tw a b) {i : Nat} (hi : i < a.es.length) (hi' : i < b.es.length) : (b.es[i]).reopen = (a.es[i]).reopen := by
 have := congrArg (fun l => l[i]?) h.es
 simpa [hi, hi'] using this
theorem eng_neq (x1 x2 x3 x4 x5 x6 : Int) (w : World) : (binOp BinOp.neq 34 (.agg #[.int .i64 x1, .int .i64 x2, .int .i64 x3, .int .i64 x4, .int .i64 x5, .int .i64 x6, .float .f64 0, .float .f64 0]) (.agg #[.int .i64 x1, .int .i64 x2, .int .i64 x3, .int .i64 x4, .int .i64 x5, .int .i64 x6, .float .f64 0, .float .f64 0])).run Tryz.prog w = .ok (.bool false) w := by
 have hf : ∀ w : World, (Op.equalIn 9998 30 (.float .f64 0) (.float .f64 0)).run Tryz.prog w = .ok true w := fun w => by kernel_rfl
 simp [go_sem, hf]
theorem pair_new (W : World) (o1 o2 : Obj) (q : Nat) (hs : W.heap.size = q) : ((W.alloc o1).alloc o2).drew.heap[q]? = some o1 ∧ ((W.alloc o1).alloc o2).drew.heap[q + 1]? = some o2 ∧ Keep (fun _ => False) W ((W.alloc o1).alloc o2).drew := by
 subst hs
 exact ⟨blk_alloc (blk_new W o1) _, blk_new_at _ _ (by simp), (((Keep.refl _ W).alloc _).alloc _).drew⟩
set_option maxRecDepth 100000 in
set_option maxHeartbeats 32000000 in
theorem eq_any (a b : M) (w : World) (hA : Seen w a) (hB : Seen w b) (h : canP a.play = canP b.play) (hl : a.fs.length ≤ 1099511627776 ∧ a.ts.length ≤ 1099511627776 ∧ a.ps.length ≤ 1099511627776 ∧ a.es.length ≤ 1099511627776)
  (hl2 : (∀ t ∈ a.ts, t.l.length ≤ 1099511627776 ∧ ∀ c ∈ t.l, c.c.data.length ≤ 1099511627776) ∧ ∀ e ∈ a.es, e.ks.length ≤ 1099511627776 ∧ e.fs.length ≤ 1099511627776 ∧ ∀ k ∈ e.ks, k.k.junk.length ≤ 1099511627776) :
  Calls Tryz.prog 10 #[.agg a.val, .agg b.val] w fun e w' => e = .returned (.bool true) ∧ Keep (fun _ => False) w w' := by
 have hT := Tw.of h
 obtain ⟨o1, c1, hv1⟩ := hA.fs.val
 obtain ⟨o2, c2, hv2⟩ := hA.ts.val
 obtain ⟨o3, c3, hv3⟩ := hA.ps.val
 obtain ⟨o4, c4, hv4⟩ := hA.es.val
 obtain ⟨p1, d1, hu1⟩ := hB.fs.val
 obtain ⟨p2, d2, hu2⟩ := hB.ts.val
 obtain ⟨p3, d3, hu3⟩ := hB.ps.val
 obtain ⟨p4, d4, hu4⟩ := hB.es.val
 rw [hT.fs] at hu1
 rw [hT.tlen] at hu2
 rw [hT.ps] at hu3
 rw [hT.elen] at hu4
 obtain ⟨n1, hn1⟩ : ∃ n, a.fs.length = n := ⟨_, rfl⟩
 obtain ⟨n2, hn2⟩ : ∃ n, a.ts.length = n := ⟨_, rfl⟩
 obtain ⟨n3, hn3⟩ : ∃ n, a.ps.length = n := ⟨_, rfl⟩
 obtain ⟨n4, hn4⟩ : ∃ n, a.es.length = n := ⟨_, rfl⟩
 rw [hn1] at hv1 hu1
 rw [hn2] at hv2 hu2
 rw [hn3] at hv3 hu3
 rw [hn4] at hv4 hu4
 rw [hn1, hn2, hn3, hn4] at hl
 obtain ⟨hl01, hl02, hl03, hl04⟩ := hl
 unfold M.val
 rw [hv1, hv2, hv3, hv4, hu1, hu2, hu3, hu4, hT.disk, hT.segMax, hT.base, hT.qcap, hT.qbytes, hT.pmost, hT.pbytes, hT.most]
 have HCan := Lib.hid (fun (u z : Nat) (h : canW u = z) (W : World) => (show Calls Tryz.prog 23 #[.float .f64 u] W fun e w' => e = .returned (.float .f64 z) ∧ W = w' from by rw [← h]; exact canon3_any u W))
 have HBits := Lib.hid (fun (z : Nat) (W : World) => (show Calls Tryz.prog 22 #[.float .f64 z, .float .f64 z] W fun e w' => e = .returned (.bool true) ∧ W = w' from by have h := fbits_any z z W; rw [decide_eq_true rfl] at h; exact h))
 have hx7 : canW a.linger = canW a.linger := rfl
 have hx8 : canW a.alpha = canW a.alpha := rfl
 have hy7 : canW b.linger = canW a.linger := hT.linger
 have hy8 : canW b.alpha = canW a.alpha := hT.alpha
 have HH := Lib.hid (And.intro hA (And.intro hB (And.intro hT hl2)))
 have HN := Lib.hid (And.intro hn1 (And.intro hn2 (And.intro hn3 hn4)))
 have HV := Lib.hid (And.intro hv1 (And.intro hv2 (And.intro hv3 hv4)))
 have HU := Lib.hid (And.intro hu1 (And.intro hu2 (And.intro hu3 hu4)))
 obtain ⟨F, hF⟩ : ∃ F, canW = F := ⟨_, rfl⟩
 rw [hF] at HCan hx7 hx8 hy7 hy8
 clear hF
 obtain ⟨z7, hz7⟩ : ∃ z, F a.linger = z := ⟨_, rfl⟩
 obtain ⟨z8, hz8⟩ : ∃ z, F a.alpha = z := ⟨_, rfl⟩
 rw [hz7] at hx7 hy7
 rw [hz8] at hx8 hy8
 replace hx7 := hz7
 replace hx8 := hz8
 clear hz7 hz8
 have HX := Lib.hid (And.intro hx7 (And.intro hy7 (And.intro hx8 hy8)))
 clear hx7 hy7 hx8 hy8
 generalize a.linger = x7 at *
 generalize a.alpha = x8 at *
 generalize b.linger = y7 at *
 generalize b.alpha = y8 at *
 generalize a.disk = x0 at *
 generalize a.segMax = x1 at *
 generalize a.base = x2 at *
 generalize a.qcap = x3 at *
 generalize a.qbytes = x4 at *
 generalize a.pmost = x5 at *
 generalize a.pbytes = x6 at *
 generalize a.most = x9 at *
 obtain ⟨q, hq⟩ : ∃ q, w.heap.size = q := ⟨_, rfl⟩
 obtain ⟨W0, hW0⟩ : ∃ W0, w.alloc (.cells #[.int .i64 x0, .int .i64 x1, .int .i64 x2, .int .i64 x3, .int .i64 x4, .int .i64 x5, .int .i64 x6, .float .f64 x7, .float .f64 x8, .slice o1 n1 c1, .slice o2 n2 c2, .slice o3 n3 c3, .int .i64 x9, .slice o4 n4 c4] 40) = W0 := ⟨_, rfl⟩
 obtain ⟨W1, hW1⟩ : ∃ W1, W0.alloc (.cells #[.int .i64 x0, .int .i64 x1, .int .i64 x2, .int .i64 x3, .int .i64 x4, .int .i64 x5, .int .i64 x6, .float .f64 y7, .float .f64 y8, .slice p1 n1 d1, .slice p2 n2 d2, .slice p3 n3 d3, .int .i64 x9, .slice p4 n4 d4] 40) = W1 := ⟨_, rfl⟩
 have hs0 : W0.heap.size = q + 1 := by rw [← hW0, ← hq]; simp
 have hs1 : W1.heap.size = q + 1 + 1 := by rw [← hW1, ← hs0]; simp
 have b0 : W0.heap[q]? = some (.cells #[.int .i64 x0, .int .i64 x1, .int .i64 x2, .int .i64 x3, .int .i64 x4, .int .i64 x5, .int .i64 x6, .float .f64 x7, .float .f64 x8, .slice o1 n1 c1, .slice o2 n2 c2, .slice o3 n3 c3, .int .i64 x9, .slice o4 n4 c4] 40 (0, 0)) := by rw [← hW0, ← hq]; exact blk_new _ _
 have b1 : W1.heap[q + 1]? = some (.cells #[.int .i64 x0, .int .i64 x1, .int .i64 x2, .int .i64 x3, .int .i64 x4, .int .i64 x5, .int .i64 x6, .float .f64 y7, .float .f64 y8, .slice p1 n1 d1, .slice p2 n2 d2, .slice p3 n3 d3, .int .i64 x9, .slice p4 n4 d4] 40 (0, 0)) := by rw [← hW1, ← hs0]; exact blk_new _ _
 have k0 : Keep (fun _ => False) w W0 := by rw [← hW0]; exact (Keep.refl _ w).alloc _
 have k1 : Keep (fun _ => False) W0 W1 := by rw [← hW1]; exact (Keep.refl _ W0).alloc _
 have b01 := k1.same b0 id
 have HK := Lib.hid (And.intro (k0.trans k1) (And.intro b01 b1))
 have f1 : W1.cell? ⟨q, 1, none⟩ = some (.int .i64 x1) := blk_cell b01 1
 have f2 : W1.cell? ⟨q, 2, none⟩ = some (.int .i64 x2) := blk_cell b01 2
 have f3 : W1.cell? ⟨q, 3, none⟩ = some (.int .i64 x3) := blk_cell b01 3
 have f4 : W1.cell? ⟨q, 4, none⟩ = some (.int .i64 x4) := blk_cell b01 4
 have f5 : W1.cell? ⟨q, 5, none⟩ = some (.int .i64 x5) := blk_cell b01 5
 have f6 : W1.cell? ⟨q, 6, none⟩ = some (.int .i64 x6) := blk_cell b01 6
 have f7 : W1.cell? ⟨q, 7, none⟩ = some (.float .f64 x7) := blk_cell b01 7
 have f8 : W1.cell? ⟨q, 8, none⟩ = some (.float .f64 x8) := blk_cell b01 8
 have g1 : W1.cell? ⟨q + 1, 1, none⟩ = some (.int .i64 x1) := blk_cell b1 1
 have g2 : W1.cell? ⟨q + 1, 2, none⟩ = some (.int .i64 x2) := blk_cell b1 2
 have g3 : W1.cell? ⟨q + 1, 3, none⟩ = some (.int .i64 x3) := blk_cell b1 3
 have g4 : W1.cell? ⟨q + 1, 4, none⟩ = some (.int .i64 x4) := blk_cell b1 4
 have g5 : W1.cell? ⟨q + 1, 5, none⟩ = some (.int .i64 x5) := blk_cell b1 5
 have g6 : W1.cell? ⟨q + 1, 6, none⟩ = some (.int .i64 x6) := blk_cell b1 6
 have g7 : W1.cell? ⟨q + 1, 7, none⟩ = some (.float .f64 y7) := blk_cell b1 7
 have g8 : W1.cell? ⟨q + 1, 8, none⟩ = some (.float .f64 y8) := blk_cell b1 8
 clear hA hB h hT hv1 hv2 hv3 hv4 hu1 hu2 hu3 hu4 hn1 hn2 hn3 hn4 hl2 b0 b01 b1 k0 k1
 go_enter Tryz.func10, Tryz.ntmps10
 go_upto_region 1 with fail
 clear hW0 hW1
 go_cut [5, 6] from 16 to 19 (fun s5 s6 wx => ∃ bx by_ : Nat, s5 = .pointer (some ⟨bx, 0, none⟩) ∧ s6 = .pointer (some ⟨by_, 0, none⟩) ∧ Hid (wx.heap[bx]? = some (.cells #[.int .i64 x1, .int .i64 x2, .int .i64 x3, .int .i64 x4, .int .i64 x5, .int .i64 x6, .float .f64 x7, .float .f64 x8] 34 (0, 0)) ∧ wx.heap[by_]? = some (.cells #[.int .i64 x1, .int .i64 x2, .int .i64 x3, .int .i64 x4, .int .i64 x5, .int .i64 x6, .float .f64 y7, .float .f64 y8] 34 (0, 0)) ∧ bx ≠ by_ ∧ q + 1 < bx ∧ q + 1 < by_ ∧ Keep (fun _ => False) W1 wx))
 case first =>
  go_region
  all_goals (go_wp2_with fail; go_meet)
  all_goals
   first
   | exact ⟨_, _, rfl, rfl, (pair_new W1 _ _ _ hs1).1, (pair_new W1 _ _ _ hs1).2.1, by omega, by omega, by omega, (pair_new W1 _ _ _ hs1).2.2⟩
   | exact ⟨_, _, rfl, rfl, (pair_new W1 _ _ _ hs1).2.1, (pair_new W1 _ _ _ hs1).1, by omega, by omega, by omega, (pair_new W1 _ _ _ hs1).2.2⟩
 case rest =>
  obtain ⟨bx, by_, rfl, rfl, hbx, hby, hne, hqx, hqy, hkc⟩ := hcut
  have HC := Lib.hid (And.intro hbx (And.intro hby (And.intro hne (And.intro hqx (And.intro hqy hkc)))))
  have e6 := blk_cell hbx 6
  have e7 := blk_cell hbx 7
  have i6 := blk_cell hby 6
  have i7 := blk_cell hby 7
  simp at e6 e7 i6 i7
  have fe6 := blk_free hbx 6
  have fe7 := blk_free hbx 7
  have fi6 := blk_free hby 6
  have fi7 := blk_free hby 7
  have hne' : ¬ bx = by_ := hne
  have hne2 : ¬ by_ = bx := fun e => hne e.symm
  clear f1 f2 f3 f4 f5 f6 f7 f8 g1 g2 g3 g4 g5 g6 g7 g8 hbx hby hkc hne hqx hqy
  go_wp2_with fail
  go_quiet (first | (go_at_call 23; exact Calls.quiet_of_same ((HCan.out _ _ (by first | exact HX.out.1 | exact HX.out.2.1 | exact HX.out.2.2.1 | exact HX.out.2.2.2) _).mono fun _ _ h => ⟨h.1, h.2.symm⟩)) | (go_at_call 22; exact Calls.quiet_of_same ((HBits.out _ _).mono fun _ _ h => ⟨h.1, h.2.symm⟩)))
  go_upto_region 4 with fail
  go_cut [] from 42 to 49 (fun wx => Hid (wx.heap[bx]? = some (.cells #[.int .i64 x1, .int .i64 x2, .int .i64 x3, .int .i64 x4, .int .i64 x5, .int .i64 x6, .float .f64 0, .float .f64 0] 34 (0, 0)) ∧ wx.heap[by_]? = some (.cells #[.int .i64 x1, .int .i64 x2, .int .i64 x3, .int .i64 x4, .int .i64 x5, .int .i64 x6, .float .f64 0, .float .f64 0] 34 (0, 0)) ∧ Keep (fun _ => False) W1 wx))
  case first =>
   go_wp2_with fail
   go_meet
   have hx0 : (wc.drewN nq).heap[bx]? = _ := HC.out.1
   have hy0 : (wc.drewN nq).heap[by_]? = _ := HC.out.2.1
   refine ⟨?_, ?_, ?_⟩
   ·exact blk_other (blk_set (blk_other (blk_set hx0 6 (.float .f64 0)) hne' 6 _) 7 (.float .f64 0)) hne' 7 _
   ·exact blk_set (blk_other (blk_set (blk_other hy0 hne2 6 _) 6 (.float .f64 0)) hne2 7 _) 7 (.float .f64 0)
   ·refine HC.out.2.2.2.2.2.own (bs := fun g => g = bx ∨ g = by_) ?_ fun i hi => Or.inr (by have := HC.out.2.2.2.1; have := HC.out.2.2.2.2.1; omega)
    exact (((((Keep.refl _ wc).drewN nq).setCell (p := ⟨bx, 6, none⟩) (Or.inl (Or.inl rfl)) _).setCell (p := ⟨by_, 6, none⟩) (Or.inl (Or.inr rfl)) _).setCell (p := ⟨bx, 7, none⟩) (Or.inl (Or.inl rfl)) _).setCell (p := ⟨by_, 7, none⟩) (Or.inl (Or.inr rfl)) _
  case rest =>
   obtain ⟨hbx, hby, hkc⟩ := hcut
   clear e6 e7 i6 i7 fe6 fe7 fi6 fi7
   have j0 := blk_cell hbx 0
   have j1 := blk_cell hbx 1
   have j2 := blk_cell hbx 2
   have j3 := blk_cell hbx 3
   have j4 := blk_cell hbx 4
   have j5 := blk_cell hbx 5
   have j6 := blk_cell hbx 6
   have j7 := blk_cell hbx 7
   have l0 := blk_cell hby 0
   have l1 := blk_cell hby 1
   have l2 := blk_cell hby 2
   have l3 := blk_cell hby 3
   have l4 := blk_cell hby 4
   have l5 := blk_cell hby 5
   have l6 := blk_cell hby 6
   have l7 := blk_cell hby 7
   simp at j0 j1 j2 j3 j4 j5 j6 j7 l0 l1 l2 l3 l4 l5 l6 l7
   have ba := hkc.same HK.out.2.1 id
   have bb := hkc.same HK.out.2.2 id
   have HBB := Lib.hid (And.intro ba (And.intro bb hkc))
   have f0 := blk_cell ba 0
   have f9 := blk_cell ba 9
   have f10 := blk_cell ba 10
   have f11 := blk_cell ba 11
   have f12 := blk_cell ba 12
   have f13 := blk_cell ba 13
   have g0 := blk_cell bb 0
   have g9 := blk_cell bb 9
   have g10 := blk_cell bb 10
   have g11 := blk_cell bb 11
   have g12 := blk_cell bb 12
   have g13 := blk_cell bb 13
   simp at f0 f9 f10 f11 f12 f13 g0 g9 g10 g11 g12 g13
   have heng := eng_neq x1 x2 x3 x4 x5 x6
   have hsa := HH.out.1.fs
   have hsb := HH.out.2.1.fs
   rw [HV.out.1] at hsa
   rw [HU.out.1, HH.out.2.2.1.fs] at hsb
   have HEF := Lib.hid (fun (W : World) (k : Keep (fun _ => False) w W) => (eqF_any _ _ a.fs W (hsa.kept k) (hsb.kept k) (by rw [HN.out.1]; exact hl01)).mono fun e w' h => (⟨h.1, by rw [h.2]; exact (Keep.refl _ W).drewN _⟩ : e = .returned (.bool true) ∧ Keep (fun _ => False) W w'))
   clear hsa hsb ba bb hbx hby hkc
   go_upto_region 5 with fail
   go_cut [101] from 50 to 100 (fun s101 wx => s101 = .bool false ∧ Hid (Keep (fun _ => False) W1 wx))
   case first =>
    go_wp2_with (go_at_call 24; refine (HEF.out _ (HK.out.1.trans HBB.out.2.2)).mono ?_; rintro e w' ⟨rfl, kx⟩; have f10 := cell_kept kx f10; have f11 := cell_kept kx f11; have f12 := cell_kept kx f12; have f13 := cell_kept kx f13; have g10 := cell_kept kx g10; have g11 := cell_kept kx g11; have g12 := cell_kept kx g12; have g13 := cell_kept kx g13; have HKX := Lib.hid kx; clear kx)
    go_meet
    exact ⟨rfl, HBB.out.2.2.trans HKX.out⟩
   case rest =>
    obtain ⟨rfl, hkc⟩ := hcut
    have HKC := Lib.hid hkc
    clear hkc j0 j1 j2 j3 j4 j5 j6 j7 l0 l1 l2 l3 l4 l5 l6 l7 f0 f9 f10 f11 f12 f13 g0 g9 g10 g11 g12 g13 heng HEF HBB HBits HCan
    have f10 := blk_cell (HKC.out.same HK.out.2.1 id) 10
    have g10 := blk_cell (HKC.out.same HK.out.2.2 id) 10
    simp at f10 g10
    go_wp2_with fail
    clear f10 g10
    go_loopg [7, 8, 9, 10] n2 (fun gq s7 s8 s9 s10 wx => ∃ i : Nat, gq + i = n2 ∧ s7 = .int .i64 (i : Int) ∧ Hid (Keep (fun _ => False) W1 wx))
    case atStart => exact ⟨0, by omega, rfl, HKC.out⟩
    case round =>
     obtain ⟨i, hgi, rfl, hkp⟩ := hrel
     have f10 := blk_cell (hkp.same HK.out.2.1 id) 10
     have g10 := blk_cell (hkp.same HK.out.2.2 id) 10
     simp at f10 g10
     obtain ⟨G, hG⟩ : ∃ G, gk = G := ⟨_, rfl⟩
     rw [hG] at hgi
     have HGG := Lib.hid hG
     clear hG HKC
     by_cases hi : i < n2
     ·have hiI : (i : Int) < (n2 : Int) := by omega
      have hi0 : (0 : Int) ≤ (i : Int) := by omega
      have hia : i < a.ts.length := by rw [HN.out.2.1]; exact hi
      have hib : i < b.ts.length := by rw [HH.out.2.2.1.tlen]; exact hia
      have kw := HK.out.1.trans hkp
      obtain ⟨o', c', e', -, hcs, -⟩ := HH.out.1.ts
      rw [HV.out.2.1, HN.out.2.1] at e'
      cases e'
      obtain ⟨gA, fA, rfl, hcA, hlA⟩ := hcs i (by simpa using hia)
      obtain ⟨o', c', e', -, hcs', -⟩ := HH.out.2.1.ts
      rw [HU.out.2.1, HH.out.2.2.1.tlen, HN.out.2.1] at e'
      cases e'
      obtain ⟨gB, fB, rfl, hcB, hlB⟩ := hcs' i (by simpa using hib)
      have hta := HH.out.1.calls _ (List.getElem_mem hia)
      have htb := HH.out.2.1.calls _ (List.getElem_mem hib)
      have htw := HH.out.2.2.1.task hia hib
      have hbd := HH.out.2.2.2.1 _ (List.getElem_mem hia)
      obtain ⟨tA, htA⟩ : ∃ t, a.ts[i] = t := ⟨_, rfl⟩
      obtain ⟨tB, htB⟩ : ∃ t, b.ts[i] = t := ⟨_, rfl⟩
      have hcA' : wr.cell? ⟨gA, fA + i, none⟩ = some tA.v := by
       rw [(kw.cell (p := ⟨gA, fA + i, none⟩) hlA id).trans hcA, List.getElem?_map, List.getElem?_eq_getElem hia, htA]; rfl
      have hcB' : wr.cell? ⟨gB, fB + i, none⟩ = some tB.v := by
       rw [(kw.cell (p := ⟨gB, fB + i, none⟩) hlB id).trans hcB, List.getElem?_map, List.getElem?_eq_getElem hib, htB]; rfl
      rw [htA] at hta htw hbd
      rw [htB] at htb htw
      have hlen : tB.l.length = tA.l.length := by have := congrArg List.length htw; simpa using this
      obtain ⟨oA, cA, hvA, -, hcsA, -⟩ := hta.row
      obtain ⟨oB, cB, hvB, -, hcsB, -⟩ := htb.row
      rw [hlen] at hvB
      obtain ⟨n5, hn5⟩ : ∃ n, tA.l.length = n := ⟨_, rfl⟩
      rw [hn5] at hvA hvB
      rw [hvA] at hcA'
      rw [hvB] at hcB'
      have hb5 : n5 ≤ 1099511627776 := by rw [← hn5]; exact hbd.1
      have HCA := Lib.hid (fun (W : World) (k : Keep (fun _ => False) w W) => (show W.cell? ⟨gA, fA + i, none⟩ = some (.slice oA n5 cA) from by rw [(k.cell (p := ⟨gA, fA + i, none⟩) hlA id).trans hcA, List.getElem?_map, List.getElem?_eq_getElem hia, htA, ← hvA]; rfl))
      have HCB := Lib.hid (fun (W : World) (k : Keep (fun _ => False) w W) => (show W.cell? ⟨gB, fB + i, none⟩ = some (.slice oB n5 cB) from by rw [(k.cell (p := ⟨gB, fB + i, none⟩) hlB id).trans hcB, List.getElem?_map, List.getElem?_eq_getElem hib, htB, ← hvB]; rfl))
      have HT := Lib.hid (And.intro hcsA (And.intro hcsB (And.intro hta.data (And.intro htb.data (And.intro htw (And.intro hbd.2 (And.intro hn5 (And.intro hlen hkp))))))))
      clear hcs hcs' hcA hcB hlA hlB hta htb htw hbd htA htB hlen hvA hvB hcsA hcsB hn5 kw hia hib hkp
      go_upto_region 10 with fail
      go_quiet (fail)
      go_wp2_with fail
      clear f10 g10 hcA' hcB'
      go_loopg [8, 9, 10] n5 (fun gq s8 s9 s10 wx => ∃ k : Nat, gq + k = n5 ∧ s8 = .int .i64 (k : Int) ∧ Hid (Keep (fun _ => False) W1 wx))
      case atStart => exact ⟨0, by omega, rfl, HT.out.2.2.2.2.2.2.2.2.drewN _⟩
      case round =>
       obtain ⟨k, hgk, rfl, hkj⟩ := hrel
       have f10 := blk_cell (hkj.same HK.out.2.1 id) 10
       simp at f10
       have g10 := blk_cell (hkj.same HK.out.2.2 id) 10
       simp at g10
       have kw := HK.out.1.trans hkj
       have cA1 := HCA.out _ kw
       have cB1 := HCB.out _ kw
       by_cases hk : k < n5
       ·have hkI : (k : Int) < (n5 : Int) := by omega
        have hk0 : (0 : Int) ≤ (k : Int) := by omega
        have hka : k < tA.l.length := by rw [HT.out.2.2.2.2.2.2.1]; exact hk
        have hkb : k < tB.l.length := by rw [HT.out.2.2.2.2.2.2.2.1]; exact hka
        obtain ⟨gA2, fA2, rfl, -⟩ := HT.out.1.some (by rw [flatc_len _ 3 (fun _ => rfl)]; omega)
        obtain ⟨gB2, fB2, rfl, -⟩ := HT.out.2.1.some (by rw [flatc_len _ 3 (fun _ => rfl)]; omega)
        have hA2 := HT.out.1.kept kw
        have hB2 := HT.out.2.1.kept kw
        have d0 := hA2.get 3 (fun _ => rfl) (List.getElem?_eq_getElem hka) 0 (by omega)
        have d1' := hA2.get 3 (fun _ => rfl) (List.getElem?_eq_getElem hka) 1 (by omega)
        have d2' := hA2.get 3 (fun _ => rfl) (List.getElem?_eq_getElem hka) 2 (by omega)
        have e0 := hB2.get 3 (fun _ => rfl) (List.getElem?_eq_getElem hkb) 0 (by omega)
        have e1 := hB2.get 3 (fun _ => rfl) (List.getElem?_eq_getElem hkb) 1 (by omega)
        have e2 := hB2.get 3 (fun _ => rfl) (List.getElem?_eq_getElem hkb) 2 (by omega)
        have hcc : (tB.l[k]).c = (tA.l[k]).c := by
         have := congrArg (fun l => l[k]?) HT.out.2.2.2.2.1
         simpa [hka, hkb] using this
        unfold MC.cells at d0 d1' d2' e0 e1 e2
        simp at d0 d1' d2' e0 e1 e2
        have hdA := HT.out.2.2.1 _ (List.getElem_mem hka)
        have hdB := HT.out.2.2.2.1 _ (List.getElem_mem hkb)
        have hdn := HT.out.2.2.2.2.2.1 _ (List.getElem_mem hka)
        rw [hcc] at e0 e1 hdB
        obtain ⟨dA, hdA'⟩ : ∃ v, (tA.l[k]).d = v := ⟨_, rfl⟩
        obtain ⟨dB, hdB'⟩ : ∃ v, (tB.l[k]).d = v := ⟨_, rfl⟩
        rw [hdA'] at d2' hdA
        rw [hdB'] at e2 hdB
        obtain ⟨cc, hc2⟩ : ∃ c, (tA.l[k]).c = c := ⟨_, rfl⟩
        rw [hc2] at d0 d1' e0 e1 hdA hdB hdn
        obtain ⟨oD, cD, hvD⟩ := hdA.val
        obtain ⟨oE, cE, hvE⟩ := hdB.val
        have HED := Lib.hid (fun (W : World) (k : Keep (fun _ => False) w W) => (eqS_any _ _ cc.data W (hdA.kept k) (hdB.kept k) hdn).mono fun e w' h => (⟨h.1, by rw [h.2]; exact (Keep.refl _ W).drewN _⟩ : e = .returned (.bool true) ∧ Keep (fun _ => False) W w'))
        subst hvD
        subst hvE
        obtain ⟨nD, hnD⟩ : ∃ n, cc.data.length = n := ⟨_, rfl⟩
        rw [hnD] at HED d2' e2
        generalize cc.kind = ck at *
        generalize cc.lsn = cl at *
        have HKJ := Lib.hid hkj
        clear hA2 hB2 hcc hdA hdB hdn hdA' hdB' hc2 hnD hka hkb kw hkj
        go_upto_region 15 with fail
        go_cut [9, 10] from 132 to 147 (fun s9 s10 wx => ∃ b9 b10 : Nat, s9 = .pointer (some ⟨b9, 0, none⟩) ∧ s10 = .pointer (some ⟨b10, 0, none⟩) ∧ Hid (wx.heap[b9]? = some (.cells #[.int .i64 ck, .int .i64 cl, .slice oD nD cD] 76 (0, 0)) ∧ wx.heap[b10]? = some (.cells #[.int .i64 ck, .int .i64 cl, .slice oE nD cE] 76 (0, 0)) ∧ Keep (fun _ => False) W1 wx))
        case first =>
         have z1 := World.block_lt_of_cell? _ _ f10
         have z2 := World.block_lt_of_cell? _ _ g10
         have z3 := World.block_lt_of_cell? _ _ cA1
         have z4 := World.block_lt_of_cell? _ _ cB1
         have z5 := World.block_lt_of_cell? _ _ d0
         have z6 := World.block_lt_of_cell? _ _ e0
         simp at z1 z2 z3 z4 z5 z6
         go_region
         all_goals (go_wp2_with fail; go_meet)
         all_goals
          first
          | exact ⟨_, _, rfl, rfl, (pair_new wr _ _ _ rfl).1, (pair_new wr _ _ _ rfl).2.1, HKJ.out.trans (pair_new wr _ _ _ rfl).2.2⟩
          | exact ⟨_, _, rfl, rfl, (pair_new wr _ _ _ rfl).2.1, (pair_new wr _ _ _ rfl).1, HKJ.out.trans (pair_new wr _ _ _ rfl).2.2⟩
        case rest =>
         obtain ⟨b9, b10, rfl, rfl, h9, h10, hkc⟩ := hcut
         have q0 := blk_cell h9 0
         have q1 := blk_cell h9 1
         have q2 := blk_cell h9 2
         have r0 := blk_cell h10 0
         have r1 := blk_cell h10 1
         have r2 := blk_cell h10 2
         simp at q0 q1 q2 r0 r1 r2
         have HKC := Lib.hid hkc
         clear f10 g10 cA1 cB1 d0 d1' d2' e0 e1 e2 h9 h10 hkc
         go_wp2_with (go_at_call 25; refine (HED.out _ (HK.out.1.trans HKC.out)).mono ?_; rintro e w' ⟨rfl, kx⟩; have HKC := Lib.hid (HKC.out.trans kx); clear kx)
         go_roundg (gk - 1)
         all_goals first | omega | skip
         exact ⟨k + 1, by omega, by simp, HKC.out⟩
       ·obtain rfl : k = n5 := by omega
        have hkI : ¬ (k : Int) < (k : Int) := by omega
        have HKJ := Lib.hid hkj
        clear hkj kw
        go_wp2_with fail
        have hG := HGG.out
        go_roundg (G - 1)
        all_goals first | omega | skip
        exact ⟨i + 1, by omega, by simp, HKJ.out⟩
     ·obtain rfl : i = n2 := by omega
      have hiI : ¬ (i : Int) < (i : Int) := by omega
      have f11 := blk_cell (hkp.same HK.out.2.1 id) 11
      have g11 := blk_cell (hkp.same HK.out.2.2 id) 11
      simp at f11 g11
      have HKP := Lib.hid hkp
      clear hkp
      go_wp2_with fail
      clear f10 g10 f11 g11
      go_loopg [11] n3 (fun gq s11 wx => ∃ j : Nat, gq + j = n3 ∧ s11 = .int .i64 (j : Int) ∧ Hid (Keep (fun _ => False) W1 wx))
      case atStart => exact ⟨0, by omega, rfl, HKP.out⟩
      case round =>
       obtain ⟨j, hgj, rfl, hkj⟩ := hrel
       have f11 := blk_cell (hkj.same HK.out.2.1 id) 11
       simp at f11
       have g11 := blk_cell (hkj.same HK.out.2.2 id) 11
       simp at g11
       by_cases hj : j < n3
       ·have hjI : (j : Int) < (n3 : Int) := by omega
        have hj0 : (0 : Int) ≤ (j : Int) := by omega
        have hja : j < a.ps.length := by rw [HN.out.2.2.1]; exact hj
        have hjb : j < b.ps.length := by rw [HH.out.2.2.1.ps]; exact hja
        have kw := HK.out.1.trans hkj
        obtain ⟨o', c', e', -, hcs, -⟩ := HH.out.1.ps
        rw [HV.out.2.2.1, HN.out.2.2.1] at e'
        cases e'
        obtain ⟨gA, fA, rfl, hcA, hlA⟩ := hcs j (by simpa using hja)
        obtain ⟨o', c', e', -, hcs', -⟩ := HH.out.2.1.ps
        rw [HU.out.2.2.1, HH.out.2.2.1.ps, HN.out.2.2.1] at e'
        cases e'
        obtain ⟨gB, fB, rfl, hcB, hlB⟩ := hcs' j (by simpa using hjb)
        have cA := (kw.cell (p := ⟨gA, fA + j, none⟩) hlA id).trans hcA
        have cB := (kw.cell (p := ⟨gB, fB + j, none⟩) hlB id).trans hcB
        rw [HH.out.2.2.1.ps] at cB
        rw [List.getElem?_map, List.getElem?_eq_getElem hja] at cA cB
        simp only [Option.map_some] at cA cB
        generalize a.ps[j] = z at *
        have HKJ := Lib.hid hkj
        clear hcs hcs' hcA hcB hlA hlB kw hkj hja hjb
        go_wp2_with fail
        go_quiet (fail)
        go_wp2_with fail
        go_roundg (gk - 1)
        all_goals first | omega | skip
        exact ⟨j + 1, by omega, by simp, HKJ.out.drewN _⟩
       ·obtain rfl : j = n3 := by omega
        have hjI : ¬ (j : Int) < (j : Int) := by omega
        have f13 := blk_cell (hkj.same HK.out.2.1 id) 13
        have g13 := blk_cell (hkj.same HK.out.2.2 id) 13
        simp at f13 g13
        have HKJ := Lib.hid hkj
        clear hkj
        go_wp2_with fail
        clear f11 g11 f13 g13
        go_loopg [12, 13, 14, 15] n4 (fun gq s12 s13 s14 s15 wx => ∃ i : Nat, gq + i = n4 ∧ s12 = .int .i64 (i : Int) ∧ Hid (Keep (fun _ => False) W1 wx))
        case atStart => exact ⟨0, by omega, rfl, HKJ.out⟩
        case round =>
         obtain ⟨i2, hgi2, rfl, hkp⟩ := hrel
         have f13 := blk_cell (hkp.same HK.out.2.1 id) 13
         simp at f13
         have g13 := blk_cell (hkp.same HK.out.2.2 id) 13
         simp at g13
         obtain ⟨G2, hG2⟩ : ∃ G, gk = G := ⟨_, rfl⟩
         rw [hG2] at hgi2
         have HGG2 := Lib.hid hG2
         clear hG2
         by_cases hi2 : i2 < n4
         ·have hiI2 : (i2 : Int) < (n4 : Int) := by omega
          have hi02 : (0 : Int) ≤ (i2 : Int) := by omega
          have hia : i2 < a.es.length := by rw [HN.out.2.2.2]; exact hi2
          have hib : i2 < b.es.length := by rw [HH.out.2.2.1.elen]; exact hia
          obtain ⟨o', c', e', -, hcs, -⟩ := HH.out.1.es
          rw [HV.out.2.2.2, HN.out.2.2.2] at e'
          cases e'
          obtain ⟨gA, fA, rfl, -⟩ := hcs.some (by rw [flatc_len _ 3 (fun _ => rfl)]; omega)
          obtain ⟨o', c', e', -, hcs', -⟩ := HH.out.2.1.es
          rw [HU.out.2.2.2, HH.out.2.2.1.elen, HN.out.2.2.2] at e'
          cases e'
          obtain ⟨gB, fB, rfl, -⟩ := hcs'.some (by rw [flatc_len _ 3 (fun _ => rfl)]; omega)
          have kw := HK.out.1.trans hkp
          have hA2 := hcs.kept kw
          have hB2 := hcs'.kept kw
          have d0 := hA2.get 3 (fun _ => rfl) (List.getElem?_eq_getElem hia) 0 (by omega)
          have d1' := hA2.get 3 (fun _ => rfl) (List.getElem?_eq_getElem hia) 1 (by omega)
          have d2' := hA2.get 3 (fun _ => rfl) (List.getElem?_eq_getElem hia) 2 (by omega)
          have e0 := hB2.get 3 (fun _ => rfl) (List.getElem?_eq_getElem hib) 0 (by omega)
          have e1 := hB2.get 3 (fun _ => rfl) (List.getElem?_eq_getElem hib) 1 (by omega)
          have e2 := hB2.get 3 (fun _ => rfl) (List.getElem?_eq_getElem hib) 2 (by omega)
          unfold ME.cells at d0 d1' d2' e0 e1 e2
          simp at d0 d1' d2' e0 e1 e2
          have hea := HH.out.1.ends _ (List.getElem_mem hia)
          have heb := HH.out.2.1.ends _ (List.getElem_mem hib)
          have hre := HH.out.2.2.1.end_ hia hib
          have hbd := HH.out.2.2.2.2 _ (List.getElem_mem hia)
          obtain ⟨EA, hEA⟩ : ∃ t, a.es[i2] = t := ⟨_, rfl⟩
          obtain ⟨EB, hEB⟩ : ∃ t, b.es[i2] = t := ⟨_, rfl⟩
          rw [hEA] at d0 d1' d2' hea hre hbd
          rw [hEB] at e0 e1 e2 heb hre
          unfold ME.reopen at hre
          simp only [Reopen.mk.injEq] at hre
          obtain ⟨r1, r2, r3⟩ := hre
          rw [r1] at e0
          have hlen : EB.ks.length = EA.ks.length := by have := congrArg List.length r2; simpa using this
          have hfa := hea.faults
          have hfb := heb.faults
          rw [r3] at hfb
          obtain ⟨oK, cK, hvA, -, hcsA, -⟩ := hea.keeps
          obtain ⟨oE, cE, hvB, -, hcsB, -⟩ := heb.keeps
          obtain ⟨oF, cF, hwA⟩ := hfa.val
          obtain ⟨oG, cG, hwB⟩ := hfb.val
          rw [hlen] at hvB
          obtain ⟨nK, hnK⟩ : ∃ n, EA.ks.length = n := ⟨_, rfl⟩
          obtain ⟨nF, hnF⟩ : ∃ n, EA.fs.length = n := ⟨_, rfl⟩
          have HEF := Lib.hid (fun (W : World) (k : Keep (fun _ => False) w W) => eqF_any _ _ EA.fs W (hfa.kept k) (hfb.kept k) hbd.2.1)
          rw [hwA, hwB, hnF] at HEF
          rw [hnK] at hvA hvB
          rw [hnF] at hwA hwB
          rw [hvA] at d1'
          rw [hvB] at e1
          rw [hwA] at d2'
          rw [hwB] at e2
          have hb5 : nK ≤ 1099511627776 := by rw [← hnK]; exact hbd.1
          have HT := Lib.hid (And.intro hcsA (And.intro hcsB (And.intro hea.junk (And.intro heb.junk (And.intro r2 (And.intro hbd.2.2 (And.intro hnK hlen)))))))
          generalize EA.dir = dr at *
          have HKP := Lib.hid hkp
          clear hcs hcs' hA2 hB2 hea heb hbd hEA hEB r1 r2 r3 hlen hfa hfb hvA hvB hwA hwB hnK hnF hcsA hcsB kw hkp hia hib
          go_upto_region 26 with fail
          go_cut [13, 14] from 193 to 204 (fun s13 s14 wx => ∃ b13 b14 : Nat, s13 = .pointer (some ⟨b13, 0, none⟩) ∧ s14 = .pointer (some ⟨b14, 0, none⟩) ∧ Hid (wx.heap[b13]? = some (.cells #[.int .i64 dr, .slice oK nK cK] 80 (0, 0)) ∧ wx.heap[b14]? = some (.cells #[.int .i64 dr, .slice oE nK cE] 80 (0, 0)) ∧ Keep (fun _ => False) wr wx))
          case first =>
           have z1 := World.block_lt_of_cell? _ _ f13
           have z2 := World.block_lt_of_cell? _ _ g13
           have z5 := World.block_lt_of_cell? _ _ d0
           have z6 := World.block_lt_of_cell? _ _ e0
           simp at z1 z2 z5 z6
           go_region
           all_goals (go_wp2_with fail; go_meet)
           all_goals
            first
            | exact ⟨_, _, rfl, rfl, (pair_new wr _ _ _ rfl).1, (pair_new wr _ _ _ rfl).2.1, (pair_new wr _ _ _ rfl).2.2⟩
            | exact ⟨_, _, rfl, rfl, (pair_new wr _ _ _ rfl).2.1, (pair_new wr _ _ _ rfl).1, (pair_new wr _ _ _ rfl).2.2⟩
          case rest =>
           obtain ⟨b13, b14, rfl, rfl, h13, h14, hkc⟩ := hcut
           have q0 := blk_cell h13 0
           have q1 := blk_cell h13 1
           have r0 := blk_cell h14 0
           have r1 := blk_cell h14 1
           simp at q0 q1 r0 r1
           have f13 := cell_kept hkc f13
           have g13 := cell_kept hkc g13
           have d2' := cell_kept hkc d2'
           have e2 := cell_kept hkc e2
           have HKC := Lib.hid hkc
           have HQ := Lib.hid (And.intro h13 h14)
           clear d0 d1' e0 e1 h13 h14 hkc
           go_upto_region 27 with fail
           go_quiet ((go_at_call 24; exact Calls.quiet_of ((HEF.out _ (((HK.out.1.trans HKP.out).trans HKC.out).drewN _)).mono fun _ _ h => ⟨h.1, _, h.2⟩)))
           go_wp2_with fail
           clear f13 g13 d2' e2 q0 q1 r0 r1
           go_loopg [15] nK (fun gq s15 wx => ∃ k : Nat, gq + k = nK ∧ s15 = .int .i64 (k : Int) ∧ Hid (Keep (fun _ => False) wc wx))
           case atStart => exact ⟨0, by omega, rfl, (Keep.refl _ _).drewN _⟩
           case round =>
            obtain ⟨k, hgk, rfl, hkj⟩ := hrel
            have q1 := blk_cell (hkj.same HQ.out.1 id) 1
            have r1 := blk_cell (hkj.same HQ.out.2 id) 1
            simp at q1 r1
            by_cases hk : k < nK
            ·have hkI : (k : Int) < (nK : Int) := by omega
             have hk0 : (0 : Int) ≤ (k : Int) := by omega
             have hka : k < EA.ks.length := by rw [HT.out.2.2.2.2.2.2.1]; exact hk
             have hkb : k < EB.ks.length := by rw [HT.out.2.2.2.2.2.2.2]; exact hka
             have kw := ((HK.out.1.trans HKP.out).trans HKC.out).trans hkj
             obtain ⟨gA2, fA2, rfl, -⟩ := HT.out.1.some (by rw [flatc_len _ 2 (fun _ => rfl)]; omega)
             obtain ⟨gB2, fB2, rfl, -⟩ := HT.out.2.1.some (by rw [flatc_len _ 2 (fun _ => rfl)]; omega)
             have hA2 := HT.out.1.kept kw
             have hB2 := HT.out.2.1.kept kw
             have d0 := hA2.get 2 (fun _ => rfl) (List.getElem?_eq_getElem hka) 0 (by omega)
             have d1' := hA2.get 2 (fun _ => rfl) (List.getElem?_eq_getElem hka) 1 (by omega)
             have e0 := hB2.get 2 (fun _ => rfl) (List.getElem?_eq_getElem hkb) 0 (by omega)
             have e1 := hB2.get 2 (fun _ => rfl) (List.getElem?_eq_getElem hkb) 1 (by omega)
             have hcc : (EB.ks[k]).k = (EA.ks[k]).k := by
              have := congrArg (fun l => l[k]?) HT.out.2.2.2.2.1
              simpa [hka, hkb] using this
             unfold MK.cells at d0 d1' e0 e1
             simp at d0 d1' e0 e1
             have hdA := HT.out.2.2.1 _ (List.getElem_mem hka)
             have hdB := HT.out.2.2.2.1 _ (List.getElem_mem hkb)
             have hdn := HT.out.2.2.2.2.2.1 _ (List.getElem_mem hka)
             rw [hcc] at e0 hdB
             obtain ⟨dA, hdA'⟩ : ∃ v, (EA.ks[k]).d = v := ⟨_, rfl⟩
             obtain ⟨dB, hdB'⟩ : ∃ v, (EB.ks[k]).d = v := ⟨_, rfl⟩
             rw [hdA'] at d1' hdA
             rw [hdB'] at e1 hdB
             obtain ⟨cc, hc2⟩ : ∃ c, (EA.ks[k]).k = c := ⟨_, rfl⟩
             rw [hc2] at d0 e0 hdA hdB hdn
             obtain ⟨oD, cD, hvD⟩ := hdA.val
             obtain ⟨oH, cH, hvE⟩ := hdB.val
             have HED := Lib.hid (fun (W : World) (k : Keep (fun _ => False) w W) => eqS_any _ _ cc.junk W (hdA.kept k) (hdB.kept k) hdn)
             subst hvD
             subst hvE
             obtain ⟨nD, hnD⟩ : ∃ n, cc.junk.length = n := ⟨_, rfl⟩
             rw [hnD] at HED d1' e1
             generalize cc.n = cn at *
             have HKJ := Lib.hid hkj
             have HKW := Lib.hid kw
             clear hA2 hB2 hcc hdA hdB hdn hdA' hdB' hc2 hnD hka hkb kw hkj
             go_upto_region 32 with fail
             go_quiet ((go_at_call 25; exact Calls.quiet_of ((HED.out _ (HKW.out.drewN _)).mono fun _ _ h => ⟨h.1, _, h.2⟩)))
             go_wp2_with fail
             go_roundg (gk - 1)
             all_goals first | omega | skip
             exact ⟨k + 1, by omega, by simp, HKJ.out.drewN _⟩
            ·obtain rfl : k = nK := by omega
             have hkI : ¬ (k : Int) < (k : Int) := by omega
             have HKJ := Lib.hid hkj
             clear hkj
             go_wp2_with fail
             have hG := HGG2.out
             go_roundg (G2 - 1)
             all_goals first | omega | skip
             exact ⟨i2 + 1, by omega, by simp, (HKP.out.trans HKC.out).trans HKJ.out⟩
         ·obtain rfl : i2 = n4 := by omega
          have hiI2 : ¬ (i2 : Int) < (i2 : Int) := by omega
          have HKP := Lib.hid hkp
          clear hkp
          go_wp2_with fail
          go_ret
          exact ⟨rfl, HK.out.1.trans HKP.out⟩

end Sc
end Go.Proofs.YtkkecpamnnojoaaGreatDoor
