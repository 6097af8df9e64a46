/- Contract of strconv's shortFloat[float64]; printed by genFtB.py. By an AI agent. -/
import Derived.Test.YtipkiiblghnoiaaGreatDoorFtA
namespace Go.Proofs.YtipkiiblghnoiaaGreatDoor
open Go.ChangeShapes Go.WideShapes Go.ChangeAt Go.RowKit
open Bt
set_option linter.unusedVariables false

/-- uscale at one scaler. -/
def UsAt (b x : Nat) (u : Nat) (w0 : World) (n : Nat) : Prop := Calls Tryz.prog 118 #[.int .u64 (x : Int), .pointer (some ⟨b, 0, none⟩)] (w0.drewN n) fun e w' => e = .returned (.int .u64 (u : Int)) ∧ ∃ n, w' = w0.drewN n

theorem usAt {b x s hi lo u : Nat} {w0 : World} (h : ScAt w0 b hi lo (s : Int)) (hx : x < 18446744073709551616) (hhi : hi < 18446744073709551616) (hlo : lo < 18446744073709551616) (hs : s < 64) (hu : Us.usc x s hi lo = u) (n : Nat) : UsAt b x u w0 n := by
  subst hu
  exact (uscale_any x s hi lo b (w0.drewN n) h hx hhi hlo hs).mono fun _ _ ⟨he, k, hw⟩ => ⟨he, n + k, by rw [hw, World.drewN_drewN]⟩

/-- What shortFloat is told and finds on the way. -/
structure SfW (m mn mx od u1 u2 u3 : Nat) (e q lp : Int) (s : Nat) : Prop where
  lm : m < 18446744073709551616
  lmn : mn < 18446744073709551616
  lmx : mx < 18446744073709551616
  hi : Us.pmHi (-q) < 18446744073709551616
  lo : Us.pmLo (-q) < 18446744073709551616
  ls : s < 64
  hs : -(e + lp + 3) = (s : Int)
  hu1 : Us.usc mn s (Us.pmHi (-q)) (Us.pmLo (-q)) = u1
  hu2 : Us.usc mx s (Us.pmHi (-q)) (Us.pmLo (-q)) = u2
  hu3 : Us.usc m s (Us.pmHi (-q)) (Us.pmLo (-q)) = u3

theorem ret_pair {k j : IntKind} {a b c d : Int} (h : a = b) (h2 : c = d) : Ending.returned (.tuple #[.int k a, .int j c]) = .returned (.tuple #[.int k b, .int j d]) := by rw [h, h2]
theorem below_drewN {b : Nat} {a w : World} (h : Below b a w) (n : Nat) : Below b a (w.drewN n) := ⟨h.os, h.tape, h.output, h.size, h.block⟩

def sfRes (d1 d2 u3 : Nat) (q : Int) : Nat × Int := if d1 ≤ d2 / 10 * 10 then (d2 / 10, q + 1) else if d1 < d2 then (Us.rnd u3, q) else (d1, q)

set_option maxRecDepth 100000 in
set_option maxHeartbeats 4000000 in
theorem short_two (m mn mx od u1 u2 u3 : Nat) (e q lp : Int) (s : Nat) (w : World) (hT : Pows w) (hg : 10 < w.heap.size) (S : SfW m mn mx od u1 u2 u3 e q lp s)
    (he0 : -1200 ≤ e) (he1 : e ≤ 1000) (hq0 : -340 ≤ q) (hq1 : q ≤ 340) (hlp : -2000 ≤ lp ∧ lp ≤ 2000) (hod : od ≤ 1) (h1 : 1 ≤ u1) (h1' : u1 < 9223372036854775800) (h2 : 1 ≤ u2) (h2' : u2 < 9223372036854775800) (h3 : u3 < 9223372036854775800)
    (hLp : ∀ w, Calls Tryz.prog 117 #[.int .i64 (-q)] w fun e w' => e = .returned (.int .i64 lp) ∧ w' = w)
    (hm : ((m : Int) == 9223372036854775808) = false) (he : decide (-1085 ≤ e) = true) (hmn : IntKind.u64.wrap ((m : Int) - 1024) = (mn : Int)) (hmx : IntKind.u64.wrap ((m : Int) + 1024) = (mx : Int)) (ho : bits BinOp.and IntKind.i64 (wrap64 ((m : Int) / 2048)) 1 = (od : Int))
    (hC : ∀ w, Calls Tryz.prog 92 #[.int .i64 (e + 11)] w fun e w' => e = .returned (.int .i64 q) ∧ w' = w) :
    Calls Tryz.prog 97 #[.int .u64 (m : Int), .int .i64 e] w fun en w' => en = .returned (.tuple #[.int .u64 ((sfRes ((u1 + od + 3) / 4) ((u2 - od) / 4) u3 q).1 : Nat), .int .i64 (sfRes ((u1 + od + 3) / 4) ((u2 - od) / 4) u3 q).2]) ∧ Below w.heap.size w w' := by
  have HFX := Lib.hid (And.intro hm (And.intro he (And.intro hmn (And.intro hmx ho))))
  clear hm he hmn hmx ho
  have hC3 := fun w => ceil_any ((u1 : Int) + (od : Int)) w (by omega) (by omega)
  have hC4 := fun w => floor_any ((u2 : Int) + -(od : Int)) w (by omega) (by omega)
  have E1 : ((u1 : Int) + od + 3) / 4 = (((u1 + od + 3) / 4 : Nat) : Int) := by omega
  have E2 : ((u2 : Int) + -(od : Int)) / 4 = (((u2 - od) / 4 : Nat) : Int) := by omega
  simp only [E1] at hC3
  simp only [E2] at hC4
  have HN1 := Lib.hid (fun w => nudge_any (u1 : Int) (od : Int) w (by omega) (by omega) (by omega) (by omega) (by omega))
  have HN2 := Lib.hid (fun w => nudge_any (u2 : Int) (-(od : Int)) w (by omega) (by omega) (by omega) (by omega) (by omega))
  have HN3 := Lib.hid hC3
  have HN4 := Lib.hid hC4
  have HN5 := Lib.hid (fun w => round_any u3 w (by omega))
  obtain ⟨d1, hd1⟩ : ∃ x, x = (u1 + od + 3) / 4 := ⟨_, rfl⟩
  obtain ⟨d2, hd2⟩ : ∃ x, x = (u2 - od) / 4 := ⟨_, rfl⟩
  have hl1 : d1 < 4611686018427387904 := by omega
  have hl2 : d2 < 4611686018427387904 := by omega
  rw [← hd1] at HN3 ⊢
  rw [← hd2] at HN4 ⊢
  clear E1 E2 hC3 hC4 hd1 hd2 h1 h1' h2 h2' h3
  have HLp := Lib.hid hLp
  have HC := Lib.hid hC
  clear hC
  have HS := Lib.hid (And.intro S (And.intro hT (And.intro hg hlp)))
  clear hLp S hT hg hlp
  have hnew : ScAt (w.alloc (.cells (scA 0 0 0) 154)) w.heap.size 0 0 0 := blk_new _ _
  have hPo : Pows (w.alloc (.cells (scA 0 0 0) 154)) := fun i hi => ⟨by rw [World.cell?_alloc_past _ _ _ HS.out.2.2.1]; exact (HS.out.2.1 i hi).1, by rw [World.cell?_alloc_past _ _ _ HS.out.2.2.1]; exact (HS.out.2.1 i hi).2⟩
  have hpr := prescale_any w.heap.size 0 0 0 e (-q) lp _ hnew (by have := HS.out.2.2.1; omega) hPo (by omega) (by omega) (by omega) (by have := HS.out.2.2.2; omega)
  have HPr := Lib.hid hpr
  clear hnew hPo hpr
  obtain ⟨hm, he, hmn, hmx, ho⟩ := HFX.out
  clear HFX
  go_enter Tryz.func97, Tryz.ntmps97
  go_wp2_with fail
  refine (HC.out _).mono ?_
  rintro en w' ⟨rfl, hw⟩
  obtain rfl := hw.symm
  go_wp2_with fail
  clear hm he hmn hmx ho
  refine (HLp.out _).mono ?_
  rintro en w' ⟨rfl, hw⟩
  obtain rfl := hw.symm
  go_wp2_with fail
  refine (HPr.out).mono ?_
  rintro en w1 ⟨rfl, hsc, hk⟩
  have hb1 : Below w.heap.size w w1 := ((Keep.alloc (Keep.refl (fun _ => False) w) _).own hk (fun i hi => Or.inr (by subst hi; exact Nat.le_refl _))).none
  rw [HS.out.1.hs] at hsc
  have H1 := Lib.hid (And.intro hsc hb1)
  clear hsc hk hb1 HPr
  have HU1 := Lib.hid (fun n => usAt H1.out.1 HS.out.1.lmn HS.out.1.hi HS.out.1.lo HS.out.1.ls HS.out.1.hu1 n)
  have HU2 := Lib.hid (fun n => usAt H1.out.1 HS.out.1.lmx HS.out.1.hi HS.out.1.lo HS.out.1.ls HS.out.1.hu2 n)
  have HU3 := Lib.hid (fun n => usAt H1.out.1 HS.out.1.lm HS.out.1.hi HS.out.1.lo HS.out.1.ls HS.out.1.hu3 n)
  have HB := Lib.hid H1.out.2
  clear H1
  go_wp2_with fail
  refine (HU1.out 0).mono ?_
  rintro en w2 ⟨rfl, n2, hw⟩
  subst hw
  go_wp2_with fail
  refine (HN1.out _).mono ?_
  rintro en w' ⟨rfl, hw⟩
  obtain rfl := hw.symm
  go_wp2_with fail
  refine (HN3.out _).mono ?_
  rintro en w' ⟨rfl, hw⟩
  obtain rfl := hw.symm
  go_wp2_with fail
  refine (HU2.out n2).mono ?_
  rintro en w2 ⟨rfl, n3, hw⟩
  subst hw
  go_wp2_with fail
  refine (HN2.out _).mono ?_
  rintro en w' ⟨rfl, hw⟩
  obtain rfl := hw.symm
  go_wp2_with fail
  refine (HN4.out _).mono ?_
  rintro en w' ⟨rfl, hw⟩
  obtain rfl := hw.symm
  by_cases c1 : d1 ≤ d2 / 10 * 10
  · have c1' : decide ((d1 : Int) ≤ (d2 : Int) / 10 * 10) = true := by rw [decide_eq_true_eq]; clear hl1 hl2; omega
    go_wp2_with fail
    go_ret2
    refine ⟨?_, below_drewN HB.out _⟩
    unfold sfRes
    rw [if_pos c1]
    exact ret_pair (by push_cast; rfl) (by show -(-q - 1) = q + 1; omega)
  · have c1' : decide ((d1 : Int) ≤ (d2 : Int) / 10 * 10) = false := by rw [decide_eq_false_iff_not]; clear hl1 hl2; omega
    by_cases c2 : d1 < d2
    · go_wp2_with fail
      refine (HU3.out n3).mono ?_
      rintro en w2 ⟨rfl, n4, hw⟩
      subst hw
      go_wp2_with fail
      refine (HN5.out _).mono ?_
      rintro en w' ⟨rfl, hw⟩
      obtain rfl := hw.symm
      go_wp2_with fail
      go_ret2
      refine ⟨?_, below_drewN HB.out _⟩
      unfold sfRes
      rw [if_neg c1, if_pos c2]
      exact ret_pair (by unfold Us.rnd; push_cast; rfl) (by show q = q; rfl)
    · go_wp2_with fail
      go_ret2
      refine ⟨?_, below_drewN HB.out _⟩
      unfold sfRes
      rw [if_neg c1, if_neg c2]
      exact ret_pair rfl rfl

set_option maxRecDepth 100000 in
set_option maxHeartbeats 4000000 in
theorem short_one (m mn mx od u1 u2 u3 : Nat) (e q lp : Int) (s : Nat) (w : World) (hT : Pows w) (hg : 10 < w.heap.size) (S : SfW m mn mx od u1 u2 u3 e q lp s)
    (he0 : -1200 ≤ e) (he1 : e ≤ 1000) (hq0 : -340 ≤ q) (hq1 : q ≤ 340) (hlp : -2000 ≤ lp ∧ lp ≤ 2000) (hod : od ≤ 1) (h1 : 1 ≤ u1) (h1' : u1 < 9223372036854775800) (h2 : 1 ≤ u2) (h2' : u2 < 9223372036854775800) (h3 : u3 < 9223372036854775800)
    (hLp : ∀ w, Calls Tryz.prog 117 #[.int .i64 (-q)] w fun e w' => e = .returned (.int .i64 lp) ∧ w' = w)
    (hm : ((m : Int) == 9223372036854775808) = true) (hg1 : decide (-1085 < e) = true) (hmn : IntKind.u64.wrap ((m : Int) - 512) = (mn : Int)) (hmx : IntKind.u64.wrap ((m : Int) + 1024) = (mx : Int)) (ho : bits BinOp.and IntKind.i64 (wrap64 ((m : Int) / 2048)) 1 = (od : Int))
    (hC : ∀ w, Calls Tryz.prog 115 #[.int .i64 (e + 11)] w fun e w' => e = .returned (.int .i64 q) ∧ w' = w) :
    Calls Tryz.prog 97 #[.int .u64 (m : Int), .int .i64 e] w fun en w' => en = .returned (.tuple #[.int .u64 ((sfRes ((u1 + od + 3) / 4) ((u2 - od) / 4) u3 q).1 : Nat), .int .i64 (sfRes ((u1 + od + 3) / 4) ((u2 - od) / 4) u3 q).2]) ∧ Below w.heap.size w w' := by
  have HFX := Lib.hid (And.intro hm (And.intro hg1 (And.intro hmn (And.intro hmx ho))))
  clear hm hg1 hmn hmx ho
  have hC3 := fun w => ceil_any ((u1 : Int) + (od : Int)) w (by omega) (by omega)
  have hC4 := fun w => floor_any ((u2 : Int) + -(od : Int)) w (by omega) (by omega)
  have E1 : ((u1 : Int) + od + 3) / 4 = (((u1 + od + 3) / 4 : Nat) : Int) := by omega
  have E2 : ((u2 : Int) + -(od : Int)) / 4 = (((u2 - od) / 4 : Nat) : Int) := by omega
  simp only [E1] at hC3
  simp only [E2] at hC4
  have HN1 := Lib.hid (fun w => nudge_any (u1 : Int) (od : Int) w (by omega) (by omega) (by omega) (by omega) (by omega))
  have HN2 := Lib.hid (fun w => nudge_any (u2 : Int) (-(od : Int)) w (by omega) (by omega) (by omega) (by omega) (by omega))
  have HN3 := Lib.hid hC3
  have HN4 := Lib.hid hC4
  have HN5 := Lib.hid (fun w => round_any u3 w (by omega))
  obtain ⟨d1, hd1⟩ : ∃ x, x = (u1 + od + 3) / 4 := ⟨_, rfl⟩
  obtain ⟨d2, hd2⟩ : ∃ x, x = (u2 - od) / 4 := ⟨_, rfl⟩
  have hl1 : d1 < 4611686018427387904 := by omega
  have hl2 : d2 < 4611686018427387904 := by omega
  rw [← hd1] at HN3 ⊢
  rw [← hd2] at HN4 ⊢
  clear E1 E2 hC3 hC4 hd1 hd2 h1 h1' h2 h2' h3
  have HLp := Lib.hid hLp
  have HC := Lib.hid hC
  clear hC
  have HS := Lib.hid (And.intro S (And.intro hT (And.intro hg hlp)))
  clear hLp S hT hg hlp
  have hnew : ScAt (w.alloc (.cells (scA 0 0 0) 154)) w.heap.size 0 0 0 := blk_new _ _
  have hPo : Pows (w.alloc (.cells (scA 0 0 0) 154)) := fun i hi => ⟨by rw [World.cell?_alloc_past _ _ _ HS.out.2.2.1]; exact (HS.out.2.1 i hi).1, by rw [World.cell?_alloc_past _ _ _ HS.out.2.2.1]; exact (HS.out.2.1 i hi).2⟩
  have hpr := prescale_any w.heap.size 0 0 0 e (-q) lp _ hnew (by have := HS.out.2.2.1; omega) hPo (by omega) (by omega) (by omega) (by have := HS.out.2.2.2; omega)
  have HPr := Lib.hid hpr
  clear hnew hPo hpr
  obtain ⟨hm, hg1, hmn, hmx, ho⟩ := HFX.out
  clear HFX
  go_enter Tryz.func97, Tryz.ntmps97
  go_wp2_with fail
  refine (HC.out _).mono ?_
  rintro en w' ⟨rfl, hw⟩
  obtain rfl := hw.symm
  go_wp2_with fail
  clear hm hg1 hmn hmx ho
  refine (HLp.out _).mono ?_
  rintro en w' ⟨rfl, hw⟩
  obtain rfl := hw.symm
  go_wp2_with fail
  refine (HPr.out).mono ?_
  rintro en w1 ⟨rfl, hsc, hk⟩
  have hb1 : Below w.heap.size w w1 := ((Keep.alloc (Keep.refl (fun _ => False) w) _).own hk (fun i hi => Or.inr (by subst hi; exact Nat.le_refl _))).none
  rw [HS.out.1.hs] at hsc
  have H1 := Lib.hid (And.intro hsc hb1)
  clear hsc hk hb1 HPr
  have HU1 := Lib.hid (fun n => usAt H1.out.1 HS.out.1.lmn HS.out.1.hi HS.out.1.lo HS.out.1.ls HS.out.1.hu1 n)
  have HU2 := Lib.hid (fun n => usAt H1.out.1 HS.out.1.lmx HS.out.1.hi HS.out.1.lo HS.out.1.ls HS.out.1.hu2 n)
  have HU3 := Lib.hid (fun n => usAt H1.out.1 HS.out.1.lm HS.out.1.hi HS.out.1.lo HS.out.1.ls HS.out.1.hu3 n)
  have HB := Lib.hid H1.out.2
  clear H1
  go_wp2_with fail
  refine (HU1.out 0).mono ?_
  rintro en w2 ⟨rfl, n2, hw⟩
  subst hw
  go_wp2_with fail
  refine (HN1.out _).mono ?_
  rintro en w' ⟨rfl, hw⟩
  obtain rfl := hw.symm
  go_wp2_with fail
  refine (HN3.out _).mono ?_
  rintro en w' ⟨rfl, hw⟩
  obtain rfl := hw.symm
  go_wp2_with fail
  refine (HU2.out n2).mono ?_
  rintro en w2 ⟨rfl, n3, hw⟩
  subst hw
  go_wp2_with fail
  refine (HN2.out _).mono ?_
  rintro en w' ⟨rfl, hw⟩
  obtain rfl := hw.symm
  go_wp2_with fail
  refine (HN4.out _).mono ?_
  rintro en w' ⟨rfl, hw⟩
  obtain rfl := hw.symm
  by_cases c1 : d1 ≤ d2 / 10 * 10
  · have c1' : decide ((d1 : Int) ≤ (d2 : Int) / 10 * 10) = true := by rw [decide_eq_true_eq]; clear hl1 hl2; omega
    go_wp2_with fail
    go_ret2
    refine ⟨?_, below_drewN HB.out _⟩
    unfold sfRes
    rw [if_pos c1]
    exact ret_pair (by push_cast; rfl) (by show -(-q - 1) = q + 1; omega)
  · have c1' : decide ((d1 : Int) ≤ (d2 : Int) / 10 * 10) = false := by rw [decide_eq_false_iff_not]; clear hl1 hl2; omega
    by_cases c2 : d1 < d2
    · go_wp2_with fail
      refine (HU3.out n3).mono ?_
      rintro en w2 ⟨rfl, n4, hw⟩
      subst hw
      go_wp2_with fail
      refine (HN5.out _).mono ?_
      rintro en w' ⟨rfl, hw⟩
      obtain rfl := hw.symm
      go_wp2_with fail
      go_ret2
      refine ⟨?_, below_drewN HB.out _⟩
      unfold sfRes
      rw [if_neg c1, if_pos c2]
      exact ret_pair (by unfold Us.rnd; push_cast; rfl) (by show q = q; rfl)
    · go_wp2_with fail
      go_ret2
      refine ⟨?_, below_drewN HB.out _⟩
      unfold sfRes
      rw [if_neg c1, if_neg c2]
      exact ret_pair rfl rfl

set_option maxRecDepth 100000 in
set_option maxHeartbeats 4000000 in
theorem short_three (m mn mx od u1 u2 u3 : Nat) (e q lp : Int) (s : Nat) (w : World) (hT : Pows w) (hg : 10 < w.heap.size) (S : SfW m mn mx od u1 u2 u3 e q lp s)
    (he0 : -1200 ≤ e) (he1 : e ≤ 1000) (hq0 : -340 ≤ q) (hq1 : q ≤ 340) (hlp : -2000 ≤ lp ∧ lp ≤ 2000) (hod : od ≤ 1) (h1 : 1 ≤ u1) (h1' : u1 < 9223372036854775800) (h2 : 1 ≤ u2) (h2' : u2 < 9223372036854775800) (h3 : u3 < 9223372036854775800)
    (hLp : ∀ w, Calls Tryz.prog 117 #[.int .i64 (-q)] w fun e w' => e = .returned (.int .i64 lp) ∧ w' = w)
    (hm : ((m : Int) == 9223372036854775808) = true) (hg1 : decide (-1085 < e) = false) (he : decide (-1085 ≤ e) = true) (hmn : IntKind.u64.wrap ((m : Int) - 1024) = (mn : Int)) (hmx : IntKind.u64.wrap ((m : Int) + 1024) = (mx : Int)) (ho : bits BinOp.and IntKind.i64 (wrap64 ((m : Int) / 2048)) 1 = (od : Int))
    (hC : ∀ w, Calls Tryz.prog 92 #[.int .i64 (e + 11)] w fun e w' => e = .returned (.int .i64 q) ∧ w' = w) :
    Calls Tryz.prog 97 #[.int .u64 (m : Int), .int .i64 e] w fun en w' => en = .returned (.tuple #[.int .u64 ((sfRes ((u1 + od + 3) / 4) ((u2 - od) / 4) u3 q).1 : Nat), .int .i64 (sfRes ((u1 + od + 3) / 4) ((u2 - od) / 4) u3 q).2]) ∧ Below w.heap.size w w' := by
  have HFX := Lib.hid (And.intro hm (And.intro hg1 (And.intro he (And.intro hmn (And.intro hmx ho)))))
  clear hm hg1 he hmn hmx ho
  have hC3 := fun w => ceil_any ((u1 : Int) + (od : Int)) w (by omega) (by omega)
  have hC4 := fun w => floor_any ((u2 : Int) + -(od : Int)) w (by omega) (by omega)
  have E1 : ((u1 : Int) + od + 3) / 4 = (((u1 + od + 3) / 4 : Nat) : Int) := by omega
  have E2 : ((u2 : Int) + -(od : Int)) / 4 = (((u2 - od) / 4 : Nat) : Int) := by omega
  simp only [E1] at hC3
  simp only [E2] at hC4
  have HN1 := Lib.hid (fun w => nudge_any (u1 : Int) (od : Int) w (by omega) (by omega) (by omega) (by omega) (by omega))
  have HN2 := Lib.hid (fun w => nudge_any (u2 : Int) (-(od : Int)) w (by omega) (by omega) (by omega) (by omega) (by omega))
  have HN3 := Lib.hid hC3
  have HN4 := Lib.hid hC4
  have HN5 := Lib.hid (fun w => round_any u3 w (by omega))
  obtain ⟨d1, hd1⟩ : ∃ x, x = (u1 + od + 3) / 4 := ⟨_, rfl⟩
  obtain ⟨d2, hd2⟩ : ∃ x, x = (u2 - od) / 4 := ⟨_, rfl⟩
  have hl1 : d1 < 4611686018427387904 := by omega
  have hl2 : d2 < 4611686018427387904 := by omega
  rw [← hd1] at HN3 ⊢
  rw [← hd2] at HN4 ⊢
  clear E1 E2 hC3 hC4 hd1 hd2 h1 h1' h2 h2' h3
  have HLp := Lib.hid hLp
  have HC := Lib.hid hC
  clear hC
  have HS := Lib.hid (And.intro S (And.intro hT (And.intro hg hlp)))
  clear hLp S hT hg hlp
  have hnew : ScAt (w.alloc (.cells (scA 0 0 0) 154)) w.heap.size 0 0 0 := blk_new _ _
  have hPo : Pows (w.alloc (.cells (scA 0 0 0) 154)) := fun i hi => ⟨by rw [World.cell?_alloc_past _ _ _ HS.out.2.2.1]; exact (HS.out.2.1 i hi).1, by rw [World.cell?_alloc_past _ _ _ HS.out.2.2.1]; exact (HS.out.2.1 i hi).2⟩
  have hpr := prescale_any w.heap.size 0 0 0 e (-q) lp _ hnew (by have := HS.out.2.2.1; omega) hPo (by omega) (by omega) (by omega) (by have := HS.out.2.2.2; omega)
  have HPr := Lib.hid hpr
  clear hnew hPo hpr
  obtain ⟨hm, hg1, he, hmn, hmx, ho⟩ := HFX.out
  clear HFX
  go_enter Tryz.func97, Tryz.ntmps97
  go_wp2_with fail
  refine (HC.out _).mono ?_
  rintro en w' ⟨rfl, hw⟩
  obtain rfl := hw.symm
  go_wp2_with fail
  clear hm hg1 he hmn hmx ho
  refine (HLp.out _).mono ?_
  rintro en w' ⟨rfl, hw⟩
  obtain rfl := hw.symm
  go_wp2_with fail
  refine (HPr.out).mono ?_
  rintro en w1 ⟨rfl, hsc, hk⟩
  have hb1 : Below w.heap.size w w1 := ((Keep.alloc (Keep.refl (fun _ => False) w) _).own hk (fun i hi => Or.inr (by subst hi; exact Nat.le_refl _))).none
  rw [HS.out.1.hs] at hsc
  have H1 := Lib.hid (And.intro hsc hb1)
  clear hsc hk hb1 HPr
  have HU1 := Lib.hid (fun n => usAt H1.out.1 HS.out.1.lmn HS.out.1.hi HS.out.1.lo HS.out.1.ls HS.out.1.hu1 n)
  have HU2 := Lib.hid (fun n => usAt H1.out.1 HS.out.1.lmx HS.out.1.hi HS.out.1.lo HS.out.1.ls HS.out.1.hu2 n)
  have HU3 := Lib.hid (fun n => usAt H1.out.1 HS.out.1.lm HS.out.1.hi HS.out.1.lo HS.out.1.ls HS.out.1.hu3 n)
  have HB := Lib.hid H1.out.2
  clear H1
  go_wp2_with fail
  refine (HU1.out 0).mono ?_
  rintro en w2 ⟨rfl, n2, hw⟩
  subst hw
  go_wp2_with fail
  refine (HN1.out _).mono ?_
  rintro en w' ⟨rfl, hw⟩
  obtain rfl := hw.symm
  go_wp2_with fail
  refine (HN3.out _).mono ?_
  rintro en w' ⟨rfl, hw⟩
  obtain rfl := hw.symm
  go_wp2_with fail
  refine (HU2.out n2).mono ?_
  rintro en w2 ⟨rfl, n3, hw⟩
  subst hw
  go_wp2_with fail
  refine (HN2.out _).mono ?_
  rintro en w' ⟨rfl, hw⟩
  obtain rfl := hw.symm
  go_wp2_with fail
  refine (HN4.out _).mono ?_
  rintro en w' ⟨rfl, hw⟩
  obtain rfl := hw.symm
  by_cases c1 : d1 ≤ d2 / 10 * 10
  · have c1' : decide ((d1 : Int) ≤ (d2 : Int) / 10 * 10) = true := by rw [decide_eq_true_eq]; clear hl1 hl2; omega
    go_wp2_with fail
    go_ret2
    refine ⟨?_, below_drewN HB.out _⟩
    unfold sfRes
    rw [if_pos c1]
    exact ret_pair (by push_cast; rfl) (by show -(-q - 1) = q + 1; omega)
  · have c1' : decide ((d1 : Int) ≤ (d2 : Int) / 10 * 10) = false := by rw [decide_eq_false_iff_not]; clear hl1 hl2; omega
    by_cases c2 : d1 < d2
    · go_wp2_with fail
      refine (HU3.out n3).mono ?_
      rintro en w2 ⟨rfl, n4, hw⟩
      subst hw
      go_wp2_with fail
      refine (HN5.out _).mono ?_
      rintro en w' ⟨rfl, hw⟩
      obtain rfl := hw.symm
      go_wp2_with fail
      go_ret2
      refine ⟨?_, below_drewN HB.out _⟩
      unfold sfRes
      rw [if_neg c1, if_pos c2]
      exact ret_pair (by unfold Us.rnd; push_cast; rfl) (by show q = q; rfl)
    · go_wp2_with fail
      go_ret2
      refine ⟨?_, below_drewN HB.out _⟩
      unfold sfRes
      rw [if_neg c1, if_neg c2]
      exact ret_pair rfl rfl

set_option maxRecDepth 100000 in
set_option maxHeartbeats 4000000 in
theorem short_four (m mn mx od u1 u2 u3 : Nat) (e q lp : Int) (s : Nat) (w : World) (hT : Pows w) (hg : 10 < w.heap.size) (S : SfW m mn mx od u1 u2 u3 e q lp s)
    (he0 : -1200 ≤ e) (he1 : e ≤ 1000) (hq0 : -340 ≤ q) (hq1 : q ≤ 340) (hlp : -2000 ≤ lp ∧ lp ≤ 2000) (hod : od ≤ 1) (h1 : 1 ≤ u1) (h1' : u1 < 9223372036854775800) (h2 : 1 ≤ u2) (h2' : u2 < 9223372036854775800) (h3 : u3 < 9223372036854775800)
    (hLp : ∀ w, Calls Tryz.prog 117 #[.int .i64 (-q)] w fun e w' => e = .returned (.int .i64 lp) ∧ w' = w)
    (hm : ((m : Int) == 9223372036854775808) = false) (he : decide (-1085 ≤ e) = false) (z : Nat) (hz : 11 + (-1085 - e) = (z : Int)) (hz1 : 12 ≤ z) (hz2 : z ≤ 63) (B : Nat) (hB : IntKind.u64.wrap (2 ^ (z - 1)) = (B : Int)) (hmn : IntKind.u64.wrap ((m : Int) - B) = (mn : Int)) (hmx : IntKind.u64.wrap ((m : Int) + B) = (mx : Int)) (ho : bits BinOp.and IntKind.i64 (wrap64 ((m : Int) / 2 ^ z)) 1 = (od : Int))
    (hC : ∀ w, Calls Tryz.prog 92 #[.int .i64 (e + z)] w fun e w' => e = .returned (.int .i64 q) ∧ w' = w) :
    Calls Tryz.prog 97 #[.int .u64 (m : Int), .int .i64 e] w fun en w' => en = .returned (.tuple #[.int .u64 ((sfRes ((u1 + od + 3) / 4) ((u2 - od) / 4) u3 q).1 : Nat), .int .i64 (sfRes ((u1 + od + 3) / 4) ((u2 - od) / 4) u3 q).2]) ∧ Below w.heap.size w w' := by
  have HFX := Lib.hid (And.intro hm (And.intro he (And.intro hz (And.intro hB (And.intro hmn (And.intro hmx ho))))))
  clear hm he hz hB hmn hmx ho
  have hC3 := fun w => ceil_any ((u1 : Int) + (od : Int)) w (by omega) (by omega)
  have hC4 := fun w => floor_any ((u2 : Int) + -(od : Int)) w (by omega) (by omega)
  have E1 : ((u1 : Int) + od + 3) / 4 = (((u1 + od + 3) / 4 : Nat) : Int) := by omega
  have E2 : ((u2 : Int) + -(od : Int)) / 4 = (((u2 - od) / 4 : Nat) : Int) := by omega
  simp only [E1] at hC3
  simp only [E2] at hC4
  have HN1 := Lib.hid (fun w => nudge_any (u1 : Int) (od : Int) w (by omega) (by omega) (by omega) (by omega) (by omega))
  have HN2 := Lib.hid (fun w => nudge_any (u2 : Int) (-(od : Int)) w (by omega) (by omega) (by omega) (by omega) (by omega))
  have HN3 := Lib.hid hC3
  have HN4 := Lib.hid hC4
  have HN5 := Lib.hid (fun w => round_any u3 w (by omega))
  obtain ⟨d1, hd1⟩ : ∃ x, x = (u1 + od + 3) / 4 := ⟨_, rfl⟩
  obtain ⟨d2, hd2⟩ : ∃ x, x = (u2 - od) / 4 := ⟨_, rfl⟩
  have hl1 : d1 < 4611686018427387904 := by omega
  have hl2 : d2 < 4611686018427387904 := by omega
  rw [← hd1] at HN3 ⊢
  rw [← hd2] at HN4 ⊢
  clear E1 E2 hC3 hC4 hd1 hd2 h1 h1' h2 h2' h3
  have HLp := Lib.hid hLp
  have HC := Lib.hid hC
  clear hC
  have HS := Lib.hid (And.intro S (And.intro hT (And.intro hg hlp)))
  clear hLp S hT hg hlp
  have hnew : ScAt (w.alloc (.cells (scA 0 0 0) 154)) w.heap.size 0 0 0 := blk_new _ _
  have hPo : Pows (w.alloc (.cells (scA 0 0 0) 154)) := fun i hi => ⟨by rw [World.cell?_alloc_past _ _ _ HS.out.2.2.1]; exact (HS.out.2.1 i hi).1, by rw [World.cell?_alloc_past _ _ _ HS.out.2.2.1]; exact (HS.out.2.1 i hi).2⟩
  have hpr := prescale_any w.heap.size 0 0 0 e (-q) lp _ hnew (by have := HS.out.2.2.1; omega) hPo (by omega) (by omega) (by omega) (by have := HS.out.2.2.2; omega)
  have HPr := Lib.hid hpr
  clear hnew hPo hpr
  obtain ⟨hm, he, hz, hB, hmn, hmx, ho⟩ := HFX.out
  clear HFX
  go_enter Tryz.func97, Tryz.ntmps97
  go_wp2_with fail
  refine (HC.out _).mono ?_
  rintro en w' ⟨rfl, hw⟩
  obtain rfl := hw.symm
  go_wp2_with fail
  clear hm he hz hB hmn hmx ho
  refine (HLp.out _).mono ?_
  rintro en w' ⟨rfl, hw⟩
  obtain rfl := hw.symm
  go_wp2_with fail
  refine (HPr.out).mono ?_
  rintro en w1 ⟨rfl, hsc, hk⟩
  have hb1 : Below w.heap.size w w1 := ((Keep.alloc (Keep.refl (fun _ => False) w) _).own hk (fun i hi => Or.inr (by subst hi; exact Nat.le_refl _))).none
  rw [HS.out.1.hs] at hsc
  have H1 := Lib.hid (And.intro hsc hb1)
  clear hsc hk hb1 HPr
  have HU1 := Lib.hid (fun n => usAt H1.out.1 HS.out.1.lmn HS.out.1.hi HS.out.1.lo HS.out.1.ls HS.out.1.hu1 n)
  have HU2 := Lib.hid (fun n => usAt H1.out.1 HS.out.1.lmx HS.out.1.hi HS.out.1.lo HS.out.1.ls HS.out.1.hu2 n)
  have HU3 := Lib.hid (fun n => usAt H1.out.1 HS.out.1.lm HS.out.1.hi HS.out.1.lo HS.out.1.ls HS.out.1.hu3 n)
  have HB := Lib.hid H1.out.2
  clear H1
  go_wp2_with fail
  refine (HU1.out 0).mono ?_
  rintro en w2 ⟨rfl, n2, hw⟩
  subst hw
  go_wp2_with fail
  refine (HN1.out _).mono ?_
  rintro en w' ⟨rfl, hw⟩
  obtain rfl := hw.symm
  go_wp2_with fail
  refine (HN3.out _).mono ?_
  rintro en w' ⟨rfl, hw⟩
  obtain rfl := hw.symm
  go_wp2_with fail
  refine (HU2.out n2).mono ?_
  rintro en w2 ⟨rfl, n3, hw⟩
  subst hw
  go_wp2_with fail
  refine (HN2.out _).mono ?_
  rintro en w' ⟨rfl, hw⟩
  obtain rfl := hw.symm
  go_wp2_with fail
  refine (HN4.out _).mono ?_
  rintro en w' ⟨rfl, hw⟩
  obtain rfl := hw.symm
  by_cases c1 : d1 ≤ d2 / 10 * 10
  · have c1' : decide ((d1 : Int) ≤ (d2 : Int) / 10 * 10) = true := by rw [decide_eq_true_eq]; clear hl1 hl2; omega
    go_wp2_with fail
    go_ret2
    refine ⟨?_, below_drewN HB.out _⟩
    unfold sfRes
    rw [if_pos c1]
    exact ret_pair (by push_cast; rfl) (by show -(-q - 1) = q + 1; omega)
  · have c1' : decide ((d1 : Int) ≤ (d2 : Int) / 10 * 10) = false := by rw [decide_eq_false_iff_not]; clear hl1 hl2; omega
    by_cases c2 : d1 < d2
    · go_wp2_with fail
      refine (HU3.out n3).mono ?_
      rintro en w2 ⟨rfl, n4, hw⟩
      subst hw
      go_wp2_with fail
      refine (HN5.out _).mono ?_
      rintro en w' ⟨rfl, hw⟩
      obtain rfl := hw.symm
      go_wp2_with fail
      go_ret2
      refine ⟨?_, below_drewN HB.out _⟩
      unfold sfRes
      rw [if_neg c1, if_pos c2]
      exact ret_pair (by unfold Us.rnd; push_cast; rfl) (by show q = q; rfl)
    · go_wp2_with fail
      go_ret2
      refine ⟨?_, below_drewN HB.out _⟩
      unfold sfRes
      rw [if_neg c1, if_neg c2]
      exact ret_pair rfl rfl

set_option maxRecDepth 100000 in
set_option maxHeartbeats 4000000 in
theorem short_five (m mn mx od u1 u2 u3 : Nat) (e q lp : Int) (s : Nat) (w : World) (hT : Pows w) (hg : 10 < w.heap.size) (S : SfW m mn mx od u1 u2 u3 e q lp s)
    (he0 : -1200 ≤ e) (he1 : e ≤ 1000) (hq0 : -340 ≤ q) (hq1 : q ≤ 340) (hlp : -2000 ≤ lp ∧ lp ≤ 2000) (hod : od ≤ 1) (h1 : 1 ≤ u1) (h1' : u1 < 9223372036854775800) (h2 : 1 ≤ u2) (h2' : u2 < 9223372036854775800) (h3 : u3 < 9223372036854775800)
    (hLp : ∀ w, Calls Tryz.prog 117 #[.int .i64 (-q)] w fun e w' => e = .returned (.int .i64 lp) ∧ w' = w)
    (hm : ((m : Int) == 9223372036854775808) = true) (hg1 : decide (-1085 < e) = false) (he : decide (-1085 ≤ e) = false) (z : Nat) (hz : 11 + (-1085 - e) = (z : Int)) (hz1 : 12 ≤ z) (hz2 : z ≤ 63) (B : Nat) (hB : IntKind.u64.wrap (2 ^ (z - 1)) = (B : Int)) (hmn : IntKind.u64.wrap ((m : Int) - B) = (mn : Int)) (hmx : IntKind.u64.wrap ((m : Int) + B) = (mx : Int)) (ho : bits BinOp.and IntKind.i64 (wrap64 ((m : Int) / 2 ^ z)) 1 = (od : Int))
    (hC : ∀ w, Calls Tryz.prog 92 #[.int .i64 (e + z)] w fun e w' => e = .returned (.int .i64 q) ∧ w' = w) :
    Calls Tryz.prog 97 #[.int .u64 (m : Int), .int .i64 e] w fun en w' => en = .returned (.tuple #[.int .u64 ((sfRes ((u1 + od + 3) / 4) ((u2 - od) / 4) u3 q).1 : Nat), .int .i64 (sfRes ((u1 + od + 3) / 4) ((u2 - od) / 4) u3 q).2]) ∧ Below w.heap.size w w' := by
  have HFX := Lib.hid (And.intro hm (And.intro hg1 (And.intro he (And.intro hz (And.intro hB (And.intro hmn (And.intro hmx ho)))))))
  clear hm hg1 he hz hB hmn hmx ho
  have hC3 := fun w => ceil_any ((u1 : Int) + (od : Int)) w (by omega) (by omega)
  have hC4 := fun w => floor_any ((u2 : Int) + -(od : Int)) w (by omega) (by omega)
  have E1 : ((u1 : Int) + od + 3) / 4 = (((u1 + od + 3) / 4 : Nat) : Int) := by omega
  have E2 : ((u2 : Int) + -(od : Int)) / 4 = (((u2 - od) / 4 : Nat) : Int) := by omega
  simp only [E1] at hC3
  simp only [E2] at hC4
  have HN1 := Lib.hid (fun w => nudge_any (u1 : Int) (od : Int) w (by omega) (by omega) (by omega) (by omega) (by omega))
  have HN2 := Lib.hid (fun w => nudge_any (u2 : Int) (-(od : Int)) w (by omega) (by omega) (by omega) (by omega) (by omega))
  have HN3 := Lib.hid hC3
  have HN4 := Lib.hid hC4
  have HN5 := Lib.hid (fun w => round_any u3 w (by omega))
  obtain ⟨d1, hd1⟩ : ∃ x, x = (u1 + od + 3) / 4 := ⟨_, rfl⟩
  obtain ⟨d2, hd2⟩ : ∃ x, x = (u2 - od) / 4 := ⟨_, rfl⟩
  have hl1 : d1 < 4611686018427387904 := by omega
  have hl2 : d2 < 4611686018427387904 := by omega
  rw [← hd1] at HN3 ⊢
  rw [← hd2] at HN4 ⊢
  clear E1 E2 hC3 hC4 hd1 hd2 h1 h1' h2 h2' h3
  have HLp := Lib.hid hLp
  have HC := Lib.hid hC
  clear hC
  have HS := Lib.hid (And.intro S (And.intro hT (And.intro hg hlp)))
  clear hLp S hT hg hlp
  have hnew : ScAt (w.alloc (.cells (scA 0 0 0) 154)) w.heap.size 0 0 0 := blk_new _ _
  have hPo : Pows (w.alloc (.cells (scA 0 0 0) 154)) := fun i hi => ⟨by rw [World.cell?_alloc_past _ _ _ HS.out.2.2.1]; exact (HS.out.2.1 i hi).1, by rw [World.cell?_alloc_past _ _ _ HS.out.2.2.1]; exact (HS.out.2.1 i hi).2⟩
  have hpr := prescale_any w.heap.size 0 0 0 e (-q) lp _ hnew (by have := HS.out.2.2.1; omega) hPo (by omega) (by omega) (by omega) (by have := HS.out.2.2.2; omega)
  have HPr := Lib.hid hpr
  clear hnew hPo hpr
  obtain ⟨hm, hg1, he, hz, hB, hmn, hmx, ho⟩ := HFX.out
  clear HFX
  go_enter Tryz.func97, Tryz.ntmps97
  go_wp2_with fail
  refine (HC.out _).mono ?_
  rintro en w' ⟨rfl, hw⟩
  obtain rfl := hw.symm
  go_wp2_with fail
  clear hm hg1 he hz hB hmn hmx ho
  refine (HLp.out _).mono ?_
  rintro en w' ⟨rfl, hw⟩
  obtain rfl := hw.symm
  go_wp2_with fail
  refine (HPr.out).mono ?_
  rintro en w1 ⟨rfl, hsc, hk⟩
  have hb1 : Below w.heap.size w w1 := ((Keep.alloc (Keep.refl (fun _ => False) w) _).own hk (fun i hi => Or.inr (by subst hi; exact Nat.le_refl _))).none
  rw [HS.out.1.hs] at hsc
  have H1 := Lib.hid (And.intro hsc hb1)
  clear hsc hk hb1 HPr
  have HU1 := Lib.hid (fun n => usAt H1.out.1 HS.out.1.lmn HS.out.1.hi HS.out.1.lo HS.out.1.ls HS.out.1.hu1 n)
  have HU2 := Lib.hid (fun n => usAt H1.out.1 HS.out.1.lmx HS.out.1.hi HS.out.1.lo HS.out.1.ls HS.out.1.hu2 n)
  have HU3 := Lib.hid (fun n => usAt H1.out.1 HS.out.1.lm HS.out.1.hi HS.out.1.lo HS.out.1.ls HS.out.1.hu3 n)
  have HB := Lib.hid H1.out.2
  clear H1
  go_wp2_with fail
  refine (HU1.out 0).mono ?_
  rintro en w2 ⟨rfl, n2, hw⟩
  subst hw
  go_wp2_with fail
  refine (HN1.out _).mono ?_
  rintro en w' ⟨rfl, hw⟩
  obtain rfl := hw.symm
  go_wp2_with fail
  refine (HN3.out _).mono ?_
  rintro en w' ⟨rfl, hw⟩
  obtain rfl := hw.symm
  go_wp2_with fail
  refine (HU2.out n2).mono ?_
  rintro en w2 ⟨rfl, n3, hw⟩
  subst hw
  go_wp2_with fail
  refine (HN2.out _).mono ?_
  rintro en w' ⟨rfl, hw⟩
  obtain rfl := hw.symm
  go_wp2_with fail
  refine (HN4.out _).mono ?_
  rintro en w' ⟨rfl, hw⟩
  obtain rfl := hw.symm
  by_cases c1 : d1 ≤ d2 / 10 * 10
  · have c1' : decide ((d1 : Int) ≤ (d2 : Int) / 10 * 10) = true := by rw [decide_eq_true_eq]; clear hl1 hl2; omega
    go_wp2_with fail
    go_ret2
    refine ⟨?_, below_drewN HB.out _⟩
    unfold sfRes
    rw [if_pos c1]
    exact ret_pair (by push_cast; rfl) (by show -(-q - 1) = q + 1; omega)
  · have c1' : decide ((d1 : Int) ≤ (d2 : Int) / 10 * 10) = false := by rw [decide_eq_false_iff_not]; clear hl1 hl2; omega
    by_cases c2 : d1 < d2
    · go_wp2_with fail
      refine (HU3.out n3).mono ?_
      rintro en w2 ⟨rfl, n4, hw⟩
      subst hw
      go_wp2_with fail
      refine (HN5.out _).mono ?_
      rintro en w' ⟨rfl, hw⟩
      obtain rfl := hw.symm
      go_wp2_with fail
      go_ret2
      refine ⟨?_, below_drewN HB.out _⟩
      unfold sfRes
      rw [if_neg c1, if_pos c2]
      exact ret_pair (by unfold Us.rnd; push_cast; rfl) (by show q = q; rfl)
    · go_wp2_with fail
      go_ret2
      refine ⟨?_, below_drewN HB.out _⟩
      unfold sfRes
      rw [if_neg c1, if_neg c2]
      exact ret_pair rfl rfl
end Go.Proofs.YtipkiiblghnoiaaGreatDoor
