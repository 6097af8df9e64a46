/- PaceAll: proved: for every input the law returns true. No condition. By an AI agent. -/
import Derived.Test.YtafglefiodanbaaPaceE
import Derived.Test.YtafglefiodanbaaLaw
import Derived.Deep.DeepCutAuto
import Derived.Deep.LoopGhost
import Derived.Deep.Light
import Derived.Deep.RegionHeld3
namespace Go.Proofs.Ytafglefiodanbaa.paceAll
open Go.ChangeShapes Go.WideShapes Go.ChangeAt Go.RowKit
open Flt (U fv ceilW mag rung)
set_option linter.unusedVariables false

theorem plan_eq (w : World) : (binOp .eql 39 (.agg #[.bool true, .float .f64 0]) (.agg #[.bool true, .float .f64 0])).run Try.prog w = .ok (.bool true) w := by kernel_rfl

/-- The ops as they lie: every cell of the slice. -/
def OpsAt (w : World) (B off len : Nat) (sn nn bs ag : Nat → Int) : Prop :=
  ∀ i, i < len → w.cell? ⟨B, off + i * 4, none⟩ = some (.int .i64 (sn i)) ∧ w.cell? ⟨B, off + i * 4 + 1, none⟩ = some (.int .i64 (nn i)) ∧ w.cell? ⟨B, off + i * 4 + 2, none⟩ = some (.int .i64 (bs i)) ∧ w.cell? ⟨B, off + i * 4 + 3, none⟩ = some (.int .u64 (ag i))

theorem walk_bad (most bytes : Int) (linger al : Nat) (ops : Value) (w : World) (h : ¬ OkP most bytes linger al) :
    Calls Try.prog 3 #[.int .i64 most, .int .i64 bytes, .int .u64 linger, .int .u64 al, ops] w fun e w' => e = .returned (.bool true) ∧ Keep (fun _ => False) w w' := by
  have H := Lib.hid h
  clear h
  have pe := plan_eq
  go_enter Try.func3, Try.ntmps3
  go_wp2_with fail
  refine (begun_any _).mono ?_
  rintro e w1 ⟨rfl, hk1⟩
  have HK1 := Lib.hid hk1
  clear hk1
  go_wp2_with fail
  refine of_any.mono ?_
  rintro e w2 ⟨rfl, hk2⟩
  have HK2 := Lib.hid (HK1.out.trans hk2)
  clear hk2 HK1
  go_wp2_with fail
  refine (new_bad H.out _).mono ?_
  rintro e w3 ⟨rfl, hk3⟩
  have hq := keep_keep hk3 (blk_new w2 (.cells #[.int .i64 most, .int .i64 bytes, .float .f64 linger, .float .f64 al] 27))
  have c0 := blk_cell hq 0
  have c1 := blk_cell hq 1
  have c2 := blk_cell hq 2
  have c3 := blk_cell hq 3
  simp at c0 c1 c2 c3
  have HK3 := Lib.hid ((HK2.out.alloc _).trans hk3)
  clear hk3 HK2 hq
  go_wp2_with fail
  refine (new3_bad H.out _).mono ?_
  rintro e w4 ⟨rfl, hk4⟩
  have HK4 := Lib.hid (HK3.out.trans hk4)
  clear hk4 HK3
  go_wp2_with (first | (go_at_call 10; refine seen_nil.mono ?_; rintro e w' ⟨rfl, rfl⟩) | (go_at_call 11; refine want_nil.mono ?_; rintro e w' ⟨rfl, rfl⟩))
  refine plan_nil.mono ?_
  rintro e w5 ⟨rfl, hk5⟩
  have HK5 := Lib.hid (HK4.out.trans hk5)
  clear hk5 HK4
  go_wp2_with fail
  go_ret
  exact ⟨rfl, HK5.out⟩

/-- What the loop keeps. -/
def Inv (most bytes : Int) (linger al : Nat) (b c : Nat) (W : World) (k : Nat) (wr : World) : Prop :=
  ∃ S, Flt.Fin S ∧ mag (rung S) ≤ 2 ^ (8 + 2 * k) * U ∧ wr.heap[b]? = some (.cells (pcells most bytes (rung linger) al S) 53 (0, 0)) ∧
    wr.heap[c]? = some (.cells (rcells most bytes linger al S) 56 (0, 0)) ∧ Keep (fun _ => False) W wr

theorem one_bound : mag (rung 4607182418800017408) ≤ 2 ^ (8 + 2 * 0) * U := by
  have h1 : (fv 4607182418800017408).natAbs = mag (rung 4607182418800017408) := Flt.sv_abs _ _
  rw [Flt.one_fin.2.1, Int.natAbs_natCast] at h1
  rw [← h1]
  exact Nat.le_mul_of_pos_left U (Nat.two_pow_pos _)

set_option maxRecDepth 100000 in
set_option maxHeartbeats 4000000 in
theorem walk_ok (most bytes : Int) (linger al : Nat) (B off len cap : Nat) (sn nn bs ag : Nat → Int) (w : World) (h : OkP most bytes linger al) (h64 : linger < 2 ^ 64) (hlen : len ≤ 9223372036854775807) (hops : OpsAt w B off len sn nn bs ag) :
    Calls Try.prog 3 #[.int .i64 most, .int .i64 bytes, .int .u64 linger, .int .u64 al, .slice (some ⟨B, off, none⟩) len cap] w fun e w' => e = .returned (.bool true) ∧ Keep (fun _ => False) w w' := by
  have H := Lib.hid h
  have HO := Lib.hid hops
  clear h hops
  go_enter Try.func3, Try.ntmps3
  go_wp2_with fail
  refine (begun_any _).mono ?_
  rintro e w1 ⟨rfl, hk1⟩
  have HK1 := Lib.hid hk1
  clear hk1
  go_wp2_with fail
  refine of_any.mono ?_
  rintro e w2 ⟨rfl, hk2⟩
  have HK2 := Lib.hid (HK1.out.trans hk2)
  clear hk2 HK1
  go_wp2_with fail
  refine (new_ok H.out _).mono ?_
  rintro e w3 ⟨b, rfl, hb1, hb2, hk3⟩
  have hq := keep_keep hk3 (blk_new w2 (.cells #[.int .i64 most, .int .i64 bytes, .float .f64 linger, .float .f64 al] 27))
  have c0 := blk_cell hq 0
  have c1 := blk_cell hq 1
  have c2 := blk_cell hq 2
  have c3 := blk_cell hq 3
  simp at c0 c1 c2 c3 hb1
  have hzb : w.heap.size ≤ b := by have := HK2.out.size; omega
  have HK3 := Lib.hid ((HK2.out.alloc _).trans hk3)
  have HB3 := Lib.hid hb2
  clear hk3 HK2 hq hb2 hb1
  go_wp2_with fail
  refine (new3_ok H.out _).mono ?_
  rintro e w4 ⟨c, rfl, hc1, hc2, hk4⟩
  have hzc : w.heap.size ≤ c := by have := HK3.out.size; omega
  have hbc : b < c := by have := lt_of_block HB3.out; omega
  have HI : Inv most bytes linger al b c w 0 w4 := ⟨_, Flt.one_fin.1, one_bound, keep_keep hk4 HB3.out, hc2, HK3.out.trans hk4⟩
  have HI0 := Lib.hid HI
  clear HI hk4 hc2 HB3 HK3 hc1 c0 c1 c2 c3
  go_wp2_with fail
  go_loopg [17] (min len 300) (fun g i wr => ∃ k : Nat, k + g = min len 300 ∧ i = .int .i64 k ∧ Hid (Inv most bytes linger al b c w k wr))
  case atStart => exact ⟨0, by omega, rfl, HI0.out⟩
  case round =>
    obtain ⟨k, hk, rfl, HI⟩ := hrel
    by_cases k1 : k < len
    · by_cases k2 : k < 300
      · obtain ⟨S, s1, s2, s3, s4, s5⟩ := HI.out
        obtain ⟨o1, o2, o3, o4⟩ := HO.out k k1
        have hBw : B < w.heap.size := by
          refine Nat.lt_of_not_le fun hx => ?_
          simp [World.cell?, Array.getElem?_eq_none hx] at o1
        rw [← s5.cell (p := ⟨B, off + k * 4, none⟩) hBw id] at o1
        rw [← s5.cell (p := ⟨B, off + k * 4 + 1, none⟩) hBw id] at o2
        rw [← s5.cell (p := ⟨B, off + k * 4 + 2, none⟩) hBw id] at o3
        rw [← s5.cell (p := ⟨B, off + k * 4 + 3, none⟩) hBw id] at o4
        obtain ⟨S', q1, q2, q3, q4⟩ := seen_both H.out s1 s2 (by omega) (by omega) (sn k)
        have Q1 := Lib.hid q1
        have Q2 := Lib.hid q2
        have Q3 := Lib.hid q3
        have Q4 := Lib.hid q4
        clear q1 q2 q3 q4
        have S1 := Lib.hid s1
        have S2 := Lib.hid s2
        have S3 := Lib.hid s3
        have S4 := Lib.hid s4
        have S5 := Lib.hid s5
        clear s1 s2 s3 s4 s5
        go_wp2_with fail
        have hx := blk_new wr (.cells #[.int .i64 (sn k), .int .i64 (nn k), .int .i64 (bs k), .int .u64 (ag k)] 42)
        refine (Q3.out _ _ b _ (blk_alloc S3.out _)).mono ?_
        rintro e w5 ⟨rfl, hk5, hb5⟩
        have hx5 := hk5.same hx (by have := lt_of_block S3.out; omega)
        have hc5 := hk5.same (blk_alloc S4.out _) (by omega)
        have c0 := blk_cell hx5 0
        simp at c0
        have HK5 := Lib.hid ((S5.out.alloc _).own hk5 (fun i hi => Or.inr (by omega)))
        have HX5 := Lib.hid hx5
        have HB5 := Lib.hid hb5
        have HC5 := Lib.hid hc5
        have hne : wr.heap.size ≠ c := by have := lt_of_block S4.out; omega
        clear hk5 hx5 hb5 hc5 hx S3 S4 S5 o1 o2 o3 o4
        go_wp2_with fail
        refine (Q4.out _ _ c _ HC5.out).mono ?_
        rintro e w6 ⟨rfl, hk6, hc6⟩
        have hx6 := hk6.same HX5.out hne
        have hb6 := hk6.same HB5.out (by omega)
        have c0 := blk_cell hx6 0
        have c1 := blk_cell hx6 1
        have c2 := blk_cell hx6 2
        have c3 := blk_cell hx6 3
        simp at c0 c1 c2 c3
        have HK6 := Lib.hid (HK5.out.own hk6 (fun i hi => Or.inr (by omega)))
        have HX6 := Lib.hid hx6
        have HB6 := Lib.hid hb6
        have HC6 := Lib.hid hc6
        clear hk6 hx6 hb6 hc6 HX5 HB5 HC5 HK5
        have okl := okp_linger H.out
        have rf := rung_fin okl.1 okl.2.1
        have pr := plan_rung okl.1 okl.2.1 h64 most bytes S' (nn k) (bs k) (ag k).toNat
        obtain ⟨G, hG⟩ : ∃ G, G = planG most bytes linger S' (nn k) (bs k) (ag k).toNat := ⟨_, rfl⟩
        obtain ⟨T, hT⟩ : ∃ T, T = planW most bytes linger S' (nn k) (bs k) (ag k).toNat := ⟨_, rfl⟩
        have P1 : Hid (∀ wx : World, wx.heap[b]? = some (.cells (pcells most bytes (rung linger) al S') 53 (0, 0)) → Calls Try.prog 12 #[.pointer (some ⟨b, 0, none⟩), .int .i64 (nn k), .int .i64 (bs k), .float .f64 (ag k).toNat] wx fun e w' => e = .returned (.agg #[.bool G, .float .f64 T]) ∧ Keep (fun _ => False) wx w') := by
          intro wx hb
          have := plan_any (n := nn k) (m := bs k) (a := (ag k).toNat) hb Q1.out rf.1 H.out.m1 H.out.m2
          rw [pr.1, pr.2, ← hG, ← hT] at this
          exact this
        have P2 : Hid (∀ wx : World, wx.heap[c]? = some (.cells (rcells most bytes linger al S') 56 (0, 0)) → Calls Try.prog 15 #[.pointer (some ⟨c, 0, none⟩), .int .i64 (nn k), .int .i64 (bs k), .float .f64 (ag k).toNat] wx fun e w' => e = .returned (.agg #[.bool G, .float .f64 T]) ∧ Keep (fun _ => False) wx w') := by
          intro wx hb
          have := plan3_any (n := nn k) (m := bs k) (a := (ag k).toNat) hb Q1.out okl.1 H.out.m1 H.out.m2
          rw [← hG, ← hT] at this
          exact this
        clear okl rf pr hG hT
        have ef := ext_from
        have hz6 := lt_of_block HX6.out
        go_upto_region 16 with fail
        go_cut [19] (fun s19 wx => ∃ g : Nat, s19 = .pointer (some ⟨g, 0, none⟩) ∧ wx.heap[g]? = some (.cells #[.bool G, .float .f64 T] 39 (0, 0)) ∧ Keep (fun _ => False) w6 wx)
        case first =>
          have n1 := World.new_ne w6 ⟨wr.heap.size, 1, none⟩ c1
          have n2 := World.new_ne w6 ⟨wr.heap.size, 2, none⟩ c2
          have n3 := World.new_ne w6 ⟨wr.heap.size, 3, none⟩ c3
          go_region_held3 (fun w' => w'.cell? ⟨wr.heap.size, 1, none⟩ = some (.int .i64 (nn k)) ∧ w'.cell? ⟨wr.heap.size, 2, none⟩ = some (.int .i64 (bs k)) ∧ w'.cell? ⟨wr.heap.size, 3, none⟩ = some (.int .u64 (ag k))) (go_keep)
            (first
              | (go_at_call 12; refine Calls.mono (P1.out _ ?_) ?_; (focus exact HB6.out); rintro e w7 ⟨rfl, hk7⟩; have k1 := (hk7.cell (p := ⟨wr.heap.size, 1, none⟩) hz6 id).trans c1; have k2 := (hk7.cell (p := ⟨wr.heap.size, 2, none⟩) hz6 id).trans c2; have k3 := (hk7.cell (p := ⟨wr.heap.size, 3, none⟩) hz6 id).trans c3; have hz7 := Nat.lt_of_lt_of_le hz6 hk7.size)
              | (go_at_call 12; refine Calls.mono (P1.out _ ?_) ?_; (focus exact blk_alloc HB6.out _); rintro e w7 ⟨rfl, hk7⟩; have hz6' := Nat.lt_succ_of_lt hz6; have k1 := (hk7.cell (p := ⟨wr.heap.size, 1, none⟩) (by simpa using hz6') id).trans (past hz6 c1 _); have k2 := (hk7.cell (p := ⟨wr.heap.size, 2, none⟩) (by simpa using hz6') id).trans (past hz6 c2 _); have k3 := (hk7.cell (p := ⟨wr.heap.size, 3, none⟩) (by simpa using hz6') id).trans (past hz6 c3 _); have hA := keep_keep hk7 (blk_new w6 _); have a0 := blk_cell hA 0; have a1 := blk_cell hA 1; have f0 := blk_free hA 0; have f1 := blk_free hA 1; simp at a0 a1))
          all_goals (go_wp2_with fail; go_meet)
          all_goals first
            | exact ⟨w7.heap.size, rfl, blk_new w7 _, ((Keep.refl (fun _ => False) w6).drew.trans hk7).alloc _⟩
            | exact ⟨w6.heap.size, rfl, blk_set (blk_set hA 0 _) 1 _, (((((Keep.refl (fun _ => False) w6).alloc _).drew).trans hk7).setCell (p := ⟨w6.heap.size, 0, none⟩) (Or.inr (Nat.le_refl _)) _).setCell (p := ⟨w6.heap.size, 1, none⟩) (Or.inr (Nat.le_refl _)) _⟩
        case rest =>
          obtain ⟨g, rfl, hg1, hkc⟩ := hcut
          have d1 := (hkc.cell (p := ⟨wr.heap.size, 1, none⟩) hz6 id).trans c1
          have d2 := (hkc.cell (p := ⟨wr.heap.size, 2, none⟩) hz6 id).trans c2
          have d3 := (hkc.cell (p := ⟨wr.heap.size, 3, none⟩) hz6 id).trans c3
          have HX7 := Lib.hid (keep_keep hkc HX6.out)
          have HB7 := Lib.hid (keep_keep hkc HB6.out)
          have HC7 := Lib.hid (keep_keep hkc HC6.out)
          have HK7 := Lib.hid (HK6.out.trans hkc)
          have HG7 := Lib.hid hg1
          have hz7 := lt_of_block HX7.out
          clear hg1 hkc HX6 HB6 HC6 HK6 c0 c1 c2 c3 hz6
          obtain ⟨w8, hw8⟩ : ∃ w8 : World, w8 = wc := ⟨_, rfl⟩
          subst hw8
          go_upto_region 17 with fail
          go_cut [20] (fun s20 wx => ∃ g : Nat, s20 = .pointer (some ⟨g, 0, none⟩) ∧ wx.heap[g]? = some (.cells #[.bool G, .float .f64 T] 39 (0, 0)) ∧ Keep (fun _ => False) w8 wx)
          case first =>
            have n1 := World.new_ne w8 ⟨wr.heap.size, 1, none⟩ d1
            have n2 := World.new_ne w8 ⟨wr.heap.size, 2, none⟩ d2
            have n3 := World.new_ne w8 ⟨wr.heap.size, 3, none⟩ d3
            go_region_held3 (fun w' => w'.cell? ⟨wr.heap.size, 1, none⟩ = some (.int .i64 (nn k)) ∧ w'.cell? ⟨wr.heap.size, 2, none⟩ = some (.int .i64 (bs k)) ∧ w'.cell? ⟨wr.heap.size, 3, none⟩ = some (.int .u64 (ag k))) (go_keep)
              (first
                | (go_at_call 15; refine Calls.mono (P2.out _ ?_) ?_; (focus exact HC7.out); rintro e w9 ⟨rfl, hk9⟩; have k1 := (hk9.cell (p := ⟨wr.heap.size, 1, none⟩) hz7 id).trans d1; have k2 := (hk9.cell (p := ⟨wr.heap.size, 2, none⟩) hz7 id).trans d2; have k3 := (hk9.cell (p := ⟨wr.heap.size, 3, none⟩) hz7 id).trans d3; have hz9 := Nat.lt_of_lt_of_le hz7 hk9.size)
                | (go_at_call 15; refine Calls.mono (P2.out _ ?_) ?_; (focus exact blk_alloc HC7.out _); rintro e w9 ⟨rfl, hk9⟩; have hz7' := Nat.lt_succ_of_lt hz7; have k1 := (hk9.cell (p := ⟨wr.heap.size, 1, none⟩) (by simpa using hz7') id).trans (past hz7 d1 _); have k2 := (hk9.cell (p := ⟨wr.heap.size, 2, none⟩) (by simpa using hz7') id).trans (past hz7 d2 _); have k3 := (hk9.cell (p := ⟨wr.heap.size, 3, none⟩) (by simpa using hz7') id).trans (past hz7 d3 _); have hA := keep_keep hk9 (blk_new w8 _); have a0 := blk_cell hA 0; have a1 := blk_cell hA 1; have f0 := blk_free hA 0; have f1 := blk_free hA 1; simp at a0 a1))
            all_goals (go_wp2_with fail; go_meet)
            all_goals first
              | exact ⟨w9.heap.size, rfl, blk_new w9 _, ((Keep.refl (fun _ => False) w8).drew.trans hk9).alloc _⟩
              | exact ⟨w8.heap.size, rfl, blk_set (blk_set hA 0 _) 1 _, (((((Keep.refl (fun _ => False) w8).alloc _).drew).trans hk9).setCell (p := ⟨w8.heap.size, 0, none⟩) (Or.inr (Nat.le_refl _)) _).setCell (p := ⟨w8.heap.size, 1, none⟩) (Or.inr (Nat.le_refl _)) _⟩
          case rest =>
            obtain ⟨g', rfl, hg2, hkd⟩ := hcut
            have HB8 := Lib.hid (keep_keep hkd HB7.out)
            have HC8 := Lib.hid (keep_keep hkd HC7.out)
            have HK8 := Lib.hid (HK7.out.trans hkd)
            have hg1 := keep_keep hkd HG7.out
            have p0 := blk_cell HB8.out 0
            have p1 := blk_cell HB8.out 1
            have p5 := blk_cell HB8.out 5
            have r0 := blk_cell HC8.out 0
            have r4 := blk_cell HC8.out 4
            have x0 := blk_cell hg1 0
            have x1 := blk_cell hg1 1
            have y0 := blk_cell hg2 0
            have y1 := blk_cell hg2 1
            simp at p0 p1 p5 r0 r4 x0 x1 y0 y1
            clear hg1 hg2 hkd HX7 HB7 HC7 HK7 HG7 d1 d2 d3
            go_wp2_with (first
              | (go_at_call 11; refine (want_ok p0 p1 p5 Q1.out H.out.m1 H.out.m2).mono ?_; rintro e w' ⟨rfl, rfl⟩)
              | (go_at_call 16; refine (want3_ok r0 r4 Q1.out H.out.m1 H.out.m2).mono ?_; rintro e w' ⟨rfl, rfl⟩)
              | (go_at_call 17; refine (bits_any _ _ _).mono ?_; rintro e w' ⟨rfl, rfl⟩))
            go_roundg (gk - 1)
            case measure => omega
            case rel => exact ⟨k + 1, by omega, by go_num, S', Q1.out, by have := Q2.out; rwa [show 8 + 2 * k + 2 = 8 + 2 * (k + 1) by omega] at this, HB8.out, HC8.out, HK8.out⟩
      · go_wp2_with fail
        go_ret
        obtain ⟨S, s1, s2, s3, s4, s5⟩ := HI.out
        exact ⟨rfl, s5⟩
    · go_wp2_with fail
      go_ret
      obtain ⟨S, s1, s2, s3, s4, s5⟩ := HI.out
      exact ⟨rfl, s5⟩

set_option maxRecDepth 100000 in
set_option maxHeartbeats 4000000 in
theorem walk_nil (most bytes : Int) (linger al : Nat) (a : Option Addr) (cap : Nat) (w : World) (h : OkP most bytes linger al) :
    Calls Try.prog 3 #[.int .i64 most, .int .i64 bytes, .int .u64 linger, .int .u64 al, .slice a 0 cap] w fun e w' => e = .returned (.bool true) ∧ Keep (fun _ => False) w w' := by
  have H := Lib.hid h
  clear h
  go_enter Try.func3, Try.ntmps3
  go_wp2_with fail
  refine (begun_any _).mono ?_
  rintro e w1 ⟨rfl, hk1⟩
  have HK1 := Lib.hid hk1
  clear hk1
  go_wp2_with fail
  refine of_any.mono ?_
  rintro e w2 ⟨rfl, hk2⟩
  have HK2 := Lib.hid (HK1.out.trans hk2)
  clear hk2 HK1
  go_wp2_with fail
  refine (new_ok H.out _).mono ?_
  rintro e w3 ⟨b, rfl, hb1, hb2, hk3⟩
  have hq := keep_keep hk3 (blk_new w2 (.cells #[.int .i64 most, .int .i64 bytes, .float .f64 linger, .float .f64 al] 27))
  have c0 := blk_cell hq 0
  have c1 := blk_cell hq 1
  have c2 := blk_cell hq 2
  have c3 := blk_cell hq 3
  simp at c0 c1 c2 c3 hb1
  have hzb : w.heap.size ≤ b := by have := HK2.out.size; omega
  have HK3 := Lib.hid ((HK2.out.alloc _).trans hk3)
  have HB3 := Lib.hid hb2
  clear hk3 HK2 hq hb2 hb1
  go_wp2_with fail
  refine (new3_ok H.out _).mono ?_
  rintro e w4 ⟨c, rfl, hc1, hc2, hk4⟩
  have hzc : w.heap.size ≤ c := by have := HK3.out.size; omega
  have hbc : b < c := by have := lt_of_block HB3.out; omega
  have HI : Inv most bytes linger al b c w 0 w4 := ⟨_, Flt.one_fin.1, one_bound, keep_keep hk4 HB3.out, hc2, HK3.out.trans hk4⟩
  have HI0 := Lib.hid HI
  clear HI hk4 hc2 HB3 HK3 hc1 c0 c1 c2 c3
  go_wp2_with fail
  go_rounds 1
  all_goals go_ret
  all_goals
    obtain ⟨S, s1, s2, s3, s4, s5⟩ := HI0.out
    exact ⟨rfl, s5⟩


theorem own : ownKnob Try.prog.godebug = none := by kernel_rfl

section
variable {H : Type} {enc : TypeId × Value → H}
/-- The ops of a slice that came in. -/
theorem open_ops {W : World} {v : Value} {d : DataW H} {p : List MemPlace} {base : Nat} (hv : Value.okWide Try.prog W .any base 23 v) (h : DataW.Trod enc Try.prog W 0 (fun _ => true) true 23 v d p) :
    (∃ a cap, v = .slice a 0 cap) ∨ ∃ B off len cap sn nn bs ag, v = .slice (some ⟨B, off, none⟩) len cap ∧ len ≤ 9223372036854775807 ∧ OpsAt W B off len sn nn bs ag := by
  rcases open_structs Try.underlying23 Try.underlying42 (by kernel_rfl) (by kernel_rfl) (by decide) hv h with h0 | ⟨B, off, len, cap, rfl, h0, h1, h2, hf⟩
  · exact Or.inl h0
  · refine Or.inr ⟨B, off, len, cap, fun i => intOf ((W.cell? ⟨B, off + i * 4, none⟩).getD undef), fun i => intOf ((W.cell? ⟨B, off + i * 4 + 1, none⟩).getD undef), fun i => intOf ((W.cell? ⟨B, off + i * 4 + 2, none⟩).getD undef), fun i => intOf ((W.cell? ⟨B, off + i * 4 + 3, none⟩).getD undef), rfl, by unfold maxLen at h2; omega, fun i hi => ?_⟩
    obtain ⟨x0, y0, n0, c0, t0⟩ := hf i hi 0 _ rfl
    obtain ⟨x1, y1, n1, c1, t1⟩ := hf i hi 1 _ rfl
    obtain ⟨x2, y2, n2, c2, t2⟩ := hf i hi 2 _ rfl
    obtain ⟨x3, y3, n3, c3, t3⟩ := hf i hi 3 _ rfl
    obtain ⟨u0, e0, -, -⟩ := DataW.trod_int Try.underlying3 t0
    obtain ⟨u1, e1, -, -⟩ := DataW.trod_int Try.underlying3 t1
    obtain ⟨u2, e2, -, -⟩ := DataW.trod_int Try.underlying3 t2
    obtain ⟨u3, e3, -, -⟩ := DataW.trod_int Try.underlying22 t3
    simp only [List.cons.injEq, and_true] at e0 e1 e2 e3
    subst e0 e1 e2 e3
    change W.cell? ⟨B, off + i * 4 + 0, none⟩ = _ at c0
    change W.cell? ⟨B, off + i * 4 + 1, none⟩ = _ at c1
    change W.cell? ⟨B, off + i * 4 + 2, none⟩ = _ at c2
    change W.cell? ⟨B, off + i * 4 + 3, none⟩ = _ at c3
    rw [Nat.add_zero] at c0
    refine ⟨?_, ?_, ?_, ?_⟩
    · simp only [c0]; rfl
    · simp only [c1]; rfl
    · simp only [c2]; rfl
    · simp only [c3]; rfl
end

set_option maxRecDepth 100000 in
theorem lifted (os : Os) (started : os.Started) (H : Type) (enc : TypeId × Value → H) :
    ReturnsInHanded {} Try.checked os 3 .any (Rows.paceAllSpec.pre6 enc Try.prog Try.f3 Rows.paceAllRow.domain false) (Rows.paceAllSpec.post enc Try.prog Try.f3 false true false false) := by
  refine returnsInHanded_of_change (C := Try.checked) own started (by kernel_rfl) Try.func3
    (ChangeSpec.witness6 (enc := enc) (C := Try.checked) false ⟨#[], #[.int .i64 0, .int .i64 0, .int .u64 0, .int .u64 0, .slice none 0 0], []⟩ 8 (by kernel_rfl) (by kernel_rfl) (by kernel_rfl) (by kernel_rfl)) ?_
  intro W base args ds gs before hval0 hW hcnd _
  have hval : ∀ (j : Nat) t v, Try.f3.params[j]? = some t → args[j]? = some v → Value.okWide Try.prog W .any base t v := hval0
  have hW' := hW
  obtain ⟨p, q, hA0, hV, rfl, hfz, hnd⟩ := hW
  have hA : DataW.TrodAll enc Try.prog W 0 (fun _ => true) true Try.f3.params.toList args.toList ds p := hA0
  rw [Try.params3] at hA hval
  obtain ⟨v0, vs0, d0, ds0, p0, q0, hargs, rfl, rfl, h0, r0⟩ := trodAll_cons hA
  obtain ⟨v1, vs1, d1, ds1, p1, q1, rfl, rfl, rfl, h1, r1⟩ := trodAll_cons r0
  obtain ⟨v2, vs2, d2, ds2, p2, q2, rfl, rfl, rfl, h2, r2⟩ := trodAll_cons r1
  obtain ⟨v3, vs3, d3, ds3, p3, q3, rfl, rfl, rfl, h3, r3⟩ := trodAll_cons r2
  obtain ⟨v4, vs4, d4, ds4, p4, q4, rfl, rfl, rfl, h4, r4⟩ := trodAll_cons r3
  obtain ⟨rfl, rfl, rfl⟩ := trodAll_nil r4
  obtain rfl : args = #[v0, v1, v2, v3, v4] := by cases args; simp_all
  obtain ⟨a0, rfl, rfl, rfl, w0⟩ := open_int Try.underlying3 (hval 0 3 v0 rfl rfl) h0
  obtain ⟨a1, rfl, rfl, rfl, w1⟩ := open_int Try.underlying3 (hval 1 3 v1 rfl rfl) h1
  obtain ⟨a2, rfl, rfl, rfl, w2⟩ := open_int Try.underlying22 (hval 2 22 v2 rfl rfl) h2
  obtain ⟨a3, rfl, rfl, rfl, w3⟩ := open_int Try.underlying22 (hval 3 22 v3 rfl rfl) h3
  have b2 : 0 ≤ a2 ∧ a2 ≤ 18446744073709551615 := by simpa [Lit.wf, IntKind.min, IntKind.max, IntKind.signed, IntKind.bits] using w2
  have b3 : 0 ≤ a3 ∧ a3 ≤ 18446744073709551615 := by simpa [Lit.wf, IntKind.min, IntKind.max, IntKind.signed, IntKind.bits] using w3
  obtain ⟨L, rfl⟩ := Int.eq_ofNat_of_zero_le b2.1
  obtain ⟨A, rfl⟩ := Int.eq_ofNat_of_zero_le b3.1
  have fin : ∀ v, v = v4 → Calls Try.prog 3 #[.int .i64 a0, .int .i64 a1, .int .u64 L, .int .u64 A, v] W fun e w' => e = .returned (.bool true) ∧ Keep (fun _ => False) W w' := by
    intro v hv
    by_cases hok : OkP a0 a1 L A
    · rcases open_ops (hval 4 23 v4 rfl rfl) h4 with ⟨a, cap, rfl⟩ | ⟨B, off, len, cap, sn, nn, bs, ag, rfl, hl, ho⟩
      · subst hv; exact walk_nil a0 a1 L A a cap W hok
      · subst hv; exact walk_ok a0 a1 L A B off len cap sn nn bs ag W hok (by omega) hl ho
    · exact walk_bad a0 a1 L A v W hok
  refine (fin v4 rfl).mono fun e W' ⟨he, hk⟩ => ?_
  subst he
  exact ⟨_, rfl, law_post (by kernel_rfl) (T := 4) (by rw [Try.params3]; intro t ht; simp at ht; rcases ht with rfl | rfl | rfl <;> exact ⟨by kernel_rfl, by decide +kernel⟩) hW' rfl rfl rfl Try.underlying4 hk.none⟩

theorem over : Rows.paceAllRow.holds Try.pinned (OpenSpec.ofChange Rows.paceAllSpec) :=
  OpenClaim.holds_of_wide 3 Try.f3 rfl rfl rfl rfl rfl rfl rfl ⟨rfl, rfl, rfl, rfl, rfl⟩ rfl rfl rfl rfl rfl (by kernel_rfl) Try.func3 (by kernel_rfl)
    (of_decide_eq_true (by kernel_rfl)) (by unfold Func.isWrapper; first | (rw [if_pos (by decide +kernel)]; kernel_rfl) | (rw [if_neg (by decide +kernel)]; exact ⟨rfl, rfl⟩))
    (fun os started H enc _ => lifted os started H enc)

theorem proved : Rows.PaceAllSaid :=
  over
end Go.Proofs.Ytafglefiodanbaa.paceAll
