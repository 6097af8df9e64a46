/- The reference's wide numbers: add, less, sub, bit. By an AI agent. -/
import Derived.Test.YtipkiiblghnoiaaGreatDoorSumC
import Derived.BigQuiet
namespace Go.Proofs.YtipkiiblghnoiaaGreatDoor.Sm
open Go.ChangeShapes Go.WideShapes Go.ChangeAt Go.RowKit
set_option linter.unusedVariables false
set_option linter.unusedSimpArgs false

/-- A wide number in memory; its value. -/
def WdAt (w : World) (b : Nat) (f : Nat → Nat) : Prop := w.heap[b]? = some (.cells (wA 70 f) 66 (0, 0))
def V70 (f : Nat → Nat) : Nat := wv 4294967296 f 70
theorem WdAt.cell {w : World} {b : Nat} {f : Nat → Nat} (h : WdAt w b f) {i : Nat} (hi : i < 70) : w.cell? ⟨b, i, none⟩ = some (.int .u64 ((f i : Nat) : Int)) := (blk_cell h i).trans (wA_get 70 f i hi)
theorem WdAt.free {w : World} {b : Nat} {f : Nat → Nat} (h : WdAt w b f) (i : Nat) : w.frozen? ⟨b, i, none⟩ = false := blk_free h i
theorem WdAt.set {w : World} {b : Nat} {f : Nat → Nat} (h : WdAt w b f) (i v : Nat) : WdAt (w.setCell ⟨b, i, none⟩ (.int .u64 (v : Int))) b (upd f i v) := by
  have := blk_set h i (.int .u64 (v : Int))
  rw [wA_set] at this
  exact this
theorem two32 : (2 : Nat) ^ 32 = 4294967296 := by decide
theorem v70_bit {f : Nat → Nat} (hf : ∀ j, f j < 4294967296) (i : Nat) (hi : i < 2240) : (f (i / 32)).testBit (i % 32) = (V70 f).testBit i := by
  have h := wv_bit (k := 32) (f := f) (n := 70) (by decide) (fun j _ => by rw [two32]; exact hf j) i (by omega)
  rw [two32] at h
  exact h
theorem low32 (x : Nat) (h : x < 18446744073709551616) : bits BinOp.and IntKind.u64 (x : Int) 4294967295 = ((x % 4294967296 : Nat) : Int) := by
  have h1 : (BitVec.ofInt 64 (x : Int)).toNat = x := by rw [BitVec.ofInt_natCast, BitVec.toNat_ofNat]; omega
  have h2 : (BitVec.ofInt 64 4294967295).toNat = 2 ^ 32 - 1 := by decide
  show IntKind.u64.wrap ((BitVec.ofInt 64 (x : Int) &&& BitVec.ofInt 64 4294967295).toNat : Int) = _
  rw [BitVec.toNat_and, h1, h2, Nat.and_two_pow_sub_one_eq_mod, IntKind.wrap_u64]
  omega

set_option maxHeartbeats 2000000 in
theorem bit3_any {w : World} {b : Nat} {f : Nat → Nat} (h : WdAt w b f) (hf : ∀ j, f j < 4294967296) (i : Nat) (hi : i < 2240) :
    Calls Tryz.prog 66 #[.pointer (some ⟨b, 0, none⟩), .int .i64 (i : Int)] w fun e w' => e = .returned (.int .u64 (((V70 f).testBit i).toNat : Int)) ∧ w' = w := by
  have hb := v70_bit hf i hi
  have t1 : ((i : Int)).tdiv 32 = ((i / 32 : Nat) : Int) := by rw [Int.tdiv_eq_ediv_of_nonneg (by omega)]; omega
  have t2 : ((i : Int)).tmod 32 = ((i % 32 : Nat) : Int) := by rw [Int.tmod_eq_emod_of_nonneg (by omega)]; omega
  have hq : i / 32 < 70 := by omega
  have hr : i % 32 < 32 := by omega
  have hx := hf (i / 32)
  have d1 : decide ((i : Int) < 0) = false := by rw [decide_eq_false_iff_not]; omega
  generalize i / 32 = q at *
  generalize i % 32 = r at *
  have c := h.cell hq
  have ha := fand_one (f q) r (Nat.lt_trans hx (by decide))
  rw [hb] at ha
  have HA := Lib.hid ha
  generalize f q = x at *
  generalize (V70 f).testBit i = bb at *
  clear h hf hb ha hx
  go_enter Tryz.func66, Tryz.ntmps66
  go_wp2_with fail
  go_ret
  refine ⟨?_, rfl⟩
  rw [← HA.out]
  rfl
theorem bit3_below {w : World} {b : Nat} : Calls Tryz.prog 66 #[.pointer (some ⟨b, 0, none⟩), .int .i64 (-1)] w fun e w' => e = .returned (.int .u64 0) ∧ w' = w := by
  go_enter Tryz.func66, Tryz.ntmps66
  go_wp2_with fail
  go_ret
  exact ⟨rfl, rfl⟩

/-! ### less -/
theorem less_at {f g : Nat → Nat} {n i : Nat} (hf : ∀ j, f j < 4294967296) (hg : ∀ j, g j < 4294967296) (hi : i < n) (he : ∀ j, i < j → j < n → f j = g j) (hlt : f i < g i) : wv 4294967296 f n < wv 4294967296 g n := by
  induction n with
  | zero => omega
  | succ n ih =>
    show wv 4294967296 f n + f n * 4294967296 ^ n < wv 4294967296 g n + g n * 4294967296 ^ n
    by_cases hin : i = n
    · subst hin
      have h1 := wv_lt (B := 4294967296) (f := f) (by decide) (n := i) (fun j _ => hf j)
      have h2 : (f i + 1) * 4294967296 ^ i ≤ g i * 4294967296 ^ i := Nat.mul_le_mul_right _ hlt
      rw [Nat.add_mul, Nat.one_mul] at h2
      omega
    · have := ih (by omega) (fun j h1 h2 => he j h1 (by omega))
      rw [he n (by omega) (by omega)]
      omega

set_option maxRecDepth 100000 in
set_option maxHeartbeats 4000000 in
theorem less_any {w : World} {b1 b2 : Nat} {f g : Nat → Nat} (h1 : WdAt w b1 f) (h2 : WdAt w b2 g) (hf : ∀ j, f j < 4294967296) (hg : ∀ j, g j < 4294967296) :
    Calls Tryz.prog 53 #[.pointer (some ⟨b1, 0, none⟩), .pointer (some ⟨b2, 0, none⟩)] w fun e w' => e = .returned (.bool (decide (V70 f < V70 g))) ∧ Below w.heap.size w w' := by
  have HF := Lib.hid (And.intro h1 (And.intro h2 (And.intro hf hg)))
  clear h1 h2 hf hg
  generalize hz : decide (V70 f < V70 g) = z
  have HZ := Lib.hid hz
  clear hz
  go_enter Tryz.func53, Tryz.ntmps53
  go_wp2_with fail
  go_loopg [5] 70 (fun gq s5 wx => s5 = .int .i64 ((gq : Int) - 1) ∧ Hid (Keep (fun _ => False) w wx ∧ gq ≤ 70 ∧ ∀ j, gq ≤ j → j < 70 → f j = g j))
  case atStart => exact ⟨rfl, Keep.refl _ _, Nat.le_refl _, fun j a b => absurd b (by omega)⟩
  case round =>
    obtain ⟨rfl, HK⟩ := hrel
    rcases Nat.eq_zero_or_pos gk with hz0 | hz0
    · subst hz0
      have hzf : z = false := by
        rw [← HZ.out, decide_eq_false_iff_not]
        have : V70 f = V70 g := wv_congr (fun i hi => HK.out.2.2 i (by omega) hi)
        omega
      subst hzf
      go_wp2_with fail
      go_ret
      exact ⟨rfl, HK.out.1.none⟩
    · obtain ⟨k, rfl⟩ : ∃ k, gk = k + 1 := ⟨gk - 1, by omega⟩
      have hk70 : k < 70 := by have := HK.out.2.1; omega
      have em : (((k + 1 : Nat) : Int) - 1) = (k : Int) := by omega
      rw [em]
      clear em
      have c1 := WdAt.cell (show WdAt wr b1 f from HK.out.1.same HF.out.1 id) hk70
      have c2 := WdAt.cell (show WdAt wr b2 g from HK.out.1.same HF.out.2.1 id) hk70
      by_cases he : f k = g k
      · have d1 : (((f k : Nat) : Int) != ((g k : Nat) : Int)) = false := by rw [bne_eq_false_iff_eq]; omega
        have d2 : (f k != g k) = false := by rw [bne_eq_false_iff_eq]; exact he
        have HE : RowKit.Hid (∀ j, j = k → f j = g j) := Lib.hid (fun j hj => by rw [hj]; exact he)
        clear he
        generalize f k = x at *
        generalize g k = y at *
        go_wp2_with fail
        go_quiet (fail)
        go_wp2_with fail
        go_roundg k
        all_goals first | omega | skip
        case rel =>
          refine ⟨rfl, (HK.out.1).drewN nq, by omega, fun j h1 h2 => ?_⟩
          rcases Nat.eq_or_lt_of_le h1 with h | h
          · exact HE.out j h.symm
          · exact HK.out.2.2 j (by omega) h2
      · have d1 : (((f k : Nat) : Int) != ((g k : Nat) : Int)) = true := by rw [bne_iff_ne]; omega
        have d2 : (f k != g k) = true := by rw [bne_iff_ne]; exact he
        have hzz : z = decide (f k < g k) := by
          rw [← HZ.out]
          rcases Nat.lt_or_ge (f k) (g k) with hlt | hge
          · rw [decide_eq_true hlt, decide_eq_true (show V70 f < V70 g from less_at HF.out.2.2.1 HF.out.2.2.2 hk70 (fun j a b => HK.out.2.2 j (by omega) b) hlt)]
          · have := less_at HF.out.2.2.2 HF.out.2.2.1 hk70 (fun j a b => (HK.out.2.2 j (by omega) b).symm) (show g k < f k by omega)
            have h3 : ¬ V70 f < V70 g := Nat.not_lt.2 (Nat.le_of_lt this)
            rw [decide_eq_false h3, decide_eq_false (show ¬ f k < g k by omega)]
        have HZZ := Lib.hid hzz
        clear he hzz
        generalize f k = x at *
        generalize g k = y at *
        go_wp2_with fail
        go_quiet (fail)
        go_wp2_with fail
        go_quiet (fail)
        go_wp2_with fail
        go_ret
        refine ⟨?_, ((HK.out.1.drewN _).drewN _).none⟩
        rw [HZZ.out]
        show Ending.returned (Value.bool _) = _
        congr 2

/-! ### sub -/
theorem sub_step {x o bw : Nat} (hx : x < 4294967296) (ho : o < 4294967296) (hb : bw ≤ 1) : (x + 4294967296 - o - bw) % 4294967296 + o + bw = x + (1 - (x + 4294967296 - o - bw) / 4294967296) * 4294967296 ∧ (x + 4294967296 - o - bw) / 4294967296 ≤ 1 := by
  omega
theorem sub_value {f g : Nat → Nat} {V bw i : Nat} (hi : i < 70) (hf : f i < 4294967296) (hg : g i < 4294967296) (hb : bw ≤ 1) (h : wv 4294967296 f 70 + wv 4294967296 g i = V + bw * 4294967296 ^ i) :
    wv 4294967296 (upd f i ((f i + 4294967296 - g i - bw) % 4294967296)) 70 + wv 4294967296 g (i + 1) = V + (1 - (f i + 4294967296 - g i - bw) / 4294967296) * 4294967296 ^ (i + 1) := by
  have hu := wv_upd (B := 4294967296) (f := f) (i := i) (x := (f i + 4294967296 - g i - bw) % 4294967296) (n := 70) hi
  obtain ⟨e, -⟩ := sub_step hf hg hb
  have hs : wv 4294967296 g (i + 1) = wv 4294967296 g i + g i * 4294967296 ^ i := rfl
  rw [hs, Nat.pow_succ, Nat.mul_comm _ 4294967296, ← Nat.mul_assoc]
  generalize 4294967296 ^ i = P at *
  generalize (f i + 4294967296 - g i - bw) % 4294967296 = s at *
  generalize 1 - (f i + 4294967296 - g i - bw) / 4294967296 = b' at *
  generalize wv 4294967296 (upd f i s) 70 = V2 at *
  generalize wv 4294967296 f 70 = V1 at *
  generalize wv 4294967296 g i = G at *
  have e2 := congrArg (· * P) e
  simp only [Nat.add_mul] at e2
  omega

set_option maxRecDepth 100000 in
set_option maxHeartbeats 4000000 in
theorem sub_any {w : World} {b1 b2 : Nat} {f g : Nat → Nat} (h1 : WdAt w b1 f) (h2 : WdAt w b2 g) (hne : b1 ≠ b2) (hf : ∀ j, f j < 4294967296) (hg : ∀ j, g j < 4294967296) (hle : V70 g ≤ V70 f) :
    Calls Tryz.prog 54 #[.pointer (some ⟨b1, 0, none⟩), .pointer (some ⟨b2, 0, none⟩)] w fun e w' => e = .returned (.tuple #[]) ∧ Hid (∃ f', WdAt w' b1 f' ∧ (∀ j, f' j < 4294967296) ∧ V70 f' = V70 f - V70 g ∧ Keep (· = b1) w w') := by
  have HF := Lib.hid (And.intro h1 (And.intro h2 (And.intro hf (And.intro hg hle))))
  clear h1 h2 hf hg hle
  refine (show ∀ Q : Ending → World → Prop, (∀ e w', (e = .returned (.tuple #[]) ∧ Hid (∃ f', WdAt w' b1 f' ∧ (∀ j, f' j < 4294967296) ∧ V70 f' = V70 f - V70 g ∧ Keep (· = b1) w w')) → Q e w') → Calls Tryz.prog 54 #[.pointer (some ⟨b1, 0, none⟩), .pointer (some ⟨b2, 0, none⟩)] w Q from ?_) _ (fun _ _ h => h)
  intro Q hQ
  have HQ := Lib.hid hQ
  clear hQ
  go_enter Tryz.func54, Tryz.ntmps54
  go_wp2_with fail
  go_loopg [4, 5] 70 (fun gq s4 s5 wx => ∃ (i bw : Nat) (f1 : Nat → Nat), gq + i = 70 ∧ s4 = .int .u64 (bw : Int) ∧ s5 = .int .i64 (i : Int) ∧ Hid (WdAt wx b1 f1 ∧ (∀ j, f1 j < 4294967296) ∧ bw ≤ 1 ∧ Keep (· = b1) w wx ∧ wv 4294967296 f1 70 + wv 4294967296 g i = V70 f + bw * 4294967296 ^ i))
  case atStart => exact ⟨0, 0, f, by omega, rfl, rfl, HF.out.1, HF.out.2.2.1, Nat.zero_le _, Keep.refl _ _, by show wv 4294967296 f 70 + 0 = wv 4294967296 f 70 + 0 * 4294967296 ^ 0; rw [Nat.zero_mul]⟩
  case round =>
    obtain ⟨i, bw, f1, hgi, rfl, rfl, HI⟩ := hrel
    by_cases hi : i < 70
    · have c1 := HI.out.1.cell hi
      have c2 := WdAt.cell (show WdAt wr b2 g from HI.out.2.2.2.1.same HF.out.2.1 (fun e => hne e.symm)) hi
      have hx := HI.out.2.1 i
      have ho := HF.out.2.2.2.1 i
      have hb := HI.out.2.2.1
      have HV := Lib.hid (sub_value hi hx ho hb HI.out.2.2.2.2)
      have hss := sub_step hx ho hb
      have hfr := HI.out.1.free i
      generalize f1 i = x at *
      generalize g i = y at *
      have e1 : (x : Int) + 4294967296 - (y : Int) - (bw : Int) = ((x + 4294967296 - y - bw : Nat) : Int) := by omega
      have hq : x + 4294967296 - y - bw < 8589934592 := by omega
      have hlo := low32 (x + 4294967296 - y - bw) (by omega)
      have hhi : ((x + 4294967296 - y - bw : Nat) : Int) / 4294967296 = (((x + 4294967296 - y - bw) / 4294967296 : Nat) : Int) := by omega
      have hlt : (x + 4294967296 - y - bw) % 4294967296 < 4294967296 := Nat.mod_lt _ (by decide)
      have hbb : (1 : Int) - (((x + 4294967296 - y - bw) / 4294967296 : Nat) : Int) = ((1 - (x + 4294967296 - y - bw) / 4294967296 : Nat) : Int) := by omega
      have HL := Lib.hid (And.intro hlt (show 1 - (x + 4294967296 - y - bw) / 4294967296 ≤ 1 by omega))
      clear hlt hss
      generalize x + 4294967296 - y - bw = z at *
      have HH := Lib.hid (And.intro hhi hbb)
      clear hhi hbb
      go_wp2_with fail
      go_quiet (fail)
      go_wp2_with fail
      go_roundg (gk - 1)
      all_goals first | omega | skip
      case rel =>
        refine ⟨i + 1, 1 - z / 4294967296, upd f1 i (z % 4294967296), by omega, ?_, rfl, ?_, upd_lt HI.out.2.1 HL.out.1, HL.out.2, ?_, HV.out⟩
        · rw [← HH.out.2, ← HH.out.1]
        · exact WdAt.set (show WdAt (wr.drewN nq) b1 f1 from HI.out.1) i (z % 4294967296)
        · exact HI.out.2.2.2.1.trans (Keep.setCell (bs := (· = b1)) ((Keep.refl _ wr).drewN nq) (p := ⟨b1, i, none⟩) (Or.inl rfl) _)
    · obtain rfl : i = 70 := by omega
      have hend : V70 f1 = V70 f - V70 g := by
        have h1 := HI.out.2.2.2.2
        have h2 := wv_lt (B := 4294967296) (f := f1) (by decide) (n := 70) (fun j _ => HI.out.2.1 j)
        have h3 := HF.out.2.2.2.2
        have h4 := HI.out.2.2.1
        have e1 : wv 4294967296 f1 70 = V70 f1 := rfl
        have e2 : wv 4294967296 g 70 = V70 g := rfl
        rw [e1, e2] at h1
        rw [e1] at h2
        generalize (4294967296 : Nat) ^ 70 = P at *
        rcases (show bw = 0 ∨ bw = 1 by omega) with rfl | rfl
        · rw [Nat.zero_mul] at h1
          omega
        · rw [Nat.one_mul] at h1
          omega
      go_wp2_with fail
      go_end0
      exact HQ.out _ _ ⟨rfl, Lib.hid ⟨f1, HI.out.1, HI.out.2.1, hend, HI.out.2.2.2.1⟩⟩
end Go.Proofs.YtipkiiblghnoiaaGreatDoor.Sm
