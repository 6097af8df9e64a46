/- The reference's wide numbers: add. By an AI agent. -/
import Derived.Test.YtipkiiblghnoiaaGreatDoorSumI
import Derived.Deep.CutRange
namespace Go.Proofs.YtipkiiblghnoiaaGreatDoor.Sm
open Go.ChangeShapes Go.WideShapes Go.ChangeAt Go.RowKit
set_option linter.unusedVariables false
set_option linter.unusedSimpArgs false

/-- What is added, in parts. -/
def ptW (D t : Nat) : Nat := if t = 0 then D % 4294967296 else if t = 1 then D / 4294967296 % 4294967296 else if t = 2 then D / 18446744073709551616 else 0
theorem pt_lt {D : Nat} (h : D < 79228162514264337593543950336) (t : Nat) : ptW D t < 4294967296 := by
  unfold ptW
  split
  · omega
  · split
    · omega
    · split <;> omega
theorem pt_three (D : Nat) : wv 4294967296 (ptW D) 3 = D := by
  show 0 + ptW D 0 * 4294967296 ^ 0 + ptW D 1 * 4294967296 ^ 1 + ptW D 2 * 4294967296 ^ 2 = D
  have e0 : ptW D 0 = D % 4294967296 := rfl
  have e1 : ptW D 1 = D / 4294967296 % 4294967296 := rfl
  have e2 : ptW D 2 = D / 18446744073709551616 := rfl
  rw [e0, e1, e2, Nat.pow_zero, Nat.pow_one, show (4294967296 : Nat) ^ 2 = 18446744073709551616 from rfl]
  omega
theorem pt_all (D : Nat) {t : Nat} (h : 3 ≤ t) : wv 4294967296 (ptW D) t = D := by
  rw [wv_high (m := 3) h (fun i h1 _ => by unfold ptW; rw [if_neg (by omega), if_neg (by omega), if_neg (by omega)]), pt_three]
theorem add_value {f : Nat → Nat} {V D c i at_ : Nat} (hi : i < 70) (ha : at_ ≤ i) (hf : f i < 4294967296) (hp : ptW D (i - at_) < 4294967296) (hc : c ≤ 1) (h : wv 4294967296 f 70 + c * 4294967296 ^ i = V + wv 4294967296 (ptW D) (i - at_) * 4294967296 ^ at_) :
    wv 4294967296 (upd f i ((f i + c + ptW D (i - at_)) % 4294967296)) 70 + (f i + c + ptW D (i - at_)) / 4294967296 * 4294967296 ^ (i + 1) = V + wv 4294967296 (ptW D) (i - at_ + 1) * 4294967296 ^ at_ := by
  have hu := wv_upd (B := 4294967296) (f := f) (i := i) (x := (f i + c + ptW D (i - at_)) % 4294967296) (n := 70) hi
  have hs : wv 4294967296 (ptW D) (i - at_ + 1) = wv 4294967296 (ptW D) (i - at_) + ptW D (i - at_) * 4294967296 ^ (i - at_) := rfl
  have hpw : (4294967296 : Nat) ^ (i - at_) * 4294967296 ^ at_ = 4294967296 ^ i := by rw [← Nat.pow_add]; congr 1; omega
  rw [hs, Nat.add_mul, Nat.mul_assoc (ptW D (i - at_)), hpw, Nat.pow_succ, Nat.mul_comm _ 4294967296, ← Nat.mul_assoc]
  have e : (f i + c + ptW D (i - at_)) % 4294967296 + (f i + c + ptW D (i - at_)) / 4294967296 * 4294967296 = f i + c + ptW D (i - at_) := by omega
  generalize wv 4294967296 (ptW D) (i - at_) * 4294967296 ^ at_ = W0 at *
  generalize ptW D (i - at_) = p at *
  generalize (4294967296 : Nat) ^ i = P at *
  generalize (f i + c + p) % 4294967296 = s at *
  generalize (f i + c + p) / 4294967296 = c' at *
  generalize wv 4294967296 (upd f i s) 70 = V2 at *
  generalize wv 4294967296 f 70 = V1 at *
  have e2 := congrArg (· * P) e
  simp only [Nat.add_mul] at e2
  omega

theorem v70_def (f : Nat → Nat) : wv 4294967296 f 70 = V70 f := rfl
theorem pow_word32 (a i : Nat) : 2 ^ (a + 32 * i) = 2 ^ a * 4294967296 ^ i := by
  rw [Nat.pow_add, Nat.pow_mul, two32]
theorem add_end {V1 V0 c d P : Nat} (h : V1 + c * P = V0 + d) (hlt : V0 + d < P) (hc : c ≤ 1) : V1 = V0 + d := by
  rcases (show c = 0 ∨ c = 1 by omega) with rfl | rfl
  · rw [Nat.zero_mul] at h
    omega
  · rw [Nat.one_mul] at h
    omega

set_option maxRecDepth 100000 in
set_option maxHeartbeats 4000000 in
theorem add3_any {w : World} {b : Nat} {f : Nat → Nat} (h : WdAt w b f) (hf : ∀ j, f j < 4294967296) (mn sh : Nat) (hm : mn < 9007199254740992) (hs : sh ≤ 2045) (hb : V70 f + mn * 2 ^ sh < 4294967296 ^ 70) :
    Calls Tryz.prog 52 #[.pointer (some ⟨b, 0, none⟩), .int .u64 (mn : Int), .int .i64 (sh : Int)] w fun e w' => e = .returned (.tuple #[]) ∧ Hid (∃ f', WdAt w' b f' ∧ (∀ j, f' j < 4294967296) ∧ V70 f' = V70 f + mn * 2 ^ sh ∧ Keep (· = b) w w') := by
  have HF := Lib.hid (And.intro h (And.intro hf hb))
  clear h hf hb
  refine (show ∀ Q : Ending → World → Prop, (∀ e w', (e = .returned (.tuple #[]) ∧ Hid (∃ f', WdAt w' b f' ∧ (∀ j, f' j < 4294967296) ∧ V70 f' = V70 f + mn * 2 ^ sh ∧ Keep (· = b) w w')) → Q e w') → Calls Tryz.prog 52 #[.pointer (some ⟨b, 0, none⟩), .int .u64 (mn : Int), .int .i64 (sh : Int)] w Q from ?_) _ (fun _ _ h => h)
  intro Q hQ
  have HQ := Lib.hid hQ
  clear hQ
  obtain ⟨at_, hat⟩ : ∃ x, x = sh / 32 := ⟨_, rfl⟩
  obtain ⟨by_, hby⟩ : ∃ x, x = sh % 32 := ⟨_, rfl⟩
  have hsp : sh = by_ + 32 * at_ := by omega
  have ha64 : at_ < 64 := by omega
  have hb32 : by_ < 32 := by omega
  have t1 : ((sh : Int)).tdiv 32 = (at_ : Int) := by rw [hat, Int.tdiv_eq_ediv_of_nonneg (by omega)]; omega
  have t2 : ((sh : Int)).tmod 32 = (by_ : Int) := by rw [hby, Int.tmod_eq_emod_of_nonneg (by omega)]; omega
  clear hat hby
  have HSP := Lib.hid hsp
  clear hsp
  have hD : mn * 2 ^ by_ < 79228162514264337593543950336 := by
    have : 2 ^ by_ ≤ 2 ^ 32 := Nat.pow_le_pow_right (by decide) (by omega)
    have h2 : mn * 2 ^ by_ ≤ mn * 2 ^ 32 := Nat.mul_le_mul_left _ this
    omega
  have HD := Lib.hid hD
  have HP0 : RowKit.Hid (∀ z : Int, z = IntKind.u64.wrap ((mn : Int) * 2 ^ by_) → bits BinOp.and IntKind.u64 z 4294967295 = ((ptW (mn * 2 ^ by_) 0 : Nat) : Int)) := Lib.hid (by
    intro z hz
    have e0 : ((mn * 2 ^ by_ : Nat) : Int) = (mn : Int) * 2 ^ by_ := by push_cast; rfl
    have e1 : z = ((mn * 2 ^ by_ % 18446744073709551616 : Nat) : Int) := by rw [hz, IntKind.wrap_u64, ← e0]; generalize mn * 2 ^ by_ = X; omega
    rw [e1, low32 _ (Nat.mod_lt _ (by decide))]
    show _ = ((mn * 2 ^ by_ % 4294967296 : Nat) : Int)
    generalize mn * 2 ^ by_ = X
    omega)
  have HP1 : RowKit.Hid (bits BinOp.and IntKind.u64 ((mn : Int) / 2 ^ (32 - by_)) 4294967295 = ((ptW (mn * 2 ^ by_) 1 : Nat) : Int)) := Lib.hid (by
    have e0 : ((mn / 2 ^ (32 - by_) : Nat) : Int) = (mn : Int) / 2 ^ (32 - by_) := by push_cast; rfl
    have hle : mn / 2 ^ (32 - by_) ≤ mn := Nat.div_le_self _ _
    rw [← e0, low32 _ (by omega)]
    have hp : (4294967296 : Nat) = 2 ^ (32 - by_) * 2 ^ by_ := by rw [← Nat.pow_add, show 32 - by_ + by_ = 32 by omega]
    have hdv : mn / 2 ^ (32 - by_) = (mn * 2 ^ by_) / 4294967296 := by
      rw [hp, Nat.mul_div_mul_right _ _ (Nat.pow_pos (by decide))]
    rw [hdv]
    rfl)
  have HP2 : RowKit.Hid ((by_ = 0 → ptW (mn * 2 ^ by_) 2 = 0) ∧ (mn : Int) / 4294967296 / 2 ^ (32 - by_) = ((ptW (mn * 2 ^ by_) 2 : Nat) : Int)) := Lib.hid (by
    have e0 : ((mn / 4294967296 / 2 ^ (32 - by_) : Nat) : Int) = (mn : Int) / 4294967296 / 2 ^ (32 - by_) := by rw [Int.natCast_ediv, Int.natCast_ediv, Int.natCast_pow]; rfl
    have hp : (18446744073709551616 : Nat) = 4294967296 * 2 ^ (32 - by_) * 2 ^ by_ := by rw [Nat.mul_assoc, ← Nat.pow_add, show 32 - by_ + by_ = 32 by omega]
    have hdv : mn / 4294967296 / 2 ^ (32 - by_) = (mn * 2 ^ by_) / 18446744073709551616 := by
      rw [hp, Nat.mul_div_mul_right _ _ (Nat.pow_pos (by decide)), Nat.div_div_eq_div_mul]
    refine ⟨fun h0 => ?_, ?_⟩
    · subst h0
      show mn * 2 ^ 0 / 18446744073709551616 = 0
      omega
    · rw [← e0, hdv]
      rfl)
  go_enter Tryz.func52, Tryz.ntmps52
  go_upto_region 1 with fail
  go_cut [8] from 16 to 25 (fun s8 wx => ∃ bp : Nat, s8 = .pointer (some ⟨bp, 0, none⟩) ∧ Hid (wx.heap[bp]? = some (.cells #[.int .u64 ((ptW (mn * 2 ^ by_) 0 : Nat) : Int), .int .u64 ((ptW (mn * 2 ^ by_) 1 : Nat) : Int), .int .u64 0] 86 (0, 0)) ∧ Keep (fun _ => False) w wx ∧ w.heap.size ≤ bp))
  case first =>
    go_region
    all_goals (go_wp2_with fail; go_meet)
    all_goals
      refine ⟨w.heap.size, rfl, Lib.hid ⟨?_, ((Keep.refl _ w).alloc _).drew, Nat.le_refl _⟩⟩
      rw [HP0.out _ rfl, HP1.out]
      exact blk_new w _
  case rest =>
    obtain ⟨bp, rfl, H1⟩ := hcut
    obtain ⟨w1, hw1⟩ : ∃ w1, w1 = wc := ⟨_, rfl⟩
    subst hw1
    go_upto_if 27 with fail
    go_cut [] from 27 to 33 (fun wx => Hid (wx.heap[bp]? = some (.cells #[.int .u64 ((ptW (mn * 2 ^ by_) 0 : Nat) : Int), .int .u64 ((ptW (mn * 2 ^ by_) 1 : Nat) : Int), .int .u64 ((ptW (mn * 2 ^ by_) 2 : Nat) : Int)] 86 (0, 0)) ∧ Keep (fun _ => False) w wx))
    case first =>
      by_cases h0 : by_ = 0
      · rw [show decide (0 < by_) = false by rw [decide_eq_false_iff_not]; omega]
        go_wp2_with fail
        go_meet
        refine Lib.hid ⟨?_, H1.out.2.1⟩
        have := H1.out.1
        rw [HP2.out.1 h0]
        exact this
      · rw [show decide (0 < by_) = true by rw [decide_eq_true_eq]; omega]
        have c2 : w1.cell? ⟨bp, 2, none⟩ = some (.int .u64 0) := blk_cell H1.out.1 2
        have f2 : w1.frozen? ⟨bp, 2, none⟩ = false := blk_free H1.out.1 2
        go_wp2_with fail
        go_meet
        refine Lib.hid ⟨?_, Keep.setCell (bs := fun _ => False) H1.out.2.1 (p := ⟨bp, 2, none⟩) (Or.inr H1.out.2.2) _⟩
        have := blk_set H1.out.1 2 (.int .u64 ((mn : Int) / 4294967296 / 2 ^ (32 - by_)))
        rw [HP2.out.2] at this ⊢
        exact this
    case rest =>
      obtain ⟨w2, hw2⟩ : ∃ w2, w2 = wc := ⟨_, rfl⟩
      subst hw2
      have H2 := Lib.hid hcut.out
      have HNE : RowKit.Hid (¬ bp = b) := Lib.hid (by have := H1.out.2.2; have := lt_of_block HF.out.1; omega)
      have hpl0 := fun t => pt_lt HD.out t
      have HPL := Lib.hid hpl0
      clear hcut hpl0
      generalize hDD : mn * 2 ^ by_ = D at *
      have HDD := Lib.hid hDD
      clear hDD
      go_wp2_with fail
      go_loopg [9, 10] (70 - at_) (fun gq s9 s10 wx => ∃ (i c : Nat) (f1 : Nat → Nat), gq + i = 70 ∧ s9 = .int .u64 (c : Int) ∧ s10 = .int .i64 (i : Int) ∧ Hid (at_ ≤ i ∧ WdAt wx b f1 ∧ (∀ j, f1 j < 4294967296) ∧ c ≤ 1 ∧ Keep (· = b) w wx ∧ wx.heap[bp]? = some (.cells #[.int .u64 ((ptW D 0 : Nat) : Int), .int .u64 ((ptW D 1 : Nat) : Int), .int .u64 ((ptW D 2 : Nat) : Int)] 86 (0, 0)) ∧ wv 4294967296 f1 70 + c * 4294967296 ^ i = V70 f + wv 4294967296 (ptW D) (i - at_) * 4294967296 ^ at_))
      case atStart =>
        refine ⟨at_, 0, f, by omega, rfl, rfl, Nat.le_refl _, H2.out.2.same HF.out.1 id, HF.out.2.1, Nat.zero_le _, H2.out.2.mono (fun _ _ h => h.elim), H2.out.1, ?_⟩
        rw [Nat.sub_self, Nat.zero_mul]
        show wv 4294967296 f 70 + 0 = wv 4294967296 f 70 + 0 * _
        rw [Nat.zero_mul]
      case round =>
        obtain ⟨i, c, f1, hgi, rfl, rfl, HI⟩ := hrel
        have hai := HI.out.1
        by_cases hi : i < 70
        · have c1 := HI.out.2.1.cell hi
          have fr1 := HI.out.2.1.free i
          have hx := HI.out.2.2.1 i
          have hc1 := HI.out.2.2.2.1
          have hpl := HPL.out (i - at_)
          have HV := Lib.hid (add_value hi hai hx hpl hc1 HI.out.2.2.2.2.2.2)
          obtain ⟨t, ht⟩ : ∃ t, t = i - at_ := ⟨_, rfl⟩
          rw [← ht] at HV hpl
          have et : (i : Int) - (at_ : Int) = (t : Int) := by omega
          have HT := Lib.hid ht
          generalize f1 i = x at *
          clear ht
          by_cases ht3 : t < 3
          · have cp : wr.cell? ⟨bp, t, none⟩ = some (.int .u64 ((ptW D t : Nat) : Int)) := by
              have hb0 := HI.out.2.2.2.2.2.1
              rcases (show t = 0 ∨ t = 1 ∨ t = 2 by omega) with rfl | rfl | rfl
              · exact blk_cell hb0 0
              · exact blk_cell hb0 1
              · exact blk_cell hb0 2
            have d1 : decide ((t : Int) < 3) = true := by rw [decide_eq_true_eq]; omega
            generalize ptW D t = pp at *
            obtain ⟨z, hz⟩ : ∃ z, z = x + c + pp := ⟨_, rfl⟩
            rw [← hz] at HV
            have e1 : (x : Int) + (c : Int) + (pp : Int) = (z : Int) := by omega
            have hz2 : z < 8589934592 := by omega
            have hlo := low32 z (by omega)
            have ew : IntKind.u64.wrap (z : Int) = (z : Int) := by rw [IntKind.wrap_u64]; omega
            have HQ2 := Lib.hid (show ((z : Nat) : Int) / 4294967296 = ((z / 4294967296 : Nat) : Int) by omega)
            have HC := Lib.hid (And.intro (Nat.mod_lt z (show 0 < 4294967296 by decide)) (show z / 4294967296 ≤ 1 by omega))
            clear hx hpl hc1 hz
            go_wp2_with fail
            go_roundg (gk - 1)
            all_goals first | omega | skip
            case rel =>
              refine ⟨i + 1, z / 4294967296, upd f1 i (z % 4294967296), by omega, ?_, rfl, by omega, WdAt.set HI.out.2.1 i (z % 4294967296), upd_lt HI.out.2.2.1 HC.out.1, HC.out.2, HI.out.2.2.2.2.1.trans (Keep.setCell (bs := (· = b)) (Keep.refl _ wr) (p := ⟨b, i, none⟩) (Or.inl rfl) _), ?_, by rw [show i + 1 - at_ = t + 1 by have := HT.out; omega]; exact HV.out⟩
              · rw [← HQ2.out]
              · exact (Keep.setCell (bs := (· = b)) (Keep.refl _ wr) (p := ⟨b, i, none⟩) (Or.inl rfl) _).same HI.out.2.2.2.2.2.1 HNE.out
          · have hp0 : ptW D t = 0 := by unfold ptW; rw [if_neg (by omega), if_neg (by omega), if_neg (by omega)]
            have d1 : decide ((t : Int) < 3) = false := by rw [decide_eq_false_iff_not]; omega
            rw [hp0, Nat.add_zero] at HV
            clear hp0
            obtain ⟨z, hz⟩ : ∃ z, z = x + c := ⟨_, rfl⟩
            rw [← hz] at HV
            have e1 : (x : Int) + (c : Int) = (z : Int) := by omega
            have hz2 : z < 8589934592 := by omega
            have hlo := low32 z (by omega)
            have ew : IntKind.u64.wrap (z : Int) = (z : Int) := by rw [IntKind.wrap_u64]; omega
            have HQ2 := Lib.hid (show ((z : Nat) : Int) / 4294967296 = ((z / 4294967296 : Nat) : Int) by omega)
            have HC := Lib.hid (And.intro (Nat.mod_lt z (show 0 < 4294967296 by decide)) (show z / 4294967296 ≤ 1 by omega))
            clear hx hpl hc1 hz
            go_wp2_with fail
            go_roundg (gk - 1)
            all_goals first | omega | skip
            case rel =>
              refine ⟨i + 1, z / 4294967296, upd f1 i (z % 4294967296), by omega, ?_, rfl, by omega, WdAt.set HI.out.2.1 i (z % 4294967296), upd_lt HI.out.2.2.1 HC.out.1, HC.out.2, HI.out.2.2.2.2.1.trans (Keep.setCell (bs := (· = b)) (Keep.refl _ wr) (p := ⟨b, i, none⟩) (Or.inl rfl) _), ?_, by rw [show i + 1 - at_ = t + 1 by have := HT.out; omega]; exact HV.out⟩
              · rw [← HQ2.out]
              · exact (Keep.setCell (bs := (· = b)) (Keep.refl _ wr) (p := ⟨b, i, none⟩) (Or.inl rfl) _).same HI.out.2.2.2.2.2.1 HNE.out
        · obtain rfl : i = 70 := by omega
          have hend : V70 f1 = V70 f + mn * 2 ^ sh := by
            have h0 := HI.out.2.2.2.2.2.2
            have h3 : wv 4294967296 (ptW D) (70 - at_) = D := pt_all D (show 3 ≤ 70 - at_ by omega)
            have e1 : D * 4294967296 ^ at_ = mn * 2 ^ sh := by
              rw [← HDD.out, HSP.out, pow_word32, Nat.mul_assoc]
            rw [h3, e1, v70_def] at h0
            exact add_end h0 HF.out.2.2 HI.out.2.2.2.1
          go_wp2_with fail
          go_end0
          exact HQ.out _ _ ⟨rfl, Lib.hid ⟨f1, HI.out.2.1, HI.out.2.2.1, hend, HI.out.2.2.2.2.1⟩⟩
end Go.Proofs.YtipkiiblghnoiaaGreatDoor.Sm
