/- Contract of strconv's ftoa64, at the shortest form. By an AI agent. -/
import Derived.Test.YtemjlkmlodmmfaaGreatDoorMg04
import Derived.Laws.BytesArg
import Derived.Test.YtemjlkmlodmmfaaGreatDoorMg01
import Derived.WalkMore
import Derived.Scope
import Derived.LoopN
namespace Go.Proofs.YtemjlkmlodmmfaaGreatDoor
open Go.ChangeShapes Go.WideShapes Go.ChangeAt Go.RowKit
open Bt
set_option linter.unusedVariables false

/-- The tables that strconv reads, whatever is done from a block on. -/
structure Tb (B : Nat) (w : World) : Prop where
  pows : ∀ w', Below B w w' → Pows w'
  tens : Lib.TabBelow Tryz.prog B w "internal/strconv.uint64pow10" .u64 Lib.pow10Tab
  lt : 7 < B
  size : B ≤ w.heap.size
theorem Tb.on {B : Nat} {w w' : World} (h : Tb B w) (hb : Below B w w') : Tb B w' :=
  ⟨fun w2 h2 => h.pows w2 (hb.trans h2), fun w2 h2 => h.tens w2 (hb.trans h2), h.lt, Nat.le_trans h.size hb.size⟩

theorem ext_sbits (x : Nat) (w : World) : (callFunc 53 #[.float .f64 x]).run Tryz.prog w = .ok (.value (.int .u64 x)) w := by kernel_rfl
theorem ext_sfrom (x : Int) (w : World) : (callFunc 102 #[.int .u64 x]).run Tryz.prog w = .ok (.value (.float .f64 x.toNat)) w := by kernel_rfl

/-- What ftoa64 leaves: the text, in a row of the call's own. -/
def Txt (base : Nat) (w : World) (B : List Nat) (e : Ending) (w' : World) : Prop :=
  ∃ v', e = .returned v' ∧ w'.ownsRow base 5 1 v' B.length (u8s B) ∧ Below base w w'

set_option maxRecDepth 100000 in
set_option maxHeartbeats 2000000 in
theorem ftoa_zero (u base : Nat) (v : Value) (w : World) (hu : u < 18446744073709551616) (hm : Sm.mant u = 0) (hv : w.ownsRow base 5 1 v 0 []) (hT : Tb base w) :
    Calls Tryz.prog 45 #[v, .float .f64 u, .int .u8 103, .int .i64 (-1)] w (Txt base w (Us.textF u)) := by
  have hI : Bu w base 7 v [] w := ⟨hv, fun h => by have := (hv.lt _ h).1; have := hT.lt; omega, Below.refl _ _, hT.size, Nat.lt_of_lt_of_le hT.lt hT.size, fun _ => rfl⟩
  have hF := fun n => fmt_zero (Sm.isNeg u) _ base v (w.drewN n) (⟨hI.own, hI.apart, Below.refl _ _, hI.base, hI.lt, fun _ => rfl⟩ : Bu (w.drewN n) base _ v [] (w.drewN n))
  have he : u / 2 ^ 52 % 2048 = 0 ∧ u % 2 ^ 52 = 0 := by
    unfold Sm.mant at hm
    split at hm <;> omega
  have h1 := Sm.and_pow u hu
  have h2 := Sm.and_frac u hu
  rw [he.1, Sm.wrap64_id _ (by omega) (by omega)] at h1
  rw [he.2] at h2
  have h1 : bits BinOp.and IntKind.i64 ((u : Int) / 4503599627370496) 2047 = 0 := h1
  have h2 : bits BinOp.and IntKind.u64 (u : Int) 4503599627370495 = 0 := h2
  have ht : Us.textF u = Us.fmtG (Sm.isNeg u) [] 0 := by unfold Us.textF; rw [if_pos hm]
  rw [ht]
  obtain ⟨ng, hng⟩ : ∃ ng : Bool, ng = Sm.isNeg u := ⟨_, rfl⟩
  have hn : ((u : Int) / 9223372036854775808 != 0) = ng := by
    rw [hng]
    unfold Sm.isNeg
    rw [Bool.eq_iff_iff, bne_iff_ne, decide_eq_true_eq]
    omega
  rw [← hng] at hF ⊢
  have HF := Lib.hid hF
  have hbits := ext_sbits
  clear hF hI hv hT ht hm he hng
  go_enter Tryz.func45, Tryz.ntmps45
  go_wp2_with fail
  go_quiet (fail)
  go_wp2_with fail
  refine (HF.out nq).mono ?_
  rintro e w1 ⟨v', rfl, h'⟩
  have H' := Lib.hid h'
  clear h'
  go_wp2_with fail
  go_ret
  exact ⟨_, rfl, H'.out.own, (below_drewN (Below.refl _ w) nq).trans H'.out.below⟩

theorem own_below {base n : Nat} {e : TypeId} {v : Value} {xs : List Value} {w w' : World} (h : w.ownsRow base e 1 v n xs) (hb : Below w.heap.size w w') : w'.ownsRow base e 1 v n xs :=
  h.kept (row := none) ⟨hb.os, hb.tape, hb.output, hb.size, fun k hk _ => hb.block k hk⟩ (by cases v.ownBlock <;> simp)
theorem own_keep {base n b : Nat} {e : TypeId} {v : Value} {xs : List Value} {w w' : World} (h : w.ownsRow base e 1 v n xs) (hb : Keep (· = b) w w') (hv : v.ownBlock ≠ some b) : w'.ownsRow base e 1 v n xs :=
  h.kept (row := some b) ⟨hb.os, hb.tape, hb.output, hb.size, fun k hk hn => hb.block k hk (fun e => hn (by rw [e]))⟩ (Or.inr hv)
theorem nd_len (u : Nat) : (Us.digs u).length = Us.nz u := by unfold Us.digs; simp
theorem dgs_of {w : World} {b u : Nat} (h : DgAt w b (Us.dd u) (Lib.nDigits (Us.dd u))) : Dgs w b (Us.digs u) := by
  intro t ht
  rw [nd_len] at ht
  have hle : Us.nz u ≤ Lib.nDigits (Us.dd u) := Us.trimN_le _ _
  rw [h t (by omega)]
  have e : (Us.digs u).getD t 0 = Us.digit (Us.dd u) (Lib.nDigits (Us.dd u)) t := by
    unfold Us.digs
    rw [List.getD_eq_getElem?_getD, List.getElem?_map, List.getElem?_range ht, Option.map_some, Option.getD_some]
  rw [e]

set_option maxRecDepth 100000 in
set_option maxHeartbeats 4000000 in
theorem ftoa_some (u base : Nat) (v : Value) (w : World) (hu : u < 18446744073709551616) (hk : Us.exb u < 2047) (hm : Sm.mant u ≠ 0) (hv : w.ownsRow base 5 1 v 0 []) (hT : Tb base w) :
    Calls Tryz.prog 45 #[v, .float .f64 u, .int .u8 103, .int .i64 (-1)] w (Txt base w (Us.textF u)) := by
  obtain ⟨hok, hs1, hs2⟩ := Us.ok_of u hk hm
  have hsp := Us.dd_pos hok
  rw [Us.text_some hm]
  have hnd := Lib.nDigits_le20 (Us.dd u) hsp.2.1
  have hnp := Lib.nDigits_pos (Us.dd u)
  have hnl := Lib.lt_pow_nDigits (Us.dd u)
  have hpq := Us.pq_sum hok hnd
  have hz1 : 1 ≤ Us.nz u := Us.trim_pos _ _ (Nat.one_le_iff_ne_zero.1 hsp.1) hnl
  have hz2 : Us.nz u ≤ 20 := Nat.le_trans (Us.trimN_le _ _) hnd
  have h1 := Sm.and_pow u hu
  have h2 := Sm.and_frac u hu
  rw [Sm.wrap64_id _ (by omega) (by omega)] at h1
  have hml := Sm.mant_lt u
  have hbl := Us.bitLen_pos hm (by omega)
  have hLen := fun w => Tryz.bits_Len64 ((Sm.mant u : Nat) : Int) w (by omega) (by omega)
  simp only [Int.toNat_natCast] at hLen
  have hsub : 64 - (Lib.bitLen (Sm.mant u) : Int) = ((Us.sh u : Nat) : Int) := by
    have e : Us.sh u = 64 - Lib.bitLen (Sm.mant u) := rfl
    clear hLen h1 h2 hnl
    omega
  have hshl : IntKind.u64.wrap (((Sm.mant u : Nat) : Int) * 2 ^ Us.sh u) = ((Us.mm u : Nat) : Int) := by
    have e : (((Sm.mant u : Nat) : Int) * 2 ^ Us.sh u) = ((Us.mm u : Nat) : Int) := by unfold Us.mm; push_cast; rfl
    have hh := hok.hi
    clear hLen h1 h2 hnl hsub
    rw [e, IntKind.wrap_u64]; omega
  have hS : ∀ w, Pows w → 7 < w.heap.size → Calls Tryz.prog 65 #[.int .u64 ((Us.mm u : Nat) : Int), .int .i64 (Us.ee u)] w fun en w' => en = .returned (.tuple #[.int .u64 (Us.dd u : Nat), .int .i64 (Us.pq u)]) ∧ Below w.heap.size w w' := fun w hP hg => short_any (Us.mm u) (Us.ee u) w hok hP hg
  have hN := fun w ht => Tryz.internal_strconv_numDigits (Us.dd u) hsp.1 hsp.2.1 w ht
  have hD : ∀ (b : Nat) (t : TypeId) (w : World), w.heap[b]? = some (.cells (Array.replicate 32 (.int .u8 0)) t (0, 0)) → Calls Tryz.prog 58 #[.slice (some ⟨b, 0, none⟩) 32 32, .int .u64 ((Us.dd u : Nat) : Int), .int .i64 (Us.pq u), .int .i64 (Lib.nDigits (Us.dd u) : Int)] w fun e w' => e = .returned (.tuple #[.int .i64 (Lib.nDigits (Us.dd u) + Us.pq u), .int .i64 (Us.nz u : Nat)]) ∧ RowKit.Hid (DgAt w' b (Us.dd u) (Lib.nDigits (Us.dd u)) ∧ Keep (· = b) w w') := fun b t w hb => setDigits_any b (Us.dd u) (Lib.nDigits (Us.dd u)) (Us.pq u) t w hb hnd hnl hsp.2.1 hpq.1 hpq.2.1
  have hF := fun b w (hI : Bu w base b v [] w) (hg : Dgs w b (Us.digs u)) => fmt_any (Sm.isNeg u) (Us.digs u) (Lib.nDigits (Us.dd u) + Us.pq u) b base v w hI hg (by rw [nd_len]; exact hz1) (by rw [nd_len]; exact hz2) hpq.2.2.1 hpq.2.2.2
  simp only [nd_len] at hF
  obtain ⟨ng, hng⟩ : ∃ ng : Bool, ng = Sm.isNeg u := ⟨_, rfl⟩
  have hn : ((u : Int) / 9223372036854775808 != 0) = ng := by
    rw [hng]
    unfold Sm.isNeg
    rw [Bool.eq_iff_iff, bne_iff_ne, decide_eq_true_eq]
    omega
  rw [← hng] at hF ⊢
  have hdg : ∀ (w : World) (b : Nat), DgAt w b (Us.dd u) (Lib.nDigits (Us.dd u)) → Dgs w b (Us.digs u) := fun w b h => dgs_of h
  have HDG := Lib.hid hdg
  clear hdg
  have hex : u / 2 ^ 52 % 2048 = Us.exb u := rfl
  rw [hex] at h1
  have hor : Us.exb u ≠ 0 → bits BinOp.or IntKind.u64 ((u % 2 ^ 52 : Nat) : Int) 4503599627370496 = ((Sm.mant u : Nat) : Int) := fun h0 => by
    have e : Sm.mant u = u % 2 ^ 52 + 4503599627370496 := by unfold Sm.mant; rw [if_neg (by rw [hex]; exact h0)]
    rw [e]; exact Sm.or_norm _ (Nat.mod_lt _ (by decide))
  have hsub0 : Us.exb u = 0 → Sm.mant u = u % 2 ^ 52 := fun h0 => by unfold Sm.mant; rw [if_pos (by rw [hex]; exact h0)]
  have hee : ∀ x : Nat, x = Us.exb u → Us.ee u = (if x = 0 then -1022 else (x : Int) - 1023) - (Us.sh u : Int) - 52 := fun x h => by rw [h]; rfl
  have hmne : (((Sm.mant u : Nat) : Int) == 0) = false := by rw [beq_eq_false_iff_ne]; omega
  have HS := Lib.hid (And.intro hS (And.intro hT hv))
  have HL := Lib.hid hLen
  have HN := Lib.hid hN
  have HD := Lib.hid hD
  have HF := Lib.hid hF
  have HOR := Lib.hid (And.intro hor hsub0)
  have HEE := Lib.hid hee
  clear hS hT hv hLen hN hD hF hor hsub0 hee hng hok hsp hnl hex hbl hpq
  generalize Us.exb u = X at *
  generalize u % 2 ^ 52 = fr at *
  generalize Sm.mant u = M at *
  generalize Us.sh u = S at *
  generalize Us.mm u = MM at *
  generalize Us.ee u = EE at *
  generalize Us.digs u = DG at *
  generalize Us.dd u = DD at *
  generalize Us.pq u = PQ at *
  generalize Us.nz u = NZ at *
  have hbits := ext_sbits
  have hX1 : ((X : Int) == 2047) = false := by rw [beq_eq_false_iff_ne]; omega
  go_enter Tryz.func45, Tryz.ntmps45
  go_wp2_with fail
  go_quiet (fail)
  go_upto_if 78 with (fail)
  go_cut [14, 15] from 77 to 84 (fun s14 s15 wx => ∃ ex : Int, s14 = .int .i64 ex ∧ s15 = .int .u64 (M : Int) ∧ RowKit.Hid (ex - 1023 - S - 52 = EE ∧ 1 ≤ ex ∧ ex ≤ 2047) ∧ wx = w.drewN nq)
  case first =>
    by_cases h0 : X = 0
    · have hb : ((X : Int) == 0) = true := by rw [beq_iff_eq]; omega
      have hM := HOR.out.2 h0
      subst h0
      subst hM
      go_wp2_with fail
      go_meet
      exact ⟨1, rfl, rfl, Lib.hid ⟨by have := HEE.out 0 rfl; rw [if_pos rfl] at this; omega, by omega, by omega⟩, rfl⟩
    · have hb : ((X : Int) == 0) = false := by rw [beq_eq_false_iff_ne]; omega
      have hM := HOR.out.1 h0
      go_wp2_with fail
      go_meet
      exact ⟨X, rfl, rfl, Lib.hid ⟨by have := HEE.out X rfl; rw [if_neg h0] at this; omega, by omega, by omega⟩, rfl⟩
  case rest =>
    obtain ⟨ex, rfl, rfl, HEX, hw⟩ := hcut
    subst hw
    obtain ⟨hex1, hex2⟩ := HEX.out.2
    have hx2 : ex - 1023 - (S : Int) - 52 = EE := HEX.out.1
    clear HEE HOR HEX h1 h2 hn
    go_wp2_with fail
    refine (HL.out _).mono ?_
    rintro e w' ⟨rfl, rfl⟩
    go_wp2_with fail
    obtain ⟨wA, hwA⟩ : ∃ wA, wA = (w.drewN nq).alloc (.cells (Array.replicate 32 (.int .u8 0)) 88) := ⟨_, rfl⟩
    have hbA : Below base w wA := by rw [hwA]; exact (below_drewN (Below.refl _ w) nq).alloc HS.out.2.1.size _
    have hblk : wA.heap[w.heap.size]? = some (.cells (Array.replicate 32 (.int .u8 0)) 88 (0, 0)) := by rw [hwA]; exact blk_new (w.drewN nq) _
    have hTA := HS.out.2.1.on hbA
    have hvA : wA.ownsRow base 5 1 v 0 [] := by rw [hwA]; exact World.ownsRow.alloc (w := w.drewN nq) HS.out.2.2 _
    have HA := Lib.hid (And.intro hbA (And.intro hblk (And.intro hTA (And.intro hvA (HS.out.1 wA (hTA.pows _ (Below.refl _ _)) (Nat.lt_of_lt_of_le hTA.lt hTA.size))))))
    have HAW := Lib.hid hwA
    clear hbA hblk hTA hvA hwA
    have hEE : ex + -1023 - (S : Int) - 52 = EE := by omega
    rw [hEE]
    have hwA := HAW.out
    have HC := HA.out.2.2.2.2
    rw [hwA] at HC
    refine HC.mono ?_
    rintro e w1 ⟨rfl, hb⟩
    rw [← hwA] at hb
    have hbk : w1.heap[w.heap.size]? = some (.cells (Array.replicate 32 (.int .u8 0)) 88 (0, 0)) := by rw [hb.block _ (lt_of_block HA.out.2.1)]; exact HA.out.2.1
    have hb1 : Below base w w1 := HA.out.1.trans (hb.mono (Nat.le_trans HS.out.2.1.size HA.out.1.size))
    have hv1 := own_below HA.out.2.2.2.1 hb
    have hvb : v.ownBlock ≠ some w.heap.size := fun h => by have := (HS.out.2.2.lt _ h).2; omega
    have HT1 := HS.out.2.1.on hb1
    have hbB : base ≤ w.heap.size := HS.out.2.1.size
    have HDd := Lib.hid (fun n => HD.out w.heap.size _ (w1.drewN n) hbk)
    have HNn := Lib.hid (fun n => HN.out (w1.drewN n) (HT1.tens _ (below_drewN (Below.refl _ _) n)))
    have H1 := Lib.hid (And.intro hb1 (And.intro hv1 (And.intro hvb (And.intro HT1 (And.intro hbB (lt_of_block hbk))))))
    clear hb hbk hb1 hv1 hvb HT1 hbB HC hwA HA HAW
    go_wp2_with fail
    obtain ⟨dp, hdp⟩ : ∃ dp : Int, dp = (Lib.nDigits DD : Int) + PQ := ⟨_, rfl⟩
    simp only [← hdp] at HDd HF
    have HDP := Lib.hid hdp
    clear hdp
    go_cut [22, 23] from 139 to 147 (fun s22 s23 wx => s22 = .int .i64 dp ∧ s23 = .int .i64 (NZ : Int) ∧ RowKit.Hid (DgAt wx w.heap.size DD (Lib.nDigits DD) ∧ Keep (· = w.heap.size) w1 wx))
    case first =>
      go_region_with (first | (go_at_call 59; refine (HNn.out 1).mono ?_; rintro e w' ⟨rfl, rfl⟩) | (go_at_call 58; refine (HDd.out 1).mono ?_; rintro e w' ⟨rfl, hw⟩))
      all_goals
        have hw2 := hw.out
        have HW := Lib.hid hw2
        clear hw hw2
        go_wp2_with fail
        go_meet
        exact ⟨rfl, rfl, Lib.hid ⟨HW.out.1, (((Keep.refl _ w1).drewN 1).trans HW.out.2)⟩⟩
    case rest =>
      obtain ⟨rfl, rfl, HW⟩ := hcut
      have hbk := HW.out.2
      have hv2 := own_keep H1.out.2.1 hbk H1.out.2.2.1
      have hbe : Below base w wc := H1.out.1.trans (hbk.below H1.out.2.2.2.1.size (fun k hk => by rw [hk]; exact H1.out.2.2.2.2.1))
      have hI : Bu wc base w.heap.size v [] wc := ⟨hv2, H1.out.2.2.1, Below.refl _ _, Nat.le_trans HS.out.2.1.size hbe.size, Nat.lt_of_lt_of_le H1.out.2.2.2.2.2 hbk.size, fun _ => rfl⟩
      have HFF := Lib.hid (HF.out w.heap.size wc hI (HDG.out _ _ HW.out.1))
      have HBE := Lib.hid (And.intro hbe HDP.out)
      clear hbk hv2 hbe hI HW HDd HNn H1
      go_wp2_with fail
      refine HFF.out.mono ?_
      rintro e w3 ⟨v', rfl, h'⟩
      have H' := Lib.hid h'
      clear h'
      go_wp2_with fail
      go_ret
      exact ⟨_, rfl, by rw [← HBE.out.2]; exact H'.out.own, HBE.out.1.trans H'.out.below⟩

theorem ftoa_any (u base : Nat) (v : Value) (w : World) (hu : u < 18446744073709551616) (hk : Us.exb u < 2047) (hv : w.ownsRow base 5 1 v 0 []) (hT : Tb base w) :
    Calls Tryz.prog 45 #[v, .float .f64 u, .int .u8 103, .int .i64 (-1)] w (Txt base w (Us.textF u)) := by
  by_cases hm : Sm.mant u = 0
  · exact ftoa_zero u base v w hu hm hv hT
  · exact ftoa_some u base v w hu hk hm hv hT
end Go.Proofs.YtemjlkmlodmmfaaGreatDoor

/- Contract of strconv.FormatFloat, at the shortest form; of real.Text. By an AI agent. -/
namespace Go.Proofs.YtemjlkmlodmmfaaGreatDoor
open Go.ChangeShapes Go.WideShapes Go.ChangeAt Go.RowKit
open Bt
set_option linter.unusedVariables false

/-- A text as a string. -/
def strOf (B : List Nat) : ByteArray := strOfNums (B.map fun n : Nat => (n : Int))

theorem fmtG_pos (neg : Bool) (D : List Nat) (dp : Int) : 0 < (Us.fmtG neg D dp).length := by
  unfold Us.fmtG
  rw [List.length_append]
  by_cases hD : D = []
  · rw [if_pos hD]; simp
  · rw [if_neg hD]
    have hl : 0 < D.length := List.length_pos_iff.2 hD
    by_cases hE : dp - 1 < -4 ∨ 6 ≤ dp - 1
    · rw [if_pos hE]
      unfold Us.fmtE
      rw [List.length_append, List.length_cons]
      omega
    · rw [if_neg hE]
      unfold Us.fmtF
      by_cases hp : 0 < dp
      · rw [if_pos hp, List.length_append, List.length_append, List.length_take]
        omega
      · rw [if_neg hp]
        simp
        omega
theorem textF_pos (u : Nat) : 0 < (Us.textF u).length := by
  unfold Us.textF
  split
  · exact fmtG_pos _ _ _
  · exact fmtG_pos _ _ _

theorem conv_row {base : Nat} {v : Value} {B : List Nat} {w : World} (h : w.ownsRow base 5 1 v B.length (u8s B)) (hB : 0 < B.length) : (convert 72 9 v).run Tryz.prog w = .ok (.string (strOf B)) w := by
  rcases h.2 with ⟨h1, h2⟩ | ⟨g, cap, cells, rfl, -⟩
  · omega
  · refine run_convert_bytes_arg w 72 5 Tryz.underlying72 Tryz.underlying5 g 0 _ cap _ (by simp) (fun i hi => ?_) 9 Tryz.underlying9
    have hc := h.cells rfl i _ (u8s_get B i hi)
    rw [addr_add, Nat.zero_add] at hc
    rw [Nat.zero_add, hc, List.getD_eq_getElem?_getD, List.getD_eq_getElem?_getD, List.getElem?_map, List.getElem?_eq_getElem hi]
    rfl

set_option maxRecDepth 100000 in
set_option maxHeartbeats 2000000 in
theorem iformat_any (u : Nat) (w : World) (hu : u < 18446744073709551616) (hk : Us.exb u < 2047) (hT : Tb w.heap.size w) :
    Calls Tryz.prog 33 #[.float .f64 u, .int .u8 103, .int .i64 (-1), .int .i64 64] w fun e w' => e = .returned (.string (strOf (Us.textF u))) ∧ Below w.heap.size w w' := by
  have hmk : ∀ w : World, (Instr.makeSlice 72 (.int .i64 0) (.int .i64 (max 3 24))).run Tryz.prog w = .ok (.slice (some ⟨w.heap.size, 0, none⟩) 0 24) (w.alloc (.cells (Array.replicate 24 (.int .u8 0)) 5)) := fun _ => by kernel_rfl
  have hown : (w.alloc (.cells (Array.replicate 24 (.int .u8 0)) 5)).ownsRow w.heap.size 5 1 (.slice (some ⟨w.heap.size, 0, none⟩) 0 24) 0 [] := World.ownsRow_made w _ 24 (Nat.le_refl _) (by unfold maxLen; omega) (by simp)
  have hb : Below w.heap.size w (w.alloc (.cells (Array.replicate 24 (.int .u8 0)) 5)) := (Below.refl _ w).alloc (Nat.le_refl _) _
  have HF := Lib.hid (ftoa_any u w.heap.size _ _ hu hk hown (hT.on hb))
  have HB := Lib.hid hb
  clear hb hown hT
  obtain ⟨B, hB⟩ : ∃ B, B = Us.textF u := ⟨_, rfl⟩
  have hpos : 0 < B.length := by rw [hB]; exact textF_pos u
  rw [← hB] at HF ⊢
  clear hB
  go_enter Tryz.func33, Tryz.ntmps33
  go_wp2_with fail
  refine HF.out.mono ?_
  rintro e w1 ⟨v, rfl, hown, hb1⟩
  have hcv := conv_row hown hpos
  have H1 := Lib.hid (HB.out.trans hb1)
  clear hown hb1 HF HB hmk
  go_wp2_with fail
  go_ret
  exact ⟨rfl, H1.out⟩

theorem format_any (u : Nat) (w : World) (hu : u < 18446744073709551616) (hk : Us.exb u < 2047) (hT : Tb w.heap.size w) :
    Calls Tryz.prog 20 #[.float .f64 u, .int .u8 103, .int .i64 (-1), .int .i64 64] w fun e w' => e = .returned (.string (strOf (Us.textF u))) ∧ Below w.heap.size w w' := by
  have HF := Lib.hid (iformat_any u w hu hk hT)
  go_enter Tryz.func20, Tryz.ntmps20
  go_wp2_with fail
  refine HF.out.mono ?_
  rintro e w1 ⟨rfl, hb1⟩
  have H1 := Lib.hid hb1
  clear hb1
  go_wp2_with fail
  go_ret
  exact ⟨rfl, H1.out⟩
end Go.Proofs.YtemjlkmlodmmfaaGreatDoor

/- Package real: kinds of numbers: Class, count. By an AI agent. -/
namespace Go.Proofs.YtemjlkmlodmmfaaGreatDoor.Sm
open Go.ChangeShapes Go.WideShapes Go.ChangeAt Go.RowKit
set_option linter.unusedVariables false
set_option linter.unusedSimpArgs false

/-- Which kind: 0 a NaN, 1 -Inf, 2 +Inf, 3 -0, 4 another one. -/
def kind (u : Nat) : Nat := if 9218868437227405312 < u % 9223372036854775808 then 0 else if u % 9223372036854775808 = 9218868437227405312 then (if u < 9223372036854775808 then 2 else 1) else if u = 9223372036854775808 then 3 else 4
def classF (u : Nat) : Int :=
  if 9218868437227405312 < u % 9223372036854775808 then 1 else
  let above : Int := if u % 9223372036854775808 = 9218868437227405312 then 9 else if 4503599627370496 ≤ u % 9223372036854775808 then 8 else if 0 < u % 9223372036854775808 then 7 else 6
  if u < 9223372036854775808 then above else 11 - above
theorem class_cases (u : Nat) (hu : u < 18446744073709551616) : (kind u = 0 ∧ classF u = 1) ∨ (kind u = 1 ∧ classF u = 2) ∨ (kind u = 2 ∧ classF u = 9) ∨ (kind u = 3 ∧ classF u = 5) ∨
    (kind u = 4 ∧ (classF u = 3 ∨ classF u = 4 ∨ classF u = 6 ∨ classF u = 7 ∨ classF u = 8)) := by
  unfold kind classF
  simp only
  by_cases h1 : 9218868437227405312 < u % 9223372036854775808
  · simp only [if_pos h1]; simp
  · simp only [if_neg h1]
    by_cases h2 : u % 9223372036854775808 = 9218868437227405312
    · simp only [if_pos h2]
      by_cases h3 : u < 9223372036854775808
      · simp only [if_pos h3]; simp
      · simp only [if_neg h3]; simp
    · simp only [if_neg h2]
      by_cases h4 : 4503599627370496 ≤ u % 9223372036854775808
      · have h5 : ¬ u = 9223372036854775808 := by omega
        simp only [if_pos h4, if_neg h5]
        by_cases h3 : u < 9223372036854775808
        · simp only [if_pos h3]; simp
        · simp only [if_neg h3]; simp
      · simp only [if_neg h4]
        by_cases h6 : 0 < u % 9223372036854775808
        · have h5 : ¬ u = 9223372036854775808 := by omega
          simp only [if_pos h6, if_neg h5]
          by_cases h3 : u < 9223372036854775808
          · simp only [if_pos h3]; simp
          · simp only [if_neg h3]; simp
        · simp only [if_neg h6]
          by_cases h3 : u < 9223372036854775808
          · have h5 : ¬ u = 9223372036854775808 := by omega
            simp only [if_pos h3, if_neg h5]; simp
          · have h5 : u = 9223372036854775808 := by omega
            simp only [if_neg h3, if_pos h5]; simp
theorem andNot_top (a : Nat) : bits BinOp.andNot IntKind.u64 (a : Int) 9223372036854775808 = ((a % 9223372036854775808 : Nat) : Int) := by
  have h1 : (BitVec.ofInt 64 (a : Int)).toNat = a % 2 ^ 64 := by rw [BitVec.ofInt_natCast, BitVec.toNat_ofNat]
  have h2 : (~~~ (BitVec.ofInt 64 9223372036854775808)).toNat = 2 ^ 63 - 1 := by decide
  show IntKind.u64.wrap ((BitVec.ofInt 64 (a : Int) &&& ~~~ BitVec.ofInt 64 9223372036854775808).toNat : Int) = _
  rw [BitVec.toNat_and, h1, h2, Nat.and_two_pow_sub_one_eq_mod, IntKind.wrap_u64]
  omega

set_option maxRecDepth 100000 in
set_option maxHeartbeats 4000000 in
theorem class_any (u : Nat) (hu : u < 18446744073709551616) (w : World) :
    Calls Tryz.prog 14 #[.float .f64 u] w fun e w' => e = .returned (.int .i64 (classF u)) ∧ w' = w := by
  have e1 := ext_bits
  have e2 := andNot_top u
  have HC : RowKit.Hid (classF u = (if 9218868437227405312 < u % 9223372036854775808 then 1 else if u < 9223372036854775808 then (if u % 9223372036854775808 = 9218868437227405312 then 9 else if 4503599627370496 ≤ u % 9223372036854775808 then 8 else if 0 < u % 9223372036854775808 then 7 else 6) else 11 - (if u % 9223372036854775808 = 9218868437227405312 then 9 else if 4503599627370496 ≤ u % 9223372036854775808 then 8 else if 0 < u % 9223372036854775808 then 7 else 6))) := Lib.hid rfl
  have HS : RowKit.Hid (u % 9223372036854775808 = 0 → u < 9223372036854775808 ∨ u = 9223372036854775808) := Lib.hid (by intro h; omega)
  clear hu
  generalize u % 9223372036854775808 = s at *
  generalize classF u = c at *
  by_cases h1 : 9218868437227405312 < s
  · have g1 : decide ((s : Int) > 9218868437227405312) = true := by rw [decide_eq_true_eq]; omega
    have g1' : decide (9218868437227405312 < s) = true := by rw [decide_eq_true_eq]; exact h1
    have hv : c = 1 := by
      have h := HC.out
      simp only [if_pos h1] at h
      exact h
    have HV := Lib.hid hv
    clear hv h1
    go_enter Tryz.func14, Tryz.ntmps14
    go_wp2_with fail
    go_ret
    refine ⟨?_, rfl⟩
    rw [HV.out]
    rfl
  have g1 : decide ((s : Int) > 9218868437227405312) = false := by rw [decide_eq_false_iff_not]; omega
  have g1' : decide (9218868437227405312 < s) = false := by rw [decide_eq_false_iff_not]; exact h1
  by_cases h2 : s = 9218868437227405312
  · by_cases h3 : u < 9223372036854775808
    · have g2 : ((s : Int) == 9218868437227405312) = true := by rw [beq_iff_eq]; omega
      have k1 : decide ((u : Int) < 9223372036854775808) = true := by rw [decide_eq_true_eq]; omega
      have k1' : decide (u < 9223372036854775808) = true := by rw [decide_eq_true_eq]; exact h3
      have hv : c = 9 := by
        have h := HC.out
        simp only [if_neg h1] at h
        simp only [if_pos h3] at h
        simp only [if_pos h2] at h
        exact h
      have HV := Lib.hid hv
      clear hv h2 h1 h3
      go_enter Tryz.func14, Tryz.ntmps14
      go_wp2_with fail
      go_ret
      refine ⟨?_, rfl⟩
      rw [HV.out]
      rfl
    · have g2 : ((s : Int) == 9218868437227405312) = true := by rw [beq_iff_eq]; omega
      have k1 : decide ((u : Int) < 9223372036854775808) = false := by rw [decide_eq_false_iff_not]; omega
      have k1' : decide (u < 9223372036854775808) = false := by rw [decide_eq_false_iff_not]; exact h3
      have hv : c = 2 := by
        have h := HC.out
        simp only [if_neg h1] at h
        simp only [if_neg h3] at h
        simp only [if_pos h2] at h
        exact h
      have HV := Lib.hid hv
      clear hv h2 h1 h3
      go_enter Tryz.func14, Tryz.ntmps14
      go_wp2_with fail
      go_ret
      refine ⟨?_, rfl⟩
      rw [HV.out]
      rfl
  have g2 : ((s : Int) == 9218868437227405312) = false := by rw [beq_eq_false_iff_ne]; omega
  by_cases h4 : 4503599627370496 ≤ s
  · by_cases h3 : u < 9223372036854775808
    · have g3 : decide ((s : Int) ≥ 4503599627370496) = true := by rw [decide_eq_true_eq]; omega
      have g3' : decide (4503599627370496 ≤ s) = true := by rw [decide_eq_true_eq]; exact h4
      have k1 : decide ((u : Int) < 9223372036854775808) = true := by rw [decide_eq_true_eq]; omega
      have k1' : decide (u < 9223372036854775808) = true := by rw [decide_eq_true_eq]; exact h3
      have hv : c = 8 := by
        have h := HC.out
        simp only [if_neg h1] at h
        simp only [if_pos h3] at h
        simp only [if_neg h2] at h
        simp only [if_pos h4] at h
        exact h
      have HV := Lib.hid hv
      clear hv h4 h2 h1 h3
      go_enter Tryz.func14, Tryz.ntmps14
      go_wp2_with fail
      go_ret
      refine ⟨?_, rfl⟩
      rw [HV.out]
      rfl
    · have g3 : decide ((s : Int) ≥ 4503599627370496) = true := by rw [decide_eq_true_eq]; omega
      have g3' : decide (4503599627370496 ≤ s) = true := by rw [decide_eq_true_eq]; exact h4
      have k1 : decide ((u : Int) < 9223372036854775808) = false := by rw [decide_eq_false_iff_not]; omega
      have k1' : decide (u < 9223372036854775808) = false := by rw [decide_eq_false_iff_not]; exact h3
      have hv : c = 3 := by
        have h := HC.out
        simp only [if_neg h1] at h
        simp only [if_neg h3] at h
        simp only [if_neg h2] at h
        simp only [if_pos h4] at h
        exact h
      have HV := Lib.hid hv
      clear hv h4 h2 h1 h3
      go_enter Tryz.func14, Tryz.ntmps14
      go_wp2_with fail
      go_ret
      refine ⟨?_, rfl⟩
      rw [HV.out]
      rfl
  have g3 : decide ((s : Int) ≥ 4503599627370496) = false := by rw [decide_eq_false_iff_not]; omega
  have g3' : decide (4503599627370496 ≤ s) = false := by rw [decide_eq_false_iff_not]; exact h4
  by_cases h5 : 0 < s
  · by_cases h3 : u < 9223372036854775808
    · have g4 : decide ((s : Int) > 0) = true := by rw [decide_eq_true_eq]; omega
      have g4' : decide (0 < s) = true := by rw [decide_eq_true_eq]; exact h5
      have k1 : decide ((u : Int) < 9223372036854775808) = true := by rw [decide_eq_true_eq]; omega
      have k1' : decide (u < 9223372036854775808) = true := by rw [decide_eq_true_eq]; exact h3
      have hv : c = 7 := by
        have h := HC.out
        simp only [if_neg h1] at h
        simp only [if_pos h3] at h
        simp only [if_neg h2] at h
        simp only [if_neg h4] at h
        simp only [if_pos h5] at h
        exact h
      have HV := Lib.hid hv
      clear hv h5 h4 h2 h1 h3
      go_enter Tryz.func14, Tryz.ntmps14
      go_wp2_with fail
      go_ret
      refine ⟨?_, rfl⟩
      rw [HV.out]
      rfl
    · have g4 : decide ((s : Int) > 0) = true := by rw [decide_eq_true_eq]; omega
      have g4' : decide (0 < s) = true := by rw [decide_eq_true_eq]; exact h5
      have k1 : decide ((u : Int) < 9223372036854775808) = false := by rw [decide_eq_false_iff_not]; omega
      have k1' : decide (u < 9223372036854775808) = false := by rw [decide_eq_false_iff_not]; exact h3
      have hv : c = 4 := by
        have h := HC.out
        simp only [if_neg h1] at h
        simp only [if_neg h3] at h
        simp only [if_neg h2] at h
        simp only [if_neg h4] at h
        simp only [if_pos h5] at h
        exact h
      have HV := Lib.hid hv
      clear hv h5 h4 h2 h1 h3
      go_enter Tryz.func14, Tryz.ntmps14
      go_wp2_with fail
      go_ret
      refine ⟨?_, rfl⟩
      rw [HV.out]
      rfl
  · by_cases h3 : u < 9223372036854775808
    · have g4 : decide ((s : Int) > 0) = false := by rw [decide_eq_false_iff_not]; omega
      have g4' : decide (0 < s) = false := by rw [decide_eq_false_iff_not]; exact h5
      have k1 : decide ((u : Int) < 9223372036854775808) = true := by rw [decide_eq_true_eq]; omega
      have k1' : decide (u < 9223372036854775808) = true := by rw [decide_eq_true_eq]; exact h3
      have hv : c = 6 := by
        have h := HC.out
        simp only [if_neg h1] at h
        simp only [if_pos h3] at h
        simp only [if_neg h2] at h
        simp only [if_neg h4] at h
        simp only [if_neg h5] at h
        exact h
      have HV := Lib.hid hv
      clear hv h5 h4 h2 h1 h3
      go_enter Tryz.func14, Tryz.ntmps14
      go_wp2_with fail
      go_ret
      refine ⟨?_, rfl⟩
      rw [HV.out]
      rfl
    · have g4 : decide ((s : Int) > 0) = false := by rw [decide_eq_false_iff_not]; omega
      have g4' : decide (0 < s) = false := by rw [decide_eq_false_iff_not]; exact h5
      have k1 : decide ((u : Int) < 9223372036854775808) = false := by rw [decide_eq_false_iff_not]; omega
      have k1' : decide (u < 9223372036854775808) = false := by rw [decide_eq_false_iff_not]; exact h3
      have hv : c = 5 := by
        have h := HC.out
        simp only [if_neg h1] at h
        simp only [if_neg h3] at h
        simp only [if_neg h2] at h
        simp only [if_neg h4] at h
        simp only [if_neg h5] at h
        exact h
      have HV := Lib.hid hv
      clear hv h5 h4 h2 h1 h3
      go_enter Tryz.func14, Tryz.ntmps14
      go_wp2_with fail
      go_ret
      refine ⟨?_, rfl⟩
      rw [HV.out]
      rfl

/-- What was counted. -/
structure Sn where
  n : Nat
  l : Nat
  g : Nat
  o : Nat
  m : Nat
def snA (s : Sn) : Array Value := #[.int .i64 (s.n : Int), .int .i64 (s.l : Int), .int .i64 (s.g : Int), .int .i64 (s.o : Int), .int .i64 (s.m : Int)]
def bump (s : Sn) (u : Nat) : Sn := if kind u = 0 then { s with n := s.n + 1 } else if kind u = 1 then { s with l := s.l + 1 } else if kind u = 2 then { s with g := s.g + 1 } else if kind u = 3 then { s with m := s.m + 1 } else { s with o := s.o + 1 }
def SnAt (w : World) (b : Nat) (s : Sn) : Prop := w.heap[b]? = some (.cells (snA s) 56 (0, 0))
def Sn.few (s : Sn) (k : Nat) : Prop := s.n ≤ k ∧ s.l ≤ k ∧ s.g ≤ k ∧ s.o ≤ k ∧ s.m ≤ k
theorem bump_few {s : Sn} {k : Nat} (h : s.few k) (u : Nat) : (bump s u).few (k + 1) := by
  obtain ⟨h1, h2, h3, h4, h5⟩ := h
  unfold bump
  split
  · exact ⟨by simp; omega, by simp; omega, by simp; omega, by simp; omega, by simp; omega⟩
  · split
    · exact ⟨by simp; omega, by simp; omega, by simp; omega, by simp; omega, by simp; omega⟩
    · split
      · exact ⟨by simp; omega, by simp; omega, by simp; omega, by simp; omega, by simp; omega⟩
      · split
        · exact ⟨by simp; omega, by simp; omega, by simp; omega, by simp; omega, by simp; omega⟩
        · exact ⟨by simp; omega, by simp; omega, by simp; omega, by simp; omega, by simp; omega⟩

set_option maxRecDepth 100000 in
set_option maxHeartbeats 4000000 in
theorem count_any {w : World} {b : Nat} {s : Sn} (h : SnAt w b s) {k : Nat} (hk : s.few k) (hk2 : k ≤ 1000000000) (u : Nat) (hu : u < 18446744073709551616) :
    Calls Tryz.prog 28 #[.pointer (some ⟨b, 0, none⟩), .float .f64 u] w fun e w' => e = .returned (.bool (decide (kind u = 4))) ∧ Hid (SnAt w' b (bump s u) ∧ Keep (· = b) w w') := by
  have HC := Lib.hid (class_any u hu w)
  have hcc := class_cases u hu
  have HH := Lib.hid h
  obtain ⟨k1, k2, k3, k4, k5⟩ := hk
  obtain ⟨n, l, g, o, m⟩ := s
  simp only at k1 k2 k3 k4 k5
  have c0 : w.cell? ⟨b, 0, none⟩ = some (.int .i64 (n : Int)) := blk_cell h 0
  have c1 : w.cell? ⟨b, 1, none⟩ = some (.int .i64 (l : Int)) := blk_cell h 1
  have c2 : w.cell? ⟨b, 2, none⟩ = some (.int .i64 (g : Int)) := blk_cell h 2
  have c3 : w.cell? ⟨b, 3, none⟩ = some (.int .i64 (o : Int)) := blk_cell h 3
  have c4 : w.cell? ⟨b, 4, none⟩ = some (.int .i64 (m : Int)) := blk_cell h 4
  have f0 : w.frozen? ⟨b, 0, none⟩ = false := blk_free h 0
  have f1 : w.frozen? ⟨b, 1, none⟩ = false := blk_free h 1
  have f2 : w.frozen? ⟨b, 2, none⟩ = false := blk_free h 2
  have f3 : w.frozen? ⟨b, 3, none⟩ = false := blk_free h 3
  have f4 : w.frozen? ⟨b, 4, none⟩ = false := blk_free h 4
  clear h
  have HB : RowKit.Hid (bump ⟨n, l, g, o, m⟩ u = if kind u = 0 then ⟨n + 1, l, g, o, m⟩ else if kind u = 1 then ⟨n, l + 1, g, o, m⟩ else if kind u = 2 then ⟨n, l, g + 1, o, m⟩ else if kind u = 3 then ⟨n, l, g, o, m + 1⟩ else ⟨n, l, g, o + 1, m⟩) := Lib.hid rfl
  generalize bump ⟨n, l, g, o, m⟩ u = s' at *
  generalize kind u = kd at *
  generalize classF u = c at *
  rcases hcc with ⟨rfl, rfl⟩ | ⟨rfl, rfl⟩ | ⟨rfl, rfl⟩ | ⟨rfl, rfl⟩ | ⟨rfl, hcc⟩
  · go_enter Tryz.func28, Tryz.ntmps28
    go_wp2_with (go_at_call 14
                 refine HC.out.mono ?_
                 rintro e w2 ⟨rfl, rfl⟩)
    go_ret
    have hb := HB.out
    simp only [if_true] at hb
    subst hb
    refine ⟨rfl, Lib.hid ⟨?_, Keep.setCell (bs := (· = b)) (Keep.refl _ _) (p := ⟨b, 0, none⟩) (Or.inl rfl) _⟩⟩
    have := blk_set HH.out 0 (.int .i64 ((n : Int) + 1))
    exact this
  · go_enter Tryz.func28, Tryz.ntmps28
    go_wp2_with (go_at_call 14
                 refine HC.out.mono ?_
                 rintro e w2 ⟨rfl, rfl⟩)
    go_ret
    have hb := HB.out
    simp only [if_neg (show ¬ (1 : Nat) = 0 by decide), if_pos (show (1 : Nat) = 1 from rfl)] at hb
    subst hb
    refine ⟨rfl, Lib.hid ⟨?_, Keep.setCell (bs := (· = b)) (Keep.refl _ _) (p := ⟨b, 1, none⟩) (Or.inl rfl) _⟩⟩
    have := blk_set HH.out 1 (.int .i64 ((l : Int) + 1))
    exact this
  · go_enter Tryz.func28, Tryz.ntmps28
    go_wp2_with (go_at_call 14
                 refine HC.out.mono ?_
                 rintro e w2 ⟨rfl, rfl⟩)
    go_ret
    have hb := HB.out
    simp only [if_neg (show ¬ (2 : Nat) = 0 by decide), if_neg (show ¬ (2 : Nat) = 1 by decide), if_pos (show (2 : Nat) = 2 from rfl)] at hb
    subst hb
    refine ⟨rfl, Lib.hid ⟨?_, Keep.setCell (bs := (· = b)) (Keep.refl _ _) (p := ⟨b, 2, none⟩) (Or.inl rfl) _⟩⟩
    have := blk_set HH.out 2 (.int .i64 ((g : Int) + 1))
    exact this
  · go_enter Tryz.func28, Tryz.ntmps28
    go_wp2_with (go_at_call 14
                 refine HC.out.mono ?_
                 rintro e w2 ⟨rfl, rfl⟩)
    go_ret
    have hb := HB.out
    simp only [if_neg (show ¬ (3 : Nat) = 0 by decide), if_neg (show ¬ (3 : Nat) = 1 by decide), if_neg (show ¬ (3 : Nat) = 2 by decide), if_pos (show (3 : Nat) = 3 from rfl)] at hb
    subst hb
    refine ⟨rfl, Lib.hid ⟨?_, Keep.setCell (bs := (· = b)) (Keep.refl _ _) (p := ⟨b, 4, none⟩) (Or.inl rfl) _⟩⟩
    have := blk_set HH.out 4 (.int .i64 ((m : Int) + 1))
    exact this
  · rcases hcc with rfl | rfl | rfl | rfl | rfl
    · go_enter Tryz.func28, Tryz.ntmps28
      go_wp2_with (go_at_call 14
                   refine HC.out.mono ?_
                   rintro e w2 ⟨rfl, rfl⟩)
      go_ret
      have hb := HB.out
      simp only [if_neg (show ¬ (4 : Nat) = 0 by decide), if_neg (show ¬ (4 : Nat) = 1 by decide), if_neg (show ¬ (4 : Nat) = 2 by decide), if_neg (show ¬ (4 : Nat) = 3 by decide)] at hb
      subst hb
      refine ⟨rfl, Lib.hid ⟨?_, Keep.setCell (bs := (· = b)) (Keep.refl _ _) (p := ⟨b, 3, none⟩) (Or.inl rfl) _⟩⟩
      have := blk_set HH.out 3 (.int .i64 ((o : Int) + 1))
      exact this
    · go_enter Tryz.func28, Tryz.ntmps28
      go_wp2_with (go_at_call 14
                   refine HC.out.mono ?_
                   rintro e w2 ⟨rfl, rfl⟩)
      go_ret
      have hb := HB.out
      simp only [if_neg (show ¬ (4 : Nat) = 0 by decide), if_neg (show ¬ (4 : Nat) = 1 by decide), if_neg (show ¬ (4 : Nat) = 2 by decide), if_neg (show ¬ (4 : Nat) = 3 by decide)] at hb
      subst hb
      refine ⟨rfl, Lib.hid ⟨?_, Keep.setCell (bs := (· = b)) (Keep.refl _ _) (p := ⟨b, 3, none⟩) (Or.inl rfl) _⟩⟩
      have := blk_set HH.out 3 (.int .i64 ((o : Int) + 1))
      exact this
    · go_enter Tryz.func28, Tryz.ntmps28
      go_wp2_with (go_at_call 14
                   refine HC.out.mono ?_
                   rintro e w2 ⟨rfl, rfl⟩)
      go_ret
      have hb := HB.out
      simp only [if_neg (show ¬ (4 : Nat) = 0 by decide), if_neg (show ¬ (4 : Nat) = 1 by decide), if_neg (show ¬ (4 : Nat) = 2 by decide), if_neg (show ¬ (4 : Nat) = 3 by decide)] at hb
      subst hb
      refine ⟨rfl, Lib.hid ⟨?_, Keep.setCell (bs := (· = b)) (Keep.refl _ _) (p := ⟨b, 3, none⟩) (Or.inl rfl) _⟩⟩
      have := blk_set HH.out 3 (.int .i64 ((o : Int) + 1))
      exact this
    · go_enter Tryz.func28, Tryz.ntmps28
      go_wp2_with (go_at_call 14
                   refine HC.out.mono ?_
                   rintro e w2 ⟨rfl, rfl⟩)
      go_ret
      have hb := HB.out
      simp only [if_neg (show ¬ (4 : Nat) = 0 by decide), if_neg (show ¬ (4 : Nat) = 1 by decide), if_neg (show ¬ (4 : Nat) = 2 by decide), if_neg (show ¬ (4 : Nat) = 3 by decide)] at hb
      subst hb
      refine ⟨rfl, Lib.hid ⟨?_, Keep.setCell (bs := (· = b)) (Keep.refl _ _) (p := ⟨b, 3, none⟩) (Or.inl rfl) _⟩⟩
      have := blk_set HH.out 3 (.int .i64 ((o : Int) + 1))
      exact this
    · go_enter Tryz.func28, Tryz.ntmps28
      go_wp2_with (go_at_call 14
                   refine HC.out.mono ?_
                   rintro e w2 ⟨rfl, rfl⟩)
      go_ret
      have hb := HB.out
      simp only [if_neg (show ¬ (4 : Nat) = 0 by decide), if_neg (show ¬ (4 : Nat) = 1 by decide), if_neg (show ¬ (4 : Nat) = 2 by decide), if_neg (show ¬ (4 : Nat) = 3 by decide)] at hb
      subst hb
      refine ⟨rfl, Lib.hid ⟨?_, Keep.setCell (bs := (· = b)) (Keep.refl _ _) (p := ⟨b, 3, none⟩) (Or.inl rfl) _⟩⟩
      have := blk_set HH.out 3 (.int .i64 ((o : Int) + 1))
      exact this
end Go.Proofs.YtemjlkmlodmmfaaGreatDoor.Sm

/- Contract of real.Text, of any number. By an AI agent. -/
namespace Go.Proofs.YtemjlkmlodmmfaaGreatDoor
open Go.ChangeShapes Go.WideShapes Go.ChangeAt Go.RowKit
open Bt
set_option linter.unusedVariables false

/-- What Text writes of a number, by its bits. -/
def txt (u : Nat) : ByteArray :=
  if 9218868437227405312 < u % 9223372036854775808 then ⟨#[110, 97, 110]⟩
  else if u % 9223372036854775808 = 9218868437227405312 then (if u < 9223372036854775808 then ⟨#[105, 110, 102]⟩ else ⟨#[45, 105, 110, 102]⟩)
  else strOf (Us.textF u)

theorem txt_eq (u : Nat) : txt u = (if 9218868437227405312 < u % 9223372036854775808 then ⟨#[110, 97, 110]⟩
  else if u % 9223372036854775808 = 9218868437227405312 then (if u < 9223372036854775808 then ⟨#[105, 110, 102]⟩ else ⟨#[45, 105, 110, 102]⟩)
  else strOf (Us.textF u)) := rfl
theorem class_says (u : Nat) : (9218868437227405312 < u % 9223372036854775808 → Sm.classF u = 1) ∧ (u % 9223372036854775808 = 9218868437227405312 → u < 9223372036854775808 → Sm.classF u = 9) ∧ (u % 9223372036854775808 = 9218868437227405312 → ¬ u < 9223372036854775808 → Sm.classF u = 2) ∧
    (u % 9223372036854775808 < 9218868437227405312 → 3 ≤ Sm.classF u ∧ Sm.classF u ≤ 8) := by
  have h : Sm.classF u = (if 9218868437227405312 < u % 9223372036854775808 then 1 else if u < 9223372036854775808 then (if u % 9223372036854775808 = 9218868437227405312 then 9 else if 4503599627370496 ≤ u % 9223372036854775808 then 8 else if 0 < u % 9223372036854775808 then 7 else 6) else 11 - (if u % 9223372036854775808 = 9218868437227405312 then 9 else if 4503599627370496 ≤ u % 9223372036854775808 then 8 else if 0 < u % 9223372036854775808 then 7 else 6)) := rfl
  refine ⟨fun a => ?_, fun a b => ?_, fun a b => ?_, fun a => ?_⟩ <;> rw [h]
  · rw [if_pos a]
  · rw [if_neg (by omega), if_pos b, if_pos a]
  · rw [if_neg (by omega), if_neg b, if_pos a]; rfl
  · rw [if_neg (by omega)]
    have n : ¬ u % 9223372036854775808 = 9218868437227405312 := by omega
    simp only [if_neg n]
    split <;> split <;> first | omega | (split <;> omega)

set_option maxRecDepth 100000 in
set_option maxHeartbeats 2000000 in
theorem text_any (u : Nat) (w : World) (hu : u < 18446744073709551616) (hT : Tb w.heap.size w) :
    Calls Tryz.prog 6 #[.float .f64 u] w fun e w' => e = .returned (.string (txt u)) ∧ Below w.heap.size w w' := by
  have hcs := class_says u
  have HC := Lib.hid (Sm.class_any u hu)
  have hfin : u % 9223372036854775808 < 9218868437227405312 → Us.exb u < 2047 := fun h => by
    show u / 2 ^ 52 % 2048 < 2047
    omega
  have HX := Lib.hid (And.intro hfin hT)
  have HTX := Lib.hid (txt_eq u)
  have HR := Lib.hid hcs
  generalize Sm.classF u = c at *
  generalize txt u = tx at *
  clear hcs hfin hT
  by_cases h1 : 9218868437227405312 < u % 9223372036854775808
  · have e1 := HR.out.1 h1
    have e2 := HTX.out
    rw [if_pos h1] at e2
    subst e1 e2
    clear HR HTX HX h1
    go_enter Tryz.func6, Tryz.ntmps6
    go_wp2_with fail
    refine (HC.out _).mono ?_
    rintro e w' ⟨rfl, hw⟩
    obtain rfl : w = w' := hw.symm
    go_wp2_with fail
    go_ret
    exact ⟨rfl, Below.refl _ _⟩
  · by_cases h2 : u % 9223372036854775808 = 9218868437227405312
    · by_cases h3 : u < 9223372036854775808
      · have e1 := HR.out.2.1 h2 h3
        have e2 := HTX.out
        rw [if_neg h1, if_pos h2, if_pos h3] at e2
        subst e1 e2
        clear HR HTX HX h1 h2 h3
        go_enter Tryz.func6, Tryz.ntmps6
        go_wp2_with fail
        refine (HC.out _).mono ?_
        rintro e w' ⟨rfl, hw⟩
        obtain rfl : w = w' := hw.symm
        go_wp2_with fail
        go_ret
        exact ⟨rfl, Below.refl _ _⟩
      · have e1 := HR.out.2.2.1 h2 h3
        have e2 := HTX.out
        rw [if_neg h1, if_pos h2, if_neg h3] at e2
        subst e1 e2
        clear HR HTX HX h1 h2 h3
        go_enter Tryz.func6, Tryz.ntmps6
        go_wp2_with fail
        refine (HC.out _).mono ?_
        rintro e w' ⟨rfl, hw⟩
        obtain rfl : w = w' := hw.symm
        go_wp2_with fail
        go_ret
        exact ⟨rfl, Below.refl _ _⟩
    · have e1 := HR.out.2.2.2 (by omega)
      have e2 := HTX.out
      rw [if_neg h1, if_neg h2] at e2
      subst e2
      have HF := Lib.hid (format_any u w hu (HX.out.1 (by omega)) HX.out.2)
      have b1 : (c == 1) = false := by rw [beq_eq_false_iff_ne]; omega
      have b2 : (c == 2) = false := by rw [beq_eq_false_iff_ne]; omega
      have b9 : (c == 9) = false := by rw [beq_eq_false_iff_ne]; omega
      clear HR HTX HX h1 h2 e1
      generalize strOf (Us.textF u) = st at *
      go_enter Tryz.func6, Tryz.ntmps6
      go_wp2_with fail
      refine (HC.out _).mono ?_
      rintro e w' ⟨rfl, hw⟩
      obtain rfl : w = w' := hw.symm
      go_wp2_with fail
      refine HF.out.mono ?_
      rintro e w1 ⟨rfl, hb⟩
      have HB := Lib.hid hb
      clear hb
      go_wp2_with fail
      go_ret
      exact ⟨rfl, HB.out⟩

/-- 0.5. -/
theorem txt_half : txt 4602678819172646912 = ⟨#[48, 46, 53]⟩ := by decide +kernel
end Go.Proofs.YtemjlkmlodmmfaaGreatDoor

/- Contract of real.Read at the text of minus nought. By an AI agent. -/
namespace Go.Proofs.YtemjlkmlodmmfaaGreatDoor
open Go.ChangeShapes Go.WideShapes Go.ChangeAt Go.RowKit
open Bt
set_option linter.unusedVariables false

/-- strconv's switch is on. -/
def Opt (w : World) : Prop := w.cell? ⟨1, 0, none⟩ = some (.bool true)

set_option maxRecDepth 100000 in
set_option maxHeartbeats 2000000 in
theorem prefix_zero (w : World) : Calls Tryz.prog 111 #[.string ⟨#[48]⟩, .string ⟨#[105, 110, 102, 105, 110, 105, 116, 121]⟩] w fun e w' => e = .returned (.int .i64 0) ∧ ∃ n, w' = w.drewN n := by
  go_enter Tryz.func111, Tryz.ntmps111
  go_wp2_with fail
  refine wp_loop_rounds 1 ?_
  rw [rounds_succ]
  go_wp2_with fail
  go_ret
  exact ⟨rfl, 0, rfl⟩

set_option maxRecDepth 100000 in
set_option maxHeartbeats 2000000 in
theorem readFloat_zero (w : World) : Calls Tryz.prog 93 #[.string ⟨#[45, 48]⟩] w fun e w' => e = .returned (.tuple #[.int .u64 0, .int .i64 0, .bool true, .bool false, .bool false, .int .i64 2, .bool true]) ∧ ∃ n, w' = w.drewN n := by
  go_enter Tryz.func93, Tryz.ntmps93
  go_wp2_with fail
  go_step3
  go_wp2_with fail
  go_step3
  go_wp2_with fail
  refine wp_loop_rounds 2 ?_
  rw [rounds_succ]
  go_wp2_with fail
  rw [rounds_succ]
  go_wp2_with fail
  rw [Exit.noGoto_ret]
  exact bodyPost_ret (v := .tuple #[.int .u64 0, .int .i64 0, .bool true, .bool false, .bool false, .int .i64 2, .bool true]) (by simp [results, Tryz.results93, go_sem]) rfl ⟨rfl, 0, rfl⟩

set_option maxRecDepth 100000 in
set_option maxHeartbeats 2000000 in
theorem special_zero (w : World) : Calls Tryz.prog 92 #[.string ⟨#[45, 48]⟩] w fun e w' => e = .returned (.tuple #[.float .f64 0, .int .i64 0, .bool false]) ∧ ∃ n, w' = w.drewN n := by
  go_enter Tryz.func92, Tryz.ntmps92
  go_wp2_with fail
  rw [show (⟨#[45, 48]⟩ : ByteArray).extract 1 2 = ⟨#[48]⟩ from by decide +kernel]
  refine (prefix_zero _).mono ?_
  rintro e w1 ⟨rfl, n, rfl⟩
  go_wp2_with fail
  exact bodyPost_ret (v := .tuple #[.float .f64 0, .int .i64 0, .bool false]) (by simp [results, Tryz.results92, go_sem]) rfl ⟨rfl, n, rfl⟩

set_option maxRecDepth 100000 in
set_option maxHeartbeats 2000000 in
theorem atof_zero (w : World) (hopt : Opt w) : Calls Tryz.prog 67 #[.string ⟨#[45, 48]⟩] w fun e w' => e = .returned (.tuple #[.float .f64 9223372036854775808, .int .i64 2, .nilIface]) ∧ ∃ n, w' = w.drewN n := by
  unfold Opt at hopt
  go_enter Tryz.func67, Tryz.ntmps67
  go_wp2_with fail
  refine (special_zero _).mono ?_
  rintro e w1 ⟨rfl, n, rfl⟩
  go_wp2_with fail
  refine (readFloat_zero _).mono ?_
  rintro e w1 ⟨rfl, m, rfl⟩
  go_wp2_with fail
  refine (bool_u64 true _).mono ?_
  rintro e w1 ⟨rfl, hw⟩
  subst hw
  have hf := ext_sfrom
  go_wp2_with fail
  exact bodyPost_ret (v := .tuple #[.float .f64 (bits BinOp.or IntKind.u64 9223372036854775808 0).toNat, .int .i64 2, .nilIface]) (by simp [results, Tryz.results67, go_sem]) rfl ⟨by rw [show (bits BinOp.or IntKind.u64 9223372036854775808 0).toNat = 9223372036854775808 from by decide +kernel], n + m, rfl⟩

set_option maxRecDepth 100000 in
set_option maxHeartbeats 2000000 in
theorem prefix_any (w : World) (hopt : Opt w) : Calls Tryz.prog 46 #[.string ⟨#[45, 48]⟩, .int .i64 64] w fun e w' => e = .returned (.tuple #[.float .f64 9223372036854775808, .int .i64 2, .nilIface]) ∧ ∃ n, w' = w.drewN n := by
  have HO := Lib.hid hopt
  clear hopt
  go_enter Tryz.func46, Tryz.ntmps46
  go_wp2_with fail
  refine (atof_zero _ HO.out).mono ?_
  rintro e w1 ⟨rfl, n, rfl⟩
  go_wp2_with fail
  exact bodyPost_ret (v := .tuple #[.float .f64 9223372036854775808, .int .i64 2, .nilIface]) (by simp [results, Tryz.results46, go_sem]) rfl ⟨rfl, n, rfl⟩

set_option maxRecDepth 100000 in
set_option maxHeartbeats 2000000 in
theorem iparse_zero (w : World) (hopt : Opt w) : Calls Tryz.prog 34 #[.string ⟨#[45, 48]⟩, .int .i64 64] w fun e w' => e = .returned (.tuple #[.float .f64 9223372036854775808, .nilIface]) ∧ ∃ n, w' = w.drewN n := by
  have HO := Lib.hid hopt
  clear hopt
  go_enter Tryz.func34, Tryz.ntmps34
  go_wp2_with fail
  refine (prefix_any _ HO.out).mono ?_
  rintro e w1 ⟨rfl, n, rfl⟩
  go_wp2_with fail
  go_ret2
  exact ⟨rfl, n, rfl⟩

set_option maxRecDepth 100000 in
set_option maxHeartbeats 2000000 in
theorem parse_zero (w : World) (hopt : Opt w) : Calls Tryz.prog 23 #[.string ⟨#[45, 48]⟩, .int .i64 64] w fun e w' => e = .returned (.tuple #[.float .f64 9223372036854775808, .nilIface]) ∧ ∃ n, w' = w.drewN n := by
  have HO := Lib.hid hopt
  clear hopt
  go_enter Tryz.func23, Tryz.ntmps23
  go_wp2_with fail
  refine (iparse_zero _ HO.out).mono ?_
  rintro e w1 ⟨rfl, n, rfl⟩
  go_wp2_with fail
  go_ret2
  exact ⟨rfl, n, rfl⟩

theorem txt_minus : txt 9223372036854775808 = ⟨#[45, 48]⟩ := by decide +kernel

set_option maxRecDepth 100000 in
set_option maxHeartbeats 2000000 in
theorem read_zero (w : World) (hopt : Opt w) (hT : Tb w.heap.size w) : Calls Tryz.prog 7 #[.string ⟨#[45, 48]⟩] w fun e w' => e = .returned (.tuple #[.float .f64 9223372036854775808, .int .i64 0]) ∧ Below w.heap.size w w' := by
  have hX := fun n => text_any 9223372036854775808 (w.drewN n) (by omega) (hT.on (below_drewN (Below.refl _ w) n))
  rw [txt_minus] at hX
  have HX := Lib.hid hX
  clear hX
  have HO := Lib.hid hopt
  clear hopt
  go_enter Tryz.func7, Tryz.ntmps7
  go_wp2_with fail
  refine (parse_zero _ HO.out).mono ?_
  rintro e w1 ⟨rfl, n, rfl⟩
  go_wp2_with fail
  refine (HX.out n).mono ?_
  rintro e w1 ⟨rfl, hb⟩
  have HB := Lib.hid ((below_drewN (Below.refl w.heap.size w) n).trans hb)
  clear hb
  go_wp2_with fail
  go_ret2
  exact ⟨rfl, HB.out⟩
end Go.Proofs.YtemjlkmlodmmfaaGreatDoor
