/- Contract of strconv's ftoa64, at the shortest form. By an AI agent. -/
import Derived.Test.YtipkiiblghnoiaaGreatDoorFtH
namespace Go.Proofs.YtipkiiblghnoiaaGreatDoor
open Go.ChangeShapes Go.WideShapes Go.ChangeAt Go.RowKit
open Bt
set_option linter.unusedVariables false

/-- The tables that strconv reads, whatever is done from a block on. -/
structure Tb (B : Nat) (w : World) : Prop where
  pows : ∀ w', Below B w w' → Pows w'
  tens : Lib.TabBelow Tryz.prog B w "internal/strconv.uint64pow10" .u64 Lib.pow10Tab
  lt : 10 < B
  size : B ≤ w.heap.size
theorem Tb.on {B : Nat} {w w' : World} (h : Tb B w) (hb : Below B w w') : Tb B w' :=
  ⟨fun w2 h2 => h.pows w2 (hb.trans h2), fun w2 h2 => h.tens w2 (hb.trans h2), h.lt, Nat.le_trans h.size hb.size⟩

theorem ext_sbits (x : Nat) (w : World) : (callFunc 85 #[.float .f64 x]).run Tryz.prog w = .ok (.value (.int .u64 x)) w := by kernel_rfl
theorem ext_sfrom (x : Int) (w : World) : (callFunc 108 #[.int .u64 x]).run Tryz.prog w = .ok (.value (.float .f64 x.toNat)) w := by kernel_rfl

/-- What ftoa64 leaves: the text, in a row of the call's own. -/
def Txt (base : Nat) (w : World) (B : List Nat) (e : Ending) (w' : World) : Prop :=
  ∃ v', e = .returned v' ∧ w'.ownsRow base 5 1 v' B.length (u8s B) ∧ Below base w w'

set_option maxRecDepth 100000 in
set_option maxHeartbeats 2000000 in
theorem ftoa_zero (u base : Nat) (v : Value) (w : World) (hu : u < 18446744073709551616) (hm : Sm.mant u = 0) (hv : w.ownsRow base 5 1 v 0 []) (hT : Tb base w) :
    Calls Tryz.prog 78 #[v, .float .f64 u, .int .u8 103, .int .i64 (-1)] w (Txt base w (Us.textF u)) := by
  have hI : Bu w base 10 v [] w := ⟨hv, fun h => by have := (hv.lt _ h).1; have := hT.lt; omega, Below.refl _ _, hT.size, Nat.lt_of_lt_of_le hT.lt hT.size, fun _ => rfl⟩
  have hF := fun n => fmt_zero (Sm.isNeg u) _ base v (w.drewN n) (⟨hI.own, hI.apart, Below.refl _ _, hI.base, hI.lt, fun _ => rfl⟩ : Bu (w.drewN n) base _ v [] (w.drewN n))
  have he : u / 2 ^ 52 % 2048 = 0 ∧ u % 2 ^ 52 = 0 := by
    unfold Sm.mant at hm
    split at hm <;> omega
  have h1 := Sm.and_pow u hu
  have h2 := Sm.and_frac u hu
  rw [he.1, Sm.wrap64_id _ (by omega) (by omega)] at h1
  rw [he.2] at h2
  have h1 : bits BinOp.and IntKind.i64 ((u : Int) / 4503599627370496) 2047 = 0 := h1
  have h2 : bits BinOp.and IntKind.u64 (u : Int) 4503599627370495 = 0 := h2
  have ht : Us.textF u = Us.fmtG (Sm.isNeg u) [] 0 := by unfold Us.textF; rw [if_pos hm]
  rw [ht]
  obtain ⟨ng, hng⟩ : ∃ ng : Bool, ng = Sm.isNeg u := ⟨_, rfl⟩
  have hn : ((u : Int) / 9223372036854775808 != 0) = ng := by
    rw [hng]
    unfold Sm.isNeg
    rw [Bool.eq_iff_iff, bne_iff_ne, decide_eq_true_eq]
    omega
  rw [← hng] at hF ⊢
  have HF := Lib.hid hF
  have hbits := ext_sbits
  clear hF hI hv hT ht hm he hng
  go_enter Tryz.func78, Tryz.ntmps78
  go_wp2_with fail
  go_quiet (fail)
  go_wp2_with fail
  refine (HF.out nq).mono ?_
  rintro e w1 ⟨v', rfl, h'⟩
  have H' := Lib.hid h'
  clear h'
  go_wp2_with fail
  go_ret
  exact ⟨_, rfl, H'.out.own, (below_drewN (Below.refl _ w) nq).trans H'.out.below⟩

theorem own_below {base n : Nat} {e : TypeId} {v : Value} {xs : List Value} {w w' : World} (h : w.ownsRow base e 1 v n xs) (hb : Below w.heap.size w w') : w'.ownsRow base e 1 v n xs :=
  h.kept (row := none) ⟨hb.os, hb.tape, hb.output, hb.size, fun k hk _ => hb.block k hk⟩ (by cases v.ownBlock <;> simp)
theorem own_keep {base n b : Nat} {e : TypeId} {v : Value} {xs : List Value} {w w' : World} (h : w.ownsRow base e 1 v n xs) (hb : Keep (· = b) w w') (hv : v.ownBlock ≠ some b) : w'.ownsRow base e 1 v n xs :=
  h.kept (row := some b) ⟨hb.os, hb.tape, hb.output, hb.size, fun k hk hn => hb.block k hk (fun e => hn (by rw [e]))⟩ (Or.inr hv)
theorem nd_len (u : Nat) : (Us.digs u).length = Us.nz u := by unfold Us.digs; simp
theorem dgs_of {w : World} {b u : Nat} (h : DgAt w b (Us.dd u) (Lib.nDigits (Us.dd u))) : Dgs w b (Us.digs u) := by
  intro t ht
  rw [nd_len] at ht
  have hle : Us.nz u ≤ Lib.nDigits (Us.dd u) := Us.trimN_le _ _
  rw [h t (by omega)]
  have e : (Us.digs u).getD t 0 = Us.digit (Us.dd u) (Lib.nDigits (Us.dd u)) t := by
    unfold Us.digs
    rw [List.getD_eq_getElem?_getD, List.getElem?_map, List.getElem?_range ht, Option.map_some, Option.getD_some]
  rw [e]

set_option maxRecDepth 100000 in
set_option maxHeartbeats 4000000 in
theorem ftoa_some (u base : Nat) (v : Value) (w : World) (hu : u < 18446744073709551616) (hk : Us.exb u < 2047) (hm : Sm.mant u ≠ 0) (hv : w.ownsRow base 5 1 v 0 []) (hT : Tb base w) :
    Calls Tryz.prog 78 #[v, .float .f64 u, .int .u8 103, .int .i64 (-1)] w (Txt base w (Us.textF u)) := by
  obtain ⟨hok, hs1, hs2⟩ := Us.ok_of u hk hm
  have hsp := Us.dd_pos hok
  rw [Us.text_some hm]
  have hnd := Lib.nDigits_le20 (Us.dd u) hsp.2.1
  have hnp := Lib.nDigits_pos (Us.dd u)
  have hnl := Lib.lt_pow_nDigits (Us.dd u)
  have hpq := Us.pq_sum hok hnd
  have hz1 : 1 ≤ Us.nz u := Us.trim_pos _ _ (Nat.one_le_iff_ne_zero.1 hsp.1) hnl
  have hz2 : Us.nz u ≤ 20 := Nat.le_trans (Us.trimN_le _ _) hnd
  have h1 := Sm.and_pow u hu
  have h2 := Sm.and_frac u hu
  rw [Sm.wrap64_id _ (by omega) (by omega)] at h1
  have hml := Sm.mant_lt u
  have hbl := Us.bitLen_pos hm (by omega)
  have hLen := fun w => Tryz.bits_Len64 ((Sm.mant u : Nat) : Int) w (by omega) (by omega)
  simp only [Int.toNat_natCast] at hLen
  have hsub : 64 - (Lib.bitLen (Sm.mant u) : Int) = ((Us.sh u : Nat) : Int) := by
    have e : Us.sh u = 64 - Lib.bitLen (Sm.mant u) := rfl
    clear hLen h1 h2 hnl
    omega
  have hshl : IntKind.u64.wrap (((Sm.mant u : Nat) : Int) * 2 ^ Us.sh u) = ((Us.mm u : Nat) : Int) := by
    have e : (((Sm.mant u : Nat) : Int) * 2 ^ Us.sh u) = ((Us.mm u : Nat) : Int) := by unfold Us.mm; push_cast; rfl
    have hh := hok.hi
    clear hLen h1 h2 hnl hsub
    rw [e, IntKind.wrap_u64]; omega
  have hS : ∀ w, Pows w → 10 < w.heap.size → Calls Tryz.prog 97 #[.int .u64 ((Us.mm u : Nat) : Int), .int .i64 (Us.ee u)] w fun en w' => en = .returned (.tuple #[.int .u64 (Us.dd u : Nat), .int .i64 (Us.pq u)]) ∧ Below w.heap.size w w' := fun w hP hg => short_any (Us.mm u) (Us.ee u) w hok hP hg
  have hN := fun w ht => Tryz.internal_strconv_numDigits (Us.dd u) hsp.1 hsp.2.1 w ht
  have hD : ∀ (b : Nat) (t : TypeId) (w : World), w.heap[b]? = some (.cells (Array.replicate 32 (.int .u8 0)) t (0, 0)) → Calls Tryz.prog 90 #[.slice (some ⟨b, 0, none⟩) 32 32, .int .u64 ((Us.dd u : Nat) : Int), .int .i64 (Us.pq u), .int .i64 (Lib.nDigits (Us.dd u) : Int)] w fun e w' => e = .returned (.tuple #[.int .i64 (Lib.nDigits (Us.dd u) + Us.pq u), .int .i64 (Us.nz u : Nat)]) ∧ RowKit.Hid (DgAt w' b (Us.dd u) (Lib.nDigits (Us.dd u)) ∧ Keep (· = b) w w') := fun b t w hb => setDigits_any b (Us.dd u) (Lib.nDigits (Us.dd u)) (Us.pq u) t w hb hnd hnl hsp.2.1 hpq.1 hpq.2.1
  have hF := fun b w (hI : Bu w base b v [] w) (hg : Dgs w b (Us.digs u)) => fmt_any (Sm.isNeg u) (Us.digs u) (Lib.nDigits (Us.dd u) + Us.pq u) b base v w hI hg (by rw [nd_len]; exact hz1) (by rw [nd_len]; exact hz2) hpq.2.2.1 hpq.2.2.2
  simp only [nd_len] at hF
  obtain ⟨ng, hng⟩ : ∃ ng : Bool, ng = Sm.isNeg u := ⟨_, rfl⟩
  have hn : ((u : Int) / 9223372036854775808 != 0) = ng := by
    rw [hng]
    unfold Sm.isNeg
    rw [Bool.eq_iff_iff, bne_iff_ne, decide_eq_true_eq]
    omega
  rw [← hng] at hF ⊢
  have hdg : ∀ (w : World) (b : Nat), DgAt w b (Us.dd u) (Lib.nDigits (Us.dd u)) → Dgs w b (Us.digs u) := fun w b h => dgs_of h
  have HDG := Lib.hid hdg
  clear hdg
  have hex : u / 2 ^ 52 % 2048 = Us.exb u := rfl
  rw [hex] at h1
  have hor : Us.exb u ≠ 0 → bits BinOp.or IntKind.u64 ((u % 2 ^ 52 : Nat) : Int) 4503599627370496 = ((Sm.mant u : Nat) : Int) := fun h0 => by
    have e : Sm.mant u = u % 2 ^ 52 + 4503599627370496 := by unfold Sm.mant; rw [if_neg (by rw [hex]; exact h0)]
    rw [e]; exact Sm.or_norm _ (Nat.mod_lt _ (by decide))
  have hsub0 : Us.exb u = 0 → Sm.mant u = u % 2 ^ 52 := fun h0 => by unfold Sm.mant; rw [if_pos (by rw [hex]; exact h0)]
  have hee : ∀ x : Nat, x = Us.exb u → Us.ee u = (if x = 0 then -1022 else (x : Int) - 1023) - (Us.sh u : Int) - 52 := fun x h => by rw [h]; rfl
  have hmne : (((Sm.mant u : Nat) : Int) == 0) = false := by rw [beq_eq_false_iff_ne]; omega
  have HS := Lib.hid (And.intro hS (And.intro hT hv))
  have HL := Lib.hid hLen
  have HN := Lib.hid hN
  have HD := Lib.hid hD
  have HF := Lib.hid hF
  have HOR := Lib.hid (And.intro hor hsub0)
  have HEE := Lib.hid hee
  clear hS hT hv hLen hN hD hF hor hsub0 hee hng hok hsp hnl hex hbl hpq
  generalize Us.exb u = X at *
  generalize u % 2 ^ 52 = fr at *
  generalize Sm.mant u = M at *
  generalize Us.sh u = S at *
  generalize Us.mm u = MM at *
  generalize Us.ee u = EE at *
  generalize Us.digs u = DG at *
  generalize Us.dd u = DD at *
  generalize Us.pq u = PQ at *
  generalize Us.nz u = NZ at *
  have hbits := ext_sbits
  have hX1 : ((X : Int) == 2047) = false := by rw [beq_eq_false_iff_ne]; omega
  go_enter Tryz.func78, Tryz.ntmps78
  go_wp2_with fail
  go_quiet (fail)
  go_upto_if 78 with (fail)
  go_cut [14, 15] from 77 to 84 (fun s14 s15 wx => ∃ ex : Int, s14 = .int .i64 ex ∧ s15 = .int .u64 (M : Int) ∧ RowKit.Hid (ex - 1023 - S - 52 = EE ∧ 1 ≤ ex ∧ ex ≤ 2047) ∧ wx = w.drewN nq)
  case first =>
    by_cases h0 : X = 0
    · have hb : ((X : Int) == 0) = true := by rw [beq_iff_eq]; omega
      have hM := HOR.out.2 h0
      subst h0
      subst hM
      go_wp2_with fail
      go_meet
      exact ⟨1, rfl, rfl, Lib.hid ⟨by have := HEE.out 0 rfl; rw [if_pos rfl] at this; omega, by omega, by omega⟩, rfl⟩
    · have hb : ((X : Int) == 0) = false := by rw [beq_eq_false_iff_ne]; omega
      have hM := HOR.out.1 h0
      go_wp2_with fail
      go_meet
      exact ⟨X, rfl, rfl, Lib.hid ⟨by have := HEE.out X rfl; rw [if_neg h0] at this; omega, by omega, by omega⟩, rfl⟩
  case rest =>
    obtain ⟨ex, rfl, rfl, HEX, hw⟩ := hcut
    subst hw
    obtain ⟨hex1, hex2⟩ := HEX.out.2
    have hx2 : ex - 1023 - (S : Int) - 52 = EE := HEX.out.1
    clear HEE HOR HEX h1 h2 hn
    go_wp2_with fail
    refine (HL.out _).mono ?_
    rintro e w' ⟨rfl, rfl⟩
    go_wp2_with fail
    obtain ⟨wA, hwA⟩ : ∃ wA, wA = (w.drewN nq).alloc (.cells (Array.replicate 32 (.int .u8 0)) 113) := ⟨_, rfl⟩
    have hbA : Below base w wA := by rw [hwA]; exact (below_drewN (Below.refl _ w) nq).alloc HS.out.2.1.size _
    have hblk : wA.heap[w.heap.size]? = some (.cells (Array.replicate 32 (.int .u8 0)) 113 (0, 0)) := by rw [hwA]; exact blk_new (w.drewN nq) _
    have hTA := HS.out.2.1.on hbA
    have hvA : wA.ownsRow base 5 1 v 0 [] := by rw [hwA]; exact World.ownsRow.alloc (w := w.drewN nq) HS.out.2.2 _
    have HA := Lib.hid (And.intro hbA (And.intro hblk (And.intro hTA (And.intro hvA (HS.out.1 wA (hTA.pows _ (Below.refl _ _)) (Nat.lt_of_lt_of_le hTA.lt hTA.size))))))
    have HAW := Lib.hid hwA
    clear hbA hblk hTA hvA hwA
    have hEE : ex + -1023 - (S : Int) - 52 = EE := by omega
    rw [hEE]
    have hwA := HAW.out
    have HC := HA.out.2.2.2.2
    rw [hwA] at HC
    refine HC.mono ?_
    rintro e w1 ⟨rfl, hb⟩
    rw [← hwA] at hb
    have hbk : w1.heap[w.heap.size]? = some (.cells (Array.replicate 32 (.int .u8 0)) 113 (0, 0)) := by rw [hb.block _ (lt_of_block HA.out.2.1)]; exact HA.out.2.1
    have hb1 : Below base w w1 := HA.out.1.trans (hb.mono (Nat.le_trans HS.out.2.1.size HA.out.1.size))
    have hv1 := own_below HA.out.2.2.2.1 hb
    have hvb : v.ownBlock ≠ some w.heap.size := fun h => by have := (HS.out.2.2.lt _ h).2; omega
    have HT1 := HS.out.2.1.on hb1
    have hbB : base ≤ w.heap.size := HS.out.2.1.size
    have HDd := Lib.hid (fun n => HD.out w.heap.size _ (w1.drewN n) hbk)
    have HNn := Lib.hid (fun n => HN.out (w1.drewN n) (HT1.tens _ (below_drewN (Below.refl _ _) n)))
    have H1 := Lib.hid (And.intro hb1 (And.intro hv1 (And.intro hvb (And.intro HT1 (And.intro hbB (lt_of_block hbk))))))
    clear hb hbk hb1 hv1 hvb HT1 hbB HC hwA HA HAW
    go_wp2_with fail
    obtain ⟨dp, hdp⟩ : ∃ dp : Int, dp = (Lib.nDigits DD : Int) + PQ := ⟨_, rfl⟩
    simp only [← hdp] at HDd HF
    have HDP := Lib.hid hdp
    clear hdp
    go_cut [22, 23] from 139 to 147 (fun s22 s23 wx => s22 = .int .i64 dp ∧ s23 = .int .i64 (NZ : Int) ∧ RowKit.Hid (DgAt wx w.heap.size DD (Lib.nDigits DD) ∧ Keep (· = w.heap.size) w1 wx))
    case first =>
      go_region_with (first | (go_at_call 91; refine (HNn.out 1).mono ?_; rintro e w' ⟨rfl, rfl⟩) | (go_at_call 90; refine (HDd.out 1).mono ?_; rintro e w' ⟨rfl, hw⟩))
      all_goals
        have hw2 := hw.out
        have HW := Lib.hid hw2
        clear hw hw2
        go_wp2_with fail
        go_meet
        exact ⟨rfl, rfl, Lib.hid ⟨HW.out.1, (((Keep.refl _ w1).drewN 1).trans HW.out.2)⟩⟩
    case rest =>
      obtain ⟨rfl, rfl, HW⟩ := hcut
      have hbk := HW.out.2
      have hv2 := own_keep H1.out.2.1 hbk H1.out.2.2.1
      have hbe : Below base w wc := H1.out.1.trans (hbk.below H1.out.2.2.2.1.size (fun k hk => by rw [hk]; exact H1.out.2.2.2.2.1))
      have hI : Bu wc base w.heap.size v [] wc := ⟨hv2, H1.out.2.2.1, Below.refl _ _, Nat.le_trans HS.out.2.1.size hbe.size, Nat.lt_of_lt_of_le H1.out.2.2.2.2.2 hbk.size, fun _ => rfl⟩
      have HFF := Lib.hid (HF.out w.heap.size wc hI (HDG.out _ _ HW.out.1))
      have HBE := Lib.hid (And.intro hbe HDP.out)
      clear hbk hv2 hbe hI HW HDd HNn H1
      go_wp2_with fail
      refine HFF.out.mono ?_
      rintro e w3 ⟨v', rfl, h'⟩
      have H' := Lib.hid h'
      clear h'
      go_wp2_with fail
      go_ret
      exact ⟨_, rfl, by rw [← HBE.out.2]; exact H'.out.own, HBE.out.1.trans H'.out.below⟩

theorem ftoa_any (u base : Nat) (v : Value) (w : World) (hu : u < 18446744073709551616) (hk : Us.exb u < 2047) (hv : w.ownsRow base 5 1 v 0 []) (hT : Tb base w) :
    Calls Tryz.prog 78 #[v, .float .f64 u, .int .u8 103, .int .i64 (-1)] w (Txt base w (Us.textF u)) := by
  by_cases hm : Sm.mant u = 0
  · exact ftoa_zero u base v w hu hm hv hT
  · exact ftoa_some u base v w hu hk hm hv hT
end Go.Proofs.YtipkiiblghnoiaaGreatDoor
