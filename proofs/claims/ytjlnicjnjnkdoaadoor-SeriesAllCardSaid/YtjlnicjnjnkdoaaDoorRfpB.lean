/- The document's own answer for layer 5: Pack. By an AI agent. -/
import Derived.Test.YtjlnicjnjnkdoaaDoorRfpA
import Derived.Test.YtjlnicjnjnkdoaaDoorSerJ
namespace Go.Proofs.YtjlnicjnjnkdoaaDoor
open Go.ChangeShapes Go.WideShapes Go.ChangeAt Go.RowKit
open Bt
set_option linter.unusedVariables false

theorem ones_get (bs : List Bool) (i : Nat) (h : i < bs.length) : (ones bs).getD i 0 = (bs.getD i false).toNat := by
  simp [ones, List.getD_eq_getElem?_getD, h]
/-- The first k bits of byte i. -/
def byteN (bs : List Bool) (i k : Nat) : Nat := val ((List.range k).map fun j => bs.getD (8 * i + j) false)
theorem byteN_succ (bs : List Bool) (i k : Nat) : byteN bs i (k + 1) = byteN bs i k * 2 + (bs.getD (8 * i + k) false).toNat := by
  unfold byteN
  rw [List.range_succ, List.map_append, val_append]
  simp [val]
theorem byteN_lt (bs : List Bool) (i k : Nat) (h : k ≤ 8) : byteN bs i k < 256 := by
  have h1 := val_lt ((List.range k).map fun j => bs.getD (8 * i + j) false)
  rw [List.length_map, List.length_range] at h1
  have h2 : 2 ^ k ≤ 2 ^ 8 := Nat.pow_le_pow_right (by omega) h
  exact Nat.lt_of_lt_of_le h1 h2
theorem take_pack (bs : List Bool) (j : Nat) (h : 8 * j < bs.length) : (pack bs).take (j + 1) = (pack bs).take j ++ [byteN bs j 8] := by
  have hl := pack_length bs
  rw [List.take_succ_eq_append_getElem (by omega)]
  congr 2
  simp [pack, byteAt, byteN]

theorem put5_int (base : Nat) (v : Value) (bs : List Bool) {x n : Int} (X N : Nat) (w : World) (hown : w.ownsRow base 5 1 v bs.length (u8s (ones bs))) (ex : x = X) (en : n = N) (hx : X < 18446744073709551616) (hn : N ≤ 64) (hlen : bs.length ≤ 1000000) (hbase : base ≤ w.heap.size) :
    Calls Tryd.prog 19 #[v, .int .u64 x, .int .i64 n] w (RowB base (bs ++ bitsOf X N) w) := by
  subst ex en
  exact put5_any base v bs X N w hown hx hn hlen hbase

set_option maxRecDepth 100000 in
set_option maxHeartbeats 2000000 in
theorem pack5_any (o : Option Addr) (us : List Nat) (cap : Nat) (w : World) (hu : ∀ i, us.getD i 0 < 18446744073709551616) (hF : Fls w o us) (hn : us.length ≤ 4096) :
    Calls Tryd.prog 7 #[.slice o us.length cap] w (Packed w.heap.size us w) := by
  have HU := Lib.hid hu
  have HF := Lib.hid hF
  clear hu hF
  obtain ⟨i0, hi, hz0, hz1, hz2⟩ := info_parts info_u8
  generalize hlen : us.length = n at *
  have HLEN := Lib.hid hlen
  clear hlen
  go_enter Tryd.func7, Tryd.ntmps7
  go_wp2_with fail
  go_loopg [4, 5, 6] n (fun g r0 last i wr => ∃ (k : Nat) (r : Value), r = r0 ∧ g + k = n ∧ i = .int .i64 (k : Int) ∧ (∃ l : Nat, last = .int .u64 (l : Int) ∧ l < 18446744073709551616 ∧ (0 < k → l = us.getD (k - 1) 0)) ∧ (k = 0 → r = .slice none 0 0) ∧ Hid (wr.ownsRow w.heap.size 5 1 r (encN us k).length (u8s (ones (encN us k))) ∧ Below w.heap.size w wr))
  case atStart => exact ⟨0, _, rfl, by omega, rfl, ⟨0, rfl, by omega, fun h => absurd h (by omega)⟩, fun _ => rfl, nil_row _ _ _, Below.refl _ _⟩
  case round =>
    obtain ⟨k, r, rfl, hgk, rfl, ⟨l, rfl, hl64, hl⟩, hr0, HR⟩ := hrel
    by_cases hk : k < n
    · obtain ⟨ad, rfl, hcell⟩ := HF.out k (by rw [HLEN.out]; exact hk)
      have hcz : wr.cell? (ad.add k) = some (.float .f64 (us.getD k 0)) := by
        rw [← hcell]; exact HR.out.2.cell (by exact cell_in hcell)
      have hu := HU.out k
      have hb1 := encN_length us HU.out k
      have hbz : w.heap.size ≤ wr.heap.size := HR.out.2.size
      have hen : encN us (k + 1) = encN us k ++ (if k = 0 then bitsOf (us.getD 0 0) 64 else enc (us.getD k 0 ^^^ us.getD (k - 1) 0)) := rfl
      have HEN := Lib.hid hen
      generalize hU : us.getD k 0 = U at *
      have HUU := Lib.hid hU
      clear hU hcell hen
      have e1 := ext_bits U
      have hx := bits_xor_u64_nat U l hu hl64
      have HX := Lib.hid (xor_u64 hu hl64)
      have HLL := Lib.hid hl
      clear hl
      rcases Nat.eq_zero_or_pos k with hk0 | hk0
      · have hkt : ((k : Int) == 0) = true := by simp; omega
        have HK0 := Lib.hid hk0
        clear hk0 hr0
        go_wp2_with fail
        refine (put5_any w.heap.size r (encN us k) U 64 wr HR.out.1 hu (by omega) (by omega) hbz).mono ?_
        rintro e w2 ⟨v2, rfl, h2, h2b⟩
        have H2 := Lib.hid (show _ ∧ _ from ⟨h2, HR.out.2.trans h2b⟩)
        clear h2 h2b HR
        go_wp2_with fail
        go_roundg (gk - 1)
        case measure => omega
        case rel => exact ⟨k + 1, _, rfl, by omega, rfl, ⟨U, rfl, hu, fun _ => HUU.out.symm⟩, fun h => absurd h (by omega), by
          have h := H2.out
          rw [HEN.out, if_pos HK0.out]
          have e : us.getD 0 0 = U := by rw [← HUU.out, HK0.out]
          rw [e]
          exact h⟩
      · have hkz : ((k : Int) == 0) = false := by simp; omega
        have hl := HLL.out hk0
        rw [if_neg (by omega), ← hl] at HEN
        have HE := Lib.hid HEN.out
        clear HEN hl hr0
        generalize U ^^^ l = X at *
        have hX := HX.out
        have hxX := Lib.hid hx
        rcases Nat.eq_zero_or_pos X with hX0 | hX0
        · have hXt : ((X : Int) == 0) = true := by simp; omega
          clear hx
          have hx2 : bits BinOp.xor IntKind.u64 (U : Int) (l : Int) = (X : Int) := hxX.out
          go_wp2_with (at_builtin; refine wpList_append_one _ rfl (.tmp 68) (.tmp 69) 27 rfl w.heap.size 5 i0 (.int .u8 0) 1 Tryd.underlying27 hi hz0 hz1 hz2 rfl _ _ _ rfl (HR.out.1.alloc _) ⟨wr.heap.size, 0, none⟩ 1 (.int .u8 0) rfl ?_ rfl ?_ ?_ ?_ ?_)
          · exact cell_one_new _ _ _ 0 _ rfl
          · unfold maxLen; omega
          · omega
          · exact Nat.le_trans hbz (by simp)
          · intro g cap w1 hown1 hgr1 hblk1 hg1
            have HO := Lib.hid hown1
            have HB := Lib.hid ((HR.out.2.alloc hbz _).grown hgr1 (Nat.le_trans hbz (by simp)) (fun k hk => (HR.out.1.lt k hk).1))
            clear hown1 hgr1 hblk1
            go_wp2_with fail
            go_roundg (gk - 1)
            case measure => omega
            case rel => exact ⟨k + 1, _, rfl, by omega, rfl, ⟨U, rfl, hu, fun _ => HUU.out.symm⟩, fun h => absurd h (by omega), by
              have h := HO.out
              have e : enc X = [false] := by rw [hX0]; rfl
              rw [HE.out, e, ones_append, u8s_append, List.length_append]
              exact ⟨h, HB.out⟩⟩
        · have hXt : ((X : Int) == 0) = false := by simp; omega
          clear hx
          have hx2 : bits BinOp.xor IntKind.u64 (U : Int) (l : Int) = (X : Int) := hxX.out
          obtain ⟨e1, e2, e3, e4, e5, e6⟩ := ends_of (x := X) (by omega) hX
          have hel := (enc_length X hX).2
          have he : enc X = [true] ++ (bitsOf (64 - Lib.bitLen X) 6 ++ (bitsOf (Lib.bitLen X - Lib.ctz 64 X - 1) 6 ++ bitsOf (X / 2 ^ Lib.ctz 64 X) (Lib.bitLen X - Lib.ctz 64 X))) := by unfold enc; rw [if_neg (by omega)]; rfl
          have HEE := Lib.hid he
          have E1 := ends5_any X wr (by omega) hX
          have HQ : X / 2 ^ Lib.ctz 64 X < 18446744073709551616 := Nat.lt_of_le_of_lt (Nat.div_le_self _ _) hX
          obtain ⟨z, hz⟩ : ∃ z, 64 - Lib.bitLen X = z := ⟨_, rfl⟩
          obtain ⟨m, hm⟩ : ∃ m, Lib.bitLen X - Lib.ctz 64 X - 1 = m := ⟨_, rfl⟩
          have hm1 : Lib.bitLen X - Lib.ctz 64 X = m + 1 := by omega
          rw [hz, hm1] at E1
          rw [hz, hm1, Nat.add_sub_cancel] at HEE
          have hzm : z + m + 1 ≤ 64 := by omega
          have htz : Lib.ctz 64 X = 64 - z - (m + 1) := by omega
          rw [htz] at HEE HQ
          clear e1 e2 e3 e4 e5 e6 hel he hm1 hm hz htz
          have HE1 := Lib.hid E1
          have HHQ := Lib.hid HQ
          clear E1 HQ
          go_wp2_with first
            | (go_at_call 20; go_must (refine HE1.out.mono ?_; rintro e w' ⟨rfl, rfl⟩))
            | (at_builtin; refine wpList_append_one _ rfl (.tmp 38) (.tmp 39) 27 rfl w.heap.size 5 i0 (.int .u8 0) 1 Tryd.underlying27 hi hz0 hz1 hz2 rfl _ _ _ rfl (HR.out.1.alloc _) ⟨wr.heap.size, 0, none⟩ 1 (.int .u8 1) rfl ?_ rfl ?_ ?_ ?_ ?_)
          · exact cell_one_new _ _ _ 0 _ rfl
          · unfold maxLen; omega
          · omega
          · exact Nat.le_trans hbz (by simp)
          · intro g cap w1 hown1 hgr1 hblk1 hg1
            have hB1 := (HR.out.2.alloc hbz _).grown hgr1 (Nat.le_trans hbz (by simp)) (fun k hk => (HR.out.1.lt k hk).1)
            have h1 : w1.ownsRow w.heap.size 5 1 (.slice (some ⟨g, 0, none⟩) ((encN us k).length + 1) cap) (encN us k ++ [true]).length (u8s (ones (encN us k ++ [true]))) := by
              rw [ones_append, u8s_append, List.length_append]
              exact hown1
            generalize hlk : (encN us k).length = lk at *
            generalize hv1 : Value.slice (some ⟨g, 0, none⟩) (lk + 1) cap = v1 at *
            have HO := Lib.hid (And.intro h1 hB1)
            clear hown1 hgr1 hblk1 h1 hB1 hv1
            go_wp2_with fail
            refine (put5_int w.heap.size v1 _ z 6 w1 HO.out.1 (by first | rfl | omega) (by first | rfl | omega) (by omega) (by omega) (by rw [List.length_append, List.length_singleton, hlk]; omega) HO.out.2.size).mono ?_
            rintro e w2 ⟨v2, rfl, h2, hb2⟩
            have H2 := Lib.hid (show _ ∧ _ from ⟨h2, HO.out.2.trans hb2⟩)
            clear h2 hb2 HO
            go_wp2_with fail
            refine (put5_int w.heap.size v2 _ m 6 w2 H2.out.1 (by first | rfl | omega) (by first | rfl | omega) (by omega) (by omega) (by rw [List.length_append, List.length_append, List.length_singleton, bitsOf_length, hlk]; omega) H2.out.2.size).mono ?_
            rintro e w3 ⟨v3, rfl, h3, hb3⟩
            have H3 := Lib.hid (show _ ∧ _ from ⟨h3, H2.out.2.trans hb3⟩)
            clear h3 hb3 H2
            go_wp2_with fail
            refine (put5_int w.heap.size v3 _ (X / 2 ^ (64 - z - (m + 1))) (m + 1) w3 H3.out.1 (by simp) (by omega) HHQ.out (by omega) (by rw [List.length_append, List.length_append, List.length_append, List.length_singleton, bitsOf_length, bitsOf_length, hlk]; omega) H3.out.2.size).mono ?_
            rintro e w4 ⟨v4, rfl, h4, hb4⟩
            have H4 := Lib.hid (show _ ∧ _ from ⟨h4, H3.out.2.trans hb4⟩)
            clear h4 hb4 H3
            go_wp2_with fail
            go_roundg (gk - 1)
            case measure => omega
            case rel => exact ⟨k + 1, _, rfl, by omega, rfl, ⟨U, rfl, hu, fun _ => HUU.out.symm⟩, fun h => absurd h (by omega), by
              have h := H4.out
              rw [HE.out, HEE.out]
              simp only [List.append_assoc] at h
              exact h⟩
    · have hkn : k = n := by omega
      subst hkn
      have hbl := encN_length us HU.out k
      have hbz := HR.out.2.size
      clear hl hl64 hr0
      obtain ⟨ro, rc, rfl, hby, -, -⟩ := bys_of HR.out.1
      obtain ⟨N, hN⟩ : ∃ N, (encN us k).length = N := ⟨_, rfl⟩
      have hcells : ∀ i, i < N → ∃ ad, ro = some ad ∧ wr.cell? (ad.add i) = some (.int .u8 (((encN us k).getD i false).toNat : Nat)) := fun i hi => by
        obtain ⟨ad, h1, h2⟩ := hby i (by rw [ones_length]; omega)
        rw [ones_get _ _ (by omega)] at h2
        exact ⟨ad, h1, h2⟩
      have HCE := Lib.hid hcells
      have HN := Lib.hid hN
      have HRB := Lib.hid HR.out.2
      have hNb : N ≤ 1000000 := by omega
      have hvk := vnt_length k
      rw [ones_length, hN]
      clear hby hcells hN hbl HR HU HF hk hgk
      go_wp2_with (go_at_call 21; go_must (refine (varint5_len k wr (by omega)).mono ?_; rintro e w1 ⟨v, rfl, hown, hbel⟩; have HO := Lib.hid (And.intro hown hbel); clear hown hbel))
      generalize wr = wm at *
      clear hbz
      go_loopg [11, 12] ((N + 7) / 8) (fun g out i wq => ∃ (j q : Nat) (v : Value), v = out ∧ g + j = (N + 7) / 8 ∧ Hid (q = 8 * j) ∧ i = .int .i64 (q : Int) ∧ Hid (wq.ownsRow wm.heap.size 5 1 v ((vnt k).length + j) (u8s (vnt k ++ (pack (encN us k)).take j)) ∧ Below wm.heap.size wm wq))
      case atStart => exact ⟨0, 0, v, rfl, by omega, rfl, rfl, by rw [List.take_zero, List.append_nil]; exact HO.out.1, HO.out.2⟩
      case round =>
        obtain ⟨j, q, v, rfl, hgj, HJ, rfl, HQ⟩ := hrel
        have hq := HJ.out
        by_cases hqN : q < N
        · have hqI : (q : Int) < (N : Int) := by omega
          have hqb : q < 1000000 := by omega
          clear hq
          generalize gk = gj at *
          generalize wr = wq at *
          go_wp2_with fail
          go_loopg [13, 14] 8 (fun g c kk wz => wq = wz ∧ ∃ b : Nat, g + b = 8 ∧ kk = .int .i64 (b : Int) ∧ ∃ cv : Nat, c = .int .i64 (cv : Int) ∧ Hid (cv = byteN (encN us k) j b))
          case atStart => exact ⟨rfl, 0, rfl, rfl, 0, rfl, Lib.hid (by simp [byteN, val])⟩
          case round =>
            obtain ⟨rfl, b, hgb, rfl, cv, rfl, HC⟩ := hrel
            have hcv : cv < 256 := by rw [HC.out]; exact byteN_lt _ _ _ (by omega)
            by_cases hb8 : b = 8
            · subst hb8
              have hbI : ((8 : Nat) : Int) = 8 := rfl
              have hcw : (cv : Int) % 256 = (cv : Int) := by omega
              have hmq : wm.heap.size ≤ wq.heap.size := HQ.out.2.size
              go_wp2_with (at_builtin; refine wpList_append_one _ rfl (.tmp 102) (.tmp 105) 27 rfl wm.heap.size 5 i0 (.int .u8 0) 1 Tryd.underlying27 hi hz0 hz1 hz2 rfl _ _ _ rfl (HQ.out.1.alloc _) ⟨wq.heap.size, 0, none⟩ 1 (.int .u8 cv) rfl ?_ rfl ?_ ?_ ?_ ?_)
              · exact cell_one_new _ _ _ 0 _ rfl
              · have := HJ.out; unfold maxLen; omega
              · have := HJ.out; omega
              · exact Nat.le_trans hmq (by simp)
              · intro g cap1 w1' hown1 hgr1 hblk1 hg1
                have HO1 := Lib.hid (And.intro hown1 ((HQ.out.2.alloc hmq _).grown hgr1 (by simp; omega) (fun k hk => (HQ.out.1.lt k hk).1)))
                clear hown1 hgr1 hblk1
                go_wp2_with fail
                go_roundg (gj - 1)
                case measure => have := HJ.out; omega
                case rel =>
                  refine ⟨j + 1, q + 8, _, rfl, by have := HJ.out; omega, Lib.hid (by have := HJ.out; omega), rfl, ?_, HO1.out.2⟩
                  have h := HO1.out.1
                  rw [take_pack _ _ (by have := HJ.out; have := HN.out; omega), ← List.append_assoc, u8s_append _ [_], ← HC.out]
                  exact h
            · have hb7 : b < 8 := by omega
              have hbI : (b : Int) < 8 := by omega
              have hsu := byteN_succ (encN us k) j b
              rw [← HC.out, ← HJ.out] at hsu
              have HSU := Lib.hid hsu
              clear hsu
              by_cases hqb2 : q + b < N
              · obtain ⟨ad, rfl, hcell⟩ := HCE.out (q + b) hqb2
                have hcz : wq.cell? (ad.add (q + b)) = some (.int .u8 (((encN us k).getD (q + b) false).toNat : Nat)) := (HQ.out.2.cell (cell_in hcell)).trans hcell
                have hbb : ((encN us k).getD (q + b) false).toNat ≤ 1 := by cases (encN us k).getD (q + b) false <;> simp
                generalize ((encN us k).getD (q + b) false).toNat = bt at *
                have hqbI : (q : Int) + (b : Int) < (N : Int) := by omega
                clear hcell
                go_wp2_with fail
                go_roundg (gk - 1)
                case measure => omega
                case rel => exact ⟨rfl, b + 1, by omega, rfl, cv * 2 + bt, rfl, Lib.hid HSU.out.symm⟩
              · have hqbI : ¬ (q : Int) + (b : Int) < (N : Int) := by omega
                have hz : (encN us k).getD (q + b) false = false := by
                  rw [List.getD_eq_getElem?_getD, List.getElem?_eq_none (by rw [HN.out]; omega)]; rfl
                rw [hz] at HSU
                have HSV := Lib.hid HSU.out
                clear HSU hz
                go_wp2_with fail
                go_roundg (gk - 1)
                case measure => omega
                case rel => exact ⟨rfl, b + 1, by omega, rfl, cv * 2, rfl, Lib.hid HSV.out.symm⟩
        · have hqI : ¬ (q : Int) < (N : Int) := by omega
          have hjN : j = (N + 7) / 8 := by omega
          go_wp2_with fail
          go_ret2
          refine ⟨v, rfl, ?_, ?_⟩
          · have h := HQ.out.1.mono HRB.out.size
            rw [HLEN.out]
            have hpl := pack_length (encN us k)
            rw [HN.out] at hpl
            rw [List.take_of_length_le (by omega), hjN, ← hpl] at h
            exact h
          · exact HRB.out.trans (HQ.out.2.mono HRB.out.size)
end Go.Proofs.YtjlnicjnjnkdoaaDoor
