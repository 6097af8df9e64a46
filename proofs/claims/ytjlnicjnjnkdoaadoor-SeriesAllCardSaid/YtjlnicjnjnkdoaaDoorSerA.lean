/- Contracts of series' writer, over this program. By an AI agent. -/
import Derived.Test.YtjlnicjnjnkdoaaDoorKit
import Derived.Test.YtjlnicjnjnkdoaaDoorBits
import Derived.BigRegion
import Derived.Laws.BitsAllLaws
namespace Go.Proofs.YtjlnicjnjnkdoaaDoor
open Go.ChangeShapes Go.WideShapes Go.ChangeAt Go.RowKit
open Bt
set_option linter.unusedVariables false

/-- Bytes as cells. -/
def u8s (B : List Nat) : List Value := B.map fun n : Nat => Value.int .u8 (n : Int)
theorem u8s_length (B : List Nat) : (u8s B).length = B.length := by simp [u8s]
theorem u8s_append (A B : List Nat) : u8s (A ++ B) = u8s A ++ u8s B := by simp [u8s]
theorem u8s_get (B : List Nat) (i : Nat) (h : i < B.length) : (u8s B)[i]? = some (.int .u8 (B.getD i 0 : Nat)) := by
  simp [u8s, List.getD_eq_getElem?_getD, h]

/-- How many bits of the last byte are not used. -/
def freeOf (n : Nat) : Nat := (8 - n % 8) % 8

/-- A writer that has written hd and, behind it, the bits bs. -/
def WS (w : World) (b base : Nat) (hd : List Nat) (bs : List Bool) : Prop :=
  ∃ v, w.heap[b]? = some (.cells #[v, .int .i64 (freeOf bs.length : Nat)] 46 (0, 0)) ∧ w.ownsRow base 5 1 v (hd.length + (pack bs).length) (u8s (hd ++ pack bs)) ∧ v.ownBlock ≠ some b ∧ base ≤ b

theorem info_u8 : (Tryd.prog.info? 5).map (fun i => (i.zero, i.size, i.bytes)) = some (some (.int .u8 0), 1, 1) := by kernel_rfl

theorem freeOf_lt (n : Nat) : freeOf n < 8 := by unfold freeOf; omega
theorem bitsOf_take (x n k : Nat) (h : k < n) : (bitsOf x n).take (k + 1) = (bitsOf x n).take k ++ [x.testBit (n - 1 - k)] := by
  have hl := bitsOf_length x n
  rw [List.take_succ_eq_append_getElem (by omega)]
  congr 2
  induction n generalizing k with
  | zero => omega
  | succ n ih =>
    cases k with
    | zero => simp [bitsOf]
    | succ k =>
      simp only [bitsOf, List.getElem_cons_succ]
      rw [ih k (by omega) (bitsOf_length x n), show n + 1 - 1 - (k + 1) = n - 1 - k by omega]

theorem and_one (x m : Nat) (hx : x < 18446744073709551616) : bits BinOp.and IntKind.u64 ((x : Int) / 2 ^ m) 1 = ((x.testBit m).toNat : Int) := by
  have e : ((x : Int) / 2 ^ m) = ((x / 2 ^ m : Nat) : Int) := by simp
  rw [e]
  have hlt : x / 2 ^ m < 18446744073709551616 := Nat.lt_of_le_of_lt (Nat.div_le_self _ _) hx
  have h1 : (BitVec.ofInt 64 ((x / 2 ^ m : Nat) : Int)).toNat = x / 2 ^ m := by
    rw [BitVec.ofInt_natCast, BitVec.toNat_ofNat]; exact Nat.mod_eq_of_lt hlt
  have h2 : (BitVec.ofInt 64 1).toNat = 1 := by decide
  show IntKind.u64.wrap ((BitVec.ofInt 64 ((x / 2 ^ m : Nat) : Int) &&& BitVec.ofInt 64 1).toNat : Int) = _
  rw [BitVec.toNat_and, h1, h2, Nat.and_one_is_mod, IntKind.wrap_u64, Nat.toNat_testBit]
  omega

/-- The byte that is stored. -/
theorem byte_or (x m last f : Nat) (hx : x < 18446744073709551616) (hl : last < 256) (hf : f < 8) :
    bits BinOp.or IntKind.u8 (last : Int) (bits BinOp.and IntKind.u64 ((x : Int) / 2 ^ m) 1 % 256 * 2 ^ f % 256) = ((last ||| (x.testBit m).toNat <<< f : Nat) : Int) := by
  rw [and_one x m hx]
  have hc : (x.testBit m).toNat ≤ 1 := by cases x.testBit m <;> simp
  have hp : 2 ^ f ≤ 2 ^ 7 := Nat.pow_le_pow_right (by omega) (by omega)
  have hm : (x.testBit m).toNat * 2 ^ f ≤ 1 * 2 ^ 7 := Nat.mul_le_mul hc hp
  have e : (((x.testBit m).toNat : Int) % 256 * 2 ^ f % 256) = (((x.testBit m).toNat <<< f : Nat) : Int) := by
    rw [Nat.shiftLeft_eq]
    have e1 : ((x.testBit m).toNat : Int) % 256 = (x.testBit m).toNat := by omega
    rw [e1]
    have e2 : ((x.testBit m).toNat : Int) * 2 ^ f = (((x.testBit m).toNat * 2 ^ f : Nat) : Int) := by simp
    rw [e2]
    omega
  rw [e]
  exact u8_or_nat _ _ hl (by rw [Nat.shiftLeft_eq]; omega)

theorem u8s_set (B : List Nat) (i v : Nat) : u8s (B.set i v) = (u8s B).set i (.int .u8 (v : Nat)) := by
  unfold u8s; rw [List.map_set]

theorem last_in (hd : List Nat) (cur : List Bool) (h : 0 < cur.length) : (hd ++ pack cur).getD (hd.length + (pack cur).length - 1) 0 = (pack cur).getD ((pack cur).length - 1) 0 := by
  have := pack_length cur
  simp only [List.getD_eq_getElem?_getD]
  rw [List.getElem?_append_right (by omega), show hd.length + (pack cur).length - 1 - hd.length = (pack cur).length - 1 by omega]
theorem last_lt (hd : List Nat) (cur : List Bool) (h : 0 < cur.length) : (hd ++ pack cur).getD (hd.length + (pack cur).length - 1) 0 < 256 := by
  have := pack_length cur
  rw [last_in hd cur h, pack_getD _ _ (by omega)]
  exact byteAt_lt _ _
theorem snoc_in (hd : List Nat) (cur : List Bool) (c : Bool) (h : cur.length % 8 ≠ 0) :
    u8s (hd ++ pack (cur ++ [c])) = (u8s (hd ++ pack cur)).set (hd.length + (pack cur).length - 1) (.int .u8 (((hd ++ pack cur).getD (hd.length + (pack cur).length - 1) 0 ||| c.toNat <<< (7 - cur.length % 8) : Nat))) := by
  have := pack_length cur
  rw [last_in hd cur (by omega), ← u8s_set, pack_snoc_in cur c h]
  congr 1
  rw [List.set_append, if_neg (by omega), show hd.length + (pack cur).length - 1 - hd.length = (pack cur).length - 1 by omega]
theorem snoc_new (hd : List Nat) (cur : List Bool) (c : Bool) (h : cur.length % 8 = 0) :
    u8s (hd ++ pack (cur ++ [c])) = (u8s (hd ++ pack cur) ++ [Value.int .u8 0]).set (hd.length + (pack cur).length) (.int .u8 ((0 ||| c.toNat <<< 7 : Nat))) := by
  have e : u8s (hd ++ pack cur) ++ [Value.int .u8 0] = u8s (hd ++ pack cur ++ [0]) := by rw [u8s_append (hd ++ pack cur)]; rfl
  rw [e, ← u8s_set, pack_snoc_new cur c h]
  congr 1
  rw [List.set_append, if_neg (by rw [List.length_append]; omega), List.length_append, Nat.sub_self, ← List.append_assoc]
  rfl
theorem pack_len_in (cur : List Bool) (c : Bool) (h : cur.length % 8 ≠ 0) : (pack (cur ++ [c])).length = (pack cur).length := by
  rw [pack_length, pack_length, List.length_append, List.length_singleton]; omega
theorem pack_len_new (cur : List Bool) (c : Bool) (h : cur.length % 8 = 0) : (pack (cur ++ [c])).length = (pack cur).length + 1 := by
  rw [pack_length, pack_length, List.length_append, List.length_singleton]; omega

set_option maxRecDepth 100000 in
set_option maxHeartbeats 2000000 in
theorem put_any (b base : Nat) (hd : List Nat) (bs : List Bool) (x n : Nat) (w : World) (hw : WS w b base hd bs) (hx : x < 18446744073709551616) (hn : n ≤ 64) (hlen : hd.length + bs.length ≤ 1000000) :
    Calls Tryd.prog 17 #[.pointer (some ⟨b, 0, none⟩), .int .u64 x, .int .i64 n] w fun e w' => e = .returned (.tuple #[]) ∧ WS w' b base hd (bs ++ bitsOf x n) ∧ Below base w w' := by
  have HW := Lib.hid hw
  clear hw
  obtain ⟨i0, hi, hz0, hz1, hz2⟩ := info_parts info_u8
  go_enter Tryd.func17, Tryd.ntmps17
  go_wp2_with fail
  go_loopg [2] n (fun g i wr => g ≤ n ∧ i = .int .i64 ((g : Int) - 1) ∧ Hid (WS wr b base hd (bs ++ (bitsOf x n).take (n - g)) ∧ Below base w wr))
  case atStart =>
    have h0 : WS w b base hd (bs ++ (bitsOf x n).take (n - n)) := by rw [Nat.sub_self, List.take_zero, List.append_nil]; exact HW.out
    exact ⟨Nat.le_refl _, rfl, h0, Below.refl _ _⟩
  case round =>
    obtain ⟨hg, rfl, HR⟩ := hrel
    cases gk with
    | zero =>
      have e0 : ((0 : Nat) : Int) - 1 = -1 := by omega
      rw [e0]
      clear e0
      go_wp2_with fail
      refine bodyPost_end (results_none rfl _ _ _) rfl ?_
      have := HR.out
      rw [Nat.sub_zero, List.take_of_length_le (Nat.le_of_eq (bitsOf_length x n))] at this
      exact ⟨rfl, this⟩
    | succ m =>
      have e1 : ((m + 1 : Nat) : Int) - 1 = (m : Int) := by omega
      rw [e1]
      clear e1
      generalize hcur : bs ++ (bitsOf x n).take (n - (m + 1)) = cur at *
      have hcl : cur.length = bs.length + (n - (m + 1)) := by rw [← hcur, List.length_append, List.length_take, bitsOf_length]; omega
      have hnext : bs ++ (bitsOf x n).take (n - m) = cur ++ [x.testBit m] := by
        rw [show n - m = (n - (m + 1)) + 1 by omega, bitsOf_take _ _ _ (by omega), ← List.append_assoc, hcur, show n - 1 - (n - (m + 1)) = m by omega]
      have HN := Lib.hid hnext
      clear hnext hcur
      obtain ⟨⟨v, hb, hown, hvb, hbb⟩, hbel⟩ := HR.out
      clear HR
      have c0 := blk_cell hb 0
      have c1 := blk_cell hb 1
      have f0 := blk_free hb 0
      have f1 := blk_free hb 1
      simp at c0 c1
      have hfl := freeOf_lt cur.length
      have hpl := pack_length cur
      by_cases h8 : cur.length % 8 = 0
      · have hf0 : freeOf cur.length = 0 := by unfold freeOf; omega
        rw [hf0] at c1
        have HB := Lib.hid hb
        have HBL := Lib.hid hbel
        have HOW := Lib.hid hown
        have hzw := lt_of_block hb
        have hbase : base ≤ wr.heap.size := by omega
        have hlb : hd.length + (pack cur).length + 1 ≤ 1000100 := by omega
        generalize hL : hd.length + (pack cur).length = len at *
        have HL := Lib.hid hL
        have HP := Lib.hid hpl
        have H8 := Lib.hid h8
        clear hb hbel hf0 hL hpl hfl hcl h8
        go_upto_region 7 with (at_builtin; refine wpList_append_one _ rfl (.tmp 21) (.tmp 22) 27 rfl base 5 i0 (.int .u8 0) 1 Tryd.underlying27 hi hz0 hz1 hz2 rfl _ _ _ rfl (HOW.out.alloc _) ⟨wr.heap.size, 0, none⟩ 1 (.int .u8 0) rfl ?_ rfl ?_ ?_ ?_ ?_)
        · exact cell_one_new _ _ _ 0 _ rfl
        · unfold maxLen; omega
        · omega
        · exact Nat.le_trans hbase (by simp)
        · intro g cap w1 hown1 hgr1 hblk1 hg1
          have hgb : g ≠ b := by
            intro e
            rcases hblk1 with h | h
            · exact hvb (h.trans (by rw [e]))
            · omega
          have hvn : some b ≠ v.ownBlock := fun h => hvb h.symm
          have c0' := hgr1.cell (past hzw c0 _) hvn
          have c1' := hgr1.cell (past hzw c1 _) hvn
          have hb1 := (hgr1.block b (by simp; omega) hvn).trans (blk_alloc HB.out _)
          have f0' := blk_free hb1 0
          have f1' := blk_free hb1 1
          have HB1 := Lib.hid hb1
          have HOW1 := Lib.hid hown1
          have HBL1 := Lib.hid ((HBL.out.alloc hbase _).grown hgr1 (by simp; omega) (fun k hk => (HOW.out.lt k hk).1))
          clear c0 c1 f0 f1 hb1 hown1 hgr1 hblk1 HB HBL HOW
          have hsn := snoc_new hd cur (x.testBit m) H8.out
          have hpn := pack_len_new cur (x.testBit m) H8.out
          rw [HL.out] at hsn
          have hfree' : freeOf (cur ++ [x.testBit m]).length = 7 := by have := H8.out; rw [List.length_append, List.length_singleton]; unfold freeOf; omega
          have hlast := HOW1.out.cellAt len (by omega)
          rw [List.getElem?_append_right (by rw [u8s_length, List.length_append, HL.out]; exact Nat.le_refl _), u8s_length, List.length_append, HL.out, Nat.sub_self] at hlast
          have hfz := HOW1.out.frozenAt len
          have HSN := Lib.hid hsn
          have HPN := Lib.hid hpn
          have HFR := Lib.hid hfree'
          clear hsn hpn hfree'
          go_upto_region 7 with fail
          have hne : (⟨b, 0, none⟩ : Addr) ≠ ⟨b, 1, none⟩ := by simp
          have a0 := set_other (u := .int .i64 7) hne.symm (set_other (u := .int .i64 8) hne.symm (set_same (u := .slice (some ⟨g, 0, none⟩) (len + 1) cap) c0'))
          have a1 := set_same (u := .int .i64 7) (set_same (u := .int .i64 8) (set_other (u := .slice (some ⟨g, 0, none⟩) (len + 1) cap) hne c1'))
          have al := set_other (u := .int .i64 7) (p := ⟨b, 1, none⟩) (fun e => hgb (congrArg Addr.block e).symm) (set_other (u := .int .i64 8) (p := ⟨b, 1, none⟩) (fun e => hgb (congrArg Addr.block e).symm) (set_other (u := .slice (some ⟨g, 0, none⟩) (len + 1) cap) (p := ⟨b, 0, none⟩) (fun e => hgb (congrArg Addr.block e).symm) hlast))
          have ag := set_free (u := .int .i64 7) (p := ⟨b, 1, none⟩) (set_free (u := .int .i64 8) (p := ⟨b, 1, none⟩) (set_free (u := .slice (some ⟨g, 0, none⟩) (len + 1) cap) (p := ⟨b, 0, none⟩) hfz))
          clear c0' c1' hlast hfz f0' f1'
          generalize hw7 : ((w1.setCell ⟨b, 0, none⟩ (.slice (some ⟨g, 0, none⟩) (len + 1) cap)).setCell ⟨b, 1, none⟩ (.int .i64 8)).setCell ⟨b, 1, none⟩ (.int .i64 7) = w7 at *
          have HW7 := Lib.hid hw7
          clear hw7
          have hl0 : (0 : Int) < (len : Int) + 1 := by omega
          go_region
          go_wp2_with fail
          go_roundg m
          case measure => omega
          case rel =>
            have hby := byte_or x m 0 7 hx (by omega) (by omega)
            rw [show ((0 : Nat) : Int) = 0 from rfl, show (2 : Int) ^ 7 = 128 from rfl] at hby
            rw [hby]
            refine ⟨by omega, rfl, ?_⟩
            rw [HN.out, ← HW7.out]
            have hbm := blk_set (blk_set (blk_set HB1.out 0 (.slice (some ⟨g, 0, none⟩) (len + 1) cap)) 1 (.int .i64 8)) 1 (.int .i64 7)
            have hob : (Value.slice (some ⟨g, 0, none⟩) (len + 1) cap).ownBlock ≠ some b := by simp [Value.ownBlock, hgb]
            have hown7 := ownsRow_setCell_other (ownsRow_setCell_other (ownsRow_setCell_other HOW1.out (a := ⟨b, 0, none⟩) hob (.slice (some ⟨g, 0, none⟩) (len + 1) cap)) (a := ⟨b, 1, none⟩) hob (.int .i64 8)) (a := ⟨b, 1, none⟩) hob (.int .i64 7)
            have hst := (hown7.stored len (.int .u8 ((0 ||| (x.testBit m).toNat <<< 7 : Nat)))).1
            refine ⟨⟨.slice (some ⟨g, 0, none⟩) (len + 1) cap, ?_, ?_, hob, hbb⟩, ?_⟩
            · rw [HFR.out]
              show (World.setCell _ ⟨g, len, none⟩ _).heap[b]? = _
              rw [Below.heap_setCell _ _ _ _ (fun e => hgb e.symm), hbm]
              rfl
            · rw [HPN.out, ← Nat.add_assoc, HL.out, HSN.out]
              exact hst.drew
            · exact ((((HBL1.out.setCell (p := ⟨b, 0, none⟩) hbb _).setCell (p := ⟨b, 1, none⟩) hbb _).setCell (p := ⟨b, 1, none⟩) hbb _).setCell (p := ⟨g, len, none⟩) hg1 _).drew
      · have hf0 : freeOf cur.length = 8 - cur.length % 8 := by unfold freeOf; omega
        rcases hown.2 with ⟨-, hz⟩ | ⟨g, cap, cells, rfl, hg1, hg2, hg3, hg4, hg5, hg6⟩
        · omega
        · have hlast := hown.cellAt (hd.length + (pack cur).length - 1) (by omega)
          rw [u8s_get _ _ (by rw [List.length_append]; omega)] at hlast
          have hfz := hown.frozenAt (hd.length + (pack cur).length - 1)
          have hgb : g ≠ b := by simpa [Value.ownBlock] using hvb
          have hl256 := last_lt hd cur (by omega)
          have hsn := snoc_in hd cur (x.testBit m) h8
          have hpn := pack_len_in cur (x.testBit m) h8
          generalize hL : hd.length + (pack cur).length = len at *
          generalize hlst : (hd ++ pack cur).getD (len - 1) 0 = last at *
          have hfm : 7 - cur.length % 8 = freeOf cur.length - 1 := by omega
          rw [hfm] at hsn
          have hfree' : freeOf (cur ++ [x.testBit m]).length = freeOf cur.length - 1 := by rw [List.length_append, List.length_singleton]; unfold freeOf; omega
          generalize hfree : freeOf cur.length = free at *
          have HO := Lib.hid hown
          have HB := Lib.hid hb
          have HL := Lib.hid hL
          have HSN := Lib.hid hsn
          have HPN := Lib.hid hpn
          have HFR := Lib.hid hfree'
          have HBL := Lib.hid hbel
          have hfr : 0 < free := by omega
          have hlen0 : 0 < len := by omega
          have hlb : len ≤ 1000100 := by omega
          clear hf0 hown hb hL hlst hfree hbel hcl hpl hg2 hg6 hg5 h8 hvb hsn hpn hfm hfree'
          go_upto_region 7 with fail
          have d0 := set_other (u := .int .i64 ((free : Int) - 1)) (p := ⟨b, 1, none⟩) (by simp) c0
          have d1 := set_same (u := .int .i64 ((free : Int) - 1)) c1
          have dl := set_other (u := .int .i64 ((free : Int) - 1)) (p := ⟨b, 1, none⟩) (fun e => hgb (congrArg Addr.block e).symm) hlast
          have dg := set_free (u := .int .i64 ((free : Int) - 1)) (p := ⟨b, 1, none⟩) hfz
          clear c0 c1 hlast hfz f0 f1
          generalize hw7 : wr.setCell ⟨b, 1, none⟩ (.int .i64 ((free : Int) - 1)) = w7 at *
          have HW7 := Lib.hid hw7
          clear hw7
          have hl0 : (0 : Int) < (len : Int) := by omega
          go_region
          go_wp2_with fail
          go_roundg m
          case measure => omega
          case rel =>
            rw [byte_or x m last (free - 1) hx hl256 (by omega)]
            refine ⟨by omega, rfl, ?_⟩
            rw [HN.out, ← HW7.out]
            have hbm := blk_set HB.out 1 (.int .i64 ((free : Int) - 1))
            have hown7 := ownsRow_setCell_other HO.out (a := ⟨b, 1, none⟩) (by simp [Value.ownBlock, hgb]) (.int .i64 ((free : Int) - 1))
            have hst := (hown7.stored (len - 1) (.int .u8 ((last ||| (x.testBit m).toNat <<< (free - 1) : Nat)))).1
            refine ⟨⟨.slice (some ⟨g, 0, none⟩) len cap, ?_, ?_, by simp [Value.ownBlock, hgb], hbb⟩, ?_⟩
            · rw [HFR.out]
              show ((wr.setCell ⟨b, 1, none⟩ _).setCell ⟨g, len - 1, none⟩ _).heap[b]? = _
              rw [Below.heap_setCell _ _ _ _ (fun e => hgb e.symm), hbm]
              simp
              omega
            · rw [HPN.out, HL.out, HSN.out]
              exact hst.drew
            · exact ((HBL.out.setCell (p := ⟨b, 1, none⟩) hbb _).setCell (p := ⟨g, len - 1, none⟩) hg1 _).drew
end Go.Proofs.YtjlnicjnjnkdoaaDoor
