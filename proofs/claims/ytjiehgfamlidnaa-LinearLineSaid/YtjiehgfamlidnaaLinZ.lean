/- What the statements of layer 24 ask ahead. By an AI agent. -/
import Derived.Test.YtjiehgfamlidnaaLinX
import Derived.Test.YtjiehgfamlidnaaLinW
import Derived.Test.YtjiehgfamlidnaaLinY
import Derived.Test.YtjiehgfamlidnaaModQ
import Derived.Lib.SmallJoins
namespace Go.Proofs.Ytjiehgfamlidnaa.Lin
open Go.ChangeShapes Go.WideShapes Go.ChangeAt Go.RowKit
open Md
set_option linter.unusedVariables false
set_option linter.unusedSimpArgs false

def bp0 : Past := ⟨1, 0, [97], 0, 2, [], 1, 9⟩
def bp1 : Past := ⟨1, 0, [98], 0, 1, [], 2, 5⟩
def bps : List Past := [bp0, bp1]
theorem bps_bg : bgE 1 bps = 0 := by decide +kernel
theorem bef0 : befOf bps 0 = 0 := by decide +kernel
theorem bef1 : befOf bps 1 = 0 := by decide +kernel
theorem all2 : allOf bps = 3 := by decide +kernel
theorem stp1 : stepF (nd0 1).m (bps.getD 1 zP) = some (⟨1, 1, 1, 2, 9223372036854775807, false, false⟩, [[98]]) := by decide +kernel
theorem stp0 : stepF (⟨1, 1, 1, 2, 9223372036854775807, false, false⟩, [[98]]) (bps.getD 0 zP) = some (⟨1, 1, 1, 3, 9223372036854775807, false, false⟩, [[98], [97]]) := by decide +kernel
theorem stp0n : stepF (nd0 1).m (bps.getD 0 zP) = none := by decide +kernel
theorem put0n : putF bps (nd0 1) 0 = none := put_none_step stp0n
theorem chain10 : ∃ d, Chain bps (nd0 1) [1, 0] d ∧ Done bps d := by
  have h1 := put_of (ps := bps) (d := nd0 1) (i := 1) ⟨by simp [nd0], fun j hj => by rw [bef1] at hj; simp at hj⟩ stp1
  have h2 := put_of (ps := bps) (d := ⟨_, keyOf' (bps.getD 1 zP) 1 2 (nd0 1).k 1⟩) (i := 0) ⟨by decide +kernel, fun j hj => by rw [bef0] at hj; simp at hj⟩ stp0
  refine ⟨_, Chain.cons (by decide) h1 (Chain.cons (by decide) h2 (Chain.nil _)), fun j hj => ?_⟩
  rw [all2] at hj
  have hj2 : j < 2 := by
    rcases Nat.lt_or_ge j 2 with h | h
    · exact h
    · have : (3 : Nat).testBit j = false := Nat.testBit_lt_two_pow (Nat.lt_of_lt_of_le (by decide : 3 < 2 ^ 2) (Nat.pow_le_pow_right (by decide) h))
      rw [this] at hj; cases hj
  have : j = 0 ∨ j = 1 := by omega
  rcases this with rfl | rfl <;> decide +kernel
theorem lex_same {l : List Nat} {d : Nd} (hc : Chain bps (nd0 1) l d) (hd : Done bps d) : l = [1, 0] := by
  obtain ⟨b1, b2, b3⟩ := hc.bits
  have m0 : 0 ∈ l := by
    have := hd 0 (by rw [all2]; decide)
    rw [b1] at this
    simpa [nd0] using this
  match l, hc, b2, m0 with
  | [], _, _, m0 => simp at m0
  | i :: t, hc, b2, m0 =>
    cases hc with
    | cons hi hp tl =>
      have hi2 : i < 2 := hi
      have : i = 0 ∨ i = 1 := by omega
      rcases this with rfl | rfl
      · rw [put0n] at hp; cases hp
      · match t, tl, b2, m0 with
        | [], _, _, m0 => simp at m0
        | i' :: t', tl, b2, m0 =>
          cases tl with
          | cons hi' hp' tl' =>
            have hi2' : i' < 2 := hi'
            have : i' = 0 ∨ i' = 1 := by omega
            rcases this with rfl | rfl
            · match t', tl', b2 with
              | [], _, _ => rfl
              | i'' :: t'', tl', b2 =>
                exfalso
                cases tl' with
                | cons hi'' hp'' _ =>
                  have hi2'' : i'' < 2 := hi''
                  have : i'' = 0 ∨ i'' = 1 := by omega
                  rcases this with rfl | rfl <;> simp at b2
            · simp at b2
theorem lg10 : lgB 1 bps [1, 0] = true := by
  obtain ⟨d, hc, hd⟩ := chain10
  exact lg_true.2 ⟨[1, 0], d, rfl, hc, hd⟩
theorem lg01 : lgB 1 bps [0, 1] = false := by
  rw [Bool.eq_false_iff]
  intro h
  obtain ⟨l, d, e, hc, hd⟩ := lg_true.1 h
  rw [lex_same hc hd] at e
  exact absurd e (by decide)

theorem conv_byte (w : World) (x : Int) : (convert 30 30 (.slice (some ⟨w.heap.size, 0, none⟩) 1 1)).run Try.prog (w.alloc (.cells #[.int .u8 x] 5)) = .ok (.slice (some ⟨w.heap.size, 0, none⟩) 1 1) (w.alloc (.cells #[.int .u8 x] 5 (1, 2))) :=
  Go.Joins.run_convert_bytes_const_at w 30 5 #[.int .u8 x] 1 1 w.heap.size rfl Try.underlying30 Try.underlying5
theorem conv_byte1 (w : World) (o : Obj) (x : Int) : (convert 30 30 (.slice (some ⟨w.heap.size + 1, 0, none⟩) 1 1)).run Try.prog ((w.alloc o).alloc (.cells #[.int .u8 x] 5)) = .ok (.slice (some ⟨w.heap.size + 1, 0, none⟩) 1 1) ((w.alloc o).alloc (.cells #[.int .u8 x] 5 (1, 2))) :=
  Go.Joins.run_convert_bytes_const_at (w.alloc o) 30 5 #[.int .u8 x] 1 1 (w.heap.size + 1) (by simp) Try.underlying30 Try.underlying5

/-- The pasts that are asked, in memory. -/
theorem bps_at (w : World) : Ps (((w.alloc (.cells #[.int .u8 97] 5 (1, 2))).alloc (.cells #[.int .u8 98] 5 (1, 2))).alloc (.cells #[.int .i64 1, .int .i64 0, .slice (some ⟨w.heap.size, 0, none⟩) 1 1, .int .i64 0, .int .i64 2, .slice none 0 0, .int .i64 1, .int .i64 9, .int .i64 1, .int .i64 0, .slice (some ⟨w.heap.size + 1, 0, none⟩) 1 1, .int .i64 0, .int .i64 1, .slice none 0 0, .int .i64 2, .int .i64 5] 50)) (some ⟨w.heap.size + 1 + 1, 0, none⟩) bps := by
  have hb := blk_new_at ((w.alloc (.cells #[.int .u8 97] 5 (1, 2))).alloc (.cells #[.int .u8 98] 5 (1, 2))) (.cells #[.int .i64 1, .int .i64 0, .slice (some ⟨w.heap.size, 0, none⟩) 1 1, .int .i64 0, .int .i64 2, .slice none 0 0, .int .i64 1, .int .i64 9, .int .i64 1, .int .i64 0, .slice (some ⟨w.heap.size + 1, 0, none⟩) 1 1, .int .i64 0, .int .i64 1, .slice none 0 0, .int .i64 2, .int .i64 5] 50) (n := w.heap.size + 1 + 1) (by simp)
  intro i hi
  have : i = 0 ∨ i = 1 := by have : i < 2 := hi; omega
  rcases this with rfl | rfl
  · refine ⟨_, _, rfl, some ⟨w.heap.size, 0, none⟩, 1, none, 0, ⟨?_, (fun h => nomatch h), small_one 97 (by omega), bys_nil _ _, small_nil⟩, fun j hj => ?_⟩
    · exact bys_keep (bys_keep (bys_one w 97 _ rfl) ((Below.refl _ _).alloc (Nat.le_refl _) _)) ((Below.refl _ _).alloc (Nat.le_refl _) _)
    · rw [blk_cell hb]
      have : j = 0 ∨ j = 1 ∨ j = 2 ∨ j = 3 ∨ j = 4 ∨ j = 5 ∨ j = 6 ∨ j = 7 := by omega
      rcases this with rfl | rfl | rfl | rfl | rfl | rfl | rfl | rfl <;> rfl
  · refine ⟨_, _, rfl, some ⟨w.heap.size + 1, 0, none⟩, 1, none, 0, ⟨?_, (fun h => nomatch h), small_one 98 (by omega), bys_nil _ _, small_nil⟩, fun j hj => ?_⟩
    · exact bys_keep (bys_one (w.alloc (.cells #[.int .u8 97] 5 (1, 2))) 98 _ (by simp)) ((Below.refl _ _).alloc (Nat.le_refl _) _)
    · rw [blk_cell hb]
      have : j = 0 ∨ j = 1 ∨ j = 2 ∨ j = 3 ∨ j = 4 ∨ j = 5 ∨ j = 6 ∨ j = 7 := by omega
      rcases this with rfl | rfl | rfl | rfl | rfl | rfl | rfl | rfl <;> rfl

theorem ints_own {w : World} {base : Nat} {g cap : Nat} {l : List Nat} (h : w.ownsRow base 3 1 (.slice (some ⟨g, 0, none⟩) l.length cap) l.length (ints l)) : Ints w (some ⟨g, 0, none⟩) (nats l) := by
  intro i hi
  have hi' : i < l.length := by simpa [nats] using hi
  refine ⟨g, 0, rfl, ?_⟩
  have := h.cells rfl i (.int .i64 ((nats l).getD i 0)) (by
    rw [List.getD_eq_getElem?_getD]
    simp [ints, nats, hi'])
  rw [addr_add] at this
  exact this

set_option maxRecDepth 100000 in
set_option maxHeartbeats 16000000 in
theorem begun24_any (w : World) : Calls Try.prog 12 #[] w fun e w' => e = .returned (.bool true) ∧ Below w.heap.size w w' := by
  have hc1 := conv_byte w 97
  have hc2 := conv_byte1 w (.cells #[.int .u8 97] 5 (1, 2)) 98
  have HB := Lib.hid (bps_at w)
  have hb0 : Below w.heap.size w (((w.alloc (.cells #[.int .u8 97] 5 (1, 2))).alloc (.cells #[.int .u8 98] 5 (1, 2))).alloc (.cells #[.int .i64 1, .int .i64 0, .slice (some ⟨w.heap.size, 0, none⟩) 1 1, .int .i64 0, .int .i64 2, .slice none 0 0, .int .i64 1, .int .i64 9, .int .i64 1, .int .i64 0, .slice (some ⟨w.heap.size + 1, 0, none⟩) 1 1, .int .i64 0, .int .i64 1, .slice none 0 0, .int .i64 2, .int .i64 5] 50)) := (((Below.refl _ w).alloc (Nat.le_refl _) _).alloc (by simp) _).alloc (by simp; omega) _
  have HB0 := Lib.hid hb0
  clear hb0
  go_enter Try.func12, Try.ntmps12
  go_wp2_with fail
  generalize (((w.alloc (.cells #[.int .u8 97] 5 (1, 2))).alloc (.cells #[.int .u8 98] 5 (1, 2))).alloc (.cells #[.int .i64 1, .int .i64 0, .slice (some ⟨w.heap.size, 0, none⟩) 1 1, .int .i64 0, .int .i64 2, .slice none 0 0, .int .i64 1, .int .i64 9, .int .i64 1, .int .i64 0, .slice (some ⟨w.heap.size + 1, 0, none⟩) 1 1, .int .i64 0, .int .i64 1, .slice none 0 0, .int .i64 2, .int .i64 5] 50)) = W at *
  clear hc1 hc2
  generalize hoo : (some ⟨w.heap.size + 1 + 1, 0, none⟩ : Option Addr) = oo at *
  clear hoo
  refine (check_any 1 oo bps 2 W HB.out (by decide) (by decide)).mono ?_
  intro e w2 h
  obtain ⟨hb2, h⟩ := h
  obtain ⟨g2, cap2, rfl, hown⟩ : ∃ g cap, e = .returned (.tuple #[.slice (some ⟨g, 0, none⟩) 2 cap, .bool true, .int .i64 0]) ∧ w2.ownsRow W.heap.size 3 1 (.slice (some ⟨g, 0, none⟩) ([1, 0] : List Nat).length cap) ([1, 0] : List Nat).length (ints [1, 0]) := by
    rcases h with ⟨h, -⟩ | ⟨-, h, -⟩ | ⟨-, v, l, d, rfl, h1, h2, h3, h4⟩
    · exact absurd bps_bg h
    · obtain ⟨d, hc, hd⟩ := chain10
      exact absurd hd (h _ _ hc)
    · obtain rfl := lex_same h2 h3
      obtain ⟨g, cap, rfl, -, -⟩ := World.ownsRow.form h1 (by decide)
      exact ⟨g, cap, rfl, h1⟩
  have hi2 := ints_own hown
  have H2 := Lib.hid (And.intro hb2 hi2)
  have c0 : w2.cell? ⟨g2, 0, none⟩ = some (.int .i64 1) := by
    obtain ⟨ab, ao, e, h⟩ := hi2 0 (by decide)
    cases e
    exact h
  clear h hb2 hown hi2
  go_wp2_with fail
  refine (most_any 1 oo bps 2 w2 (HB.out.keep H2.out.1) (by decide) (by decide)).mono ?_
  intro e w3 h
  obtain ⟨hb3, h⟩ := h
  obtain rfl : e = .returned (.tuple #[.int .i64 2, .int .i64 0]) := by
    rcases h with ⟨h, -⟩ | ⟨-, most, rfl, h1, h2⟩
    · exact absurd bps_bg h
    · obtain ⟨d, hc, hd⟩ := chain10
      have h3 := h1 _ _ hc
      have h4 : most ≤ 2 := h2
      have h5 : (2 : Int) ≤ most := h3
      obtain rfl : most = 2 := by omega
      rfl
  have c0' : w3.cell? ⟨g2, 0, none⟩ = some (.int .i64 1) := (hb3.cell (cell_in c0)).trans c0
  have H3 := Lib.hid (And.intro (H2.out.1.trans (hb3.mono H2.out.1.size)) (ints_keep H2.out.2 hb3))
  clear h hb3 c0
  go_wp2_with fail
  refine (legal_any 1 oo (some ⟨g2, 0, none⟩) bps [1, 0] 2 cap2 w3 (HB.out.keep H3.out.1) bps_bg (by decide) H3.out.2 (by decide)).mono ?_
  rintro e w4 ⟨rfl, hb4⟩
  rw [lg10]
  have H4 := Lib.hid (H3.out.1.trans (hb4.mono H3.out.1.size))
  clear hb4 c0'
  go_wp2_with fail
  refine (legal_any 1 oo (some ⟨w4.heap.size, 0, none⟩) bps [0, 1] 2 2 _ (HB.out.keep (H4.out.alloc H4.out.size _)) bps_bg (by decide) ?_ (by decide)).mono ?_
  · intro i hi
    have : i = 0 ∨ i = 1 := by have : i < 2 := hi; omega
    rcases this with rfl | rfl
    · exact ⟨_, _, rfl, (blk_cell (blk_new w4 _) 0)⟩
    · exact ⟨_, _, rfl, (blk_cell (blk_new w4 _) 1)⟩
  rintro e w5 ⟨rfl, hb5⟩
  rw [lg01]
  have H5 := Lib.hid (H4.out.trans ((((Below.refl w4.heap.size w4).alloc (Nat.le_refl _) (.cells #[.int .i64 0, .int .i64 1] 3)).trans (hb5.mono (by simp))).mono H4.out.size))
  clear hb5
  go_wp2_with fail
  go_ret
  exact ⟨rfl, HB0.out.trans (H5.out.mono HB0.out.size)⟩
end Go.Proofs.Ytjiehgfamlidnaa.Lin
