/- Contract of series.Pack. By an AI agent. -/
import Derived.Test.YtjlnicjnjnkdoaaDoorSerC
import Derived.WalkSpells
import Derived.Deep.AppendLies
namespace Go.Proofs.YtjlnicjnjnkdoaaDoor
open Go.ChangeShapes Go.WideShapes Go.ChangeAt Go.RowKit
open Bt
set_option linter.unusedVariables false

theorem change_any (b base : Nat) (hd : List Nat) (bs : List Bool) {x : Int} (X : Nat) (ex : x = X) (w : World) (hw : WS w b base hd bs) (hx : X < 18446744073709551616) (hlen : hd.length + bs.length ≤ 999900) (hT : Tab w) (hg : 1 < base) :
    Calls Tryd.prog 18 #[.pointer (some ⟨b, 0, none⟩), .int .u64 x] w fun e w' => e = .returned (.tuple #[]) ∧ WS w' b base hd (bs ++ enc X) ∧ Below base w w' := by
  subst ex
  by_cases h0 : X = 0
  · subst h0
    exact change_zero b base hd bs w hw (by omega)
  · exact change_some b base hd bs X w hw h0 hx hlen hT hg

theorem cell_in {w : World} {a : Addr} {v : Value} (h : w.cell? a = some v) : a.block < w.heap.size := by
  refine Nat.lt_of_not_le fun hh => ?_
  unfold World.cell? at h
  rw [Array.getElem?_eq_none hh] at h
  simp at h

/-- The bits of the first n numbers. -/
def encN (us : List Nat) : Nat → List Bool
  | 0 => []
  | i + 1 => encN us i ++ (if i = 0 then bitsOf (us.getD 0 0) 64 else enc (us.getD i 0 ^^^ us.getD (i - 1) 0))

theorem enc_length (x : Nat) (hx : x < 18446744073709551616) : 1 ≤ (enc x).length ∧ (enc x).length ≤ 77 := by
  unfold enc
  split
  · simp
  · rename_i h
    have := ends_of h hx
    simp only [List.length_cons, List.length_append, bitsOf_length]
    omega
theorem xor_u64 {a b : Nat} (ha : a < 18446744073709551616) (hb : b < 18446744073709551616) : a ^^^ b < 18446744073709551616 := Nat.xor_lt_two_pow (n := 64) ha hb
theorem encN_length (us : List Nat) (hu : ∀ i, us.getD i 0 < 18446744073709551616) (n : Nat) : (encN us n).length ≤ 77 * n := by
  induction n with
  | zero => simp [encN]
  | succ n ih =>
    unfold encN
    rw [List.length_append]
    split
    · rw [bitsOf_length]; omega
    · have := (enc_length _ (xor_u64 (hu n) (hu (n - 1)))).2; omega

/-- A slice of floats, by their bits. -/
def Fls (w : World) (o : Option Addr) (us : List Nat) : Prop := ∀ i, i < us.length → ∃ ad, o = some ad ∧ w.cell? (ad.add i) = some (.float .f64 (us.getD i 0))

/-- What Pack answers. -/
def Packed (base : Nat) (us : List Nat) (w : World) (e : Ending) (w' : World) : Prop :=
  ∃ v, e = .returned (.tuple #[v, .int .i64 0]) ∧ w'.ownsRow base 5 1 v ((vnt us.length).length + (pack (encN us us.length)).length) (u8s (vnt us.length ++ pack (encN us us.length))) ∧ Below base w w'

theorem varint_len (n : Nat) (w : World) (h : n < 16384) : Calls Tryd.prog 15 #[.int .u64 n] w (Row w.heap.size (vnt n) w) := by
  by_cases h1 : n < 128
  · exact varint_small n w h1
  · exact varint_big n w (by omega) h

set_option maxRecDepth 100000 in
set_option maxHeartbeats 2000000 in
theorem pack_any (o : Option Addr) (us : List Nat) (cap : Nat) (w : World) (hu : ∀ i, us.getD i 0 < 18446744073709551616) (hF : Fls w o us) (hn : us.length ≤ 4096) (hT : Tab w) (hg : 1 < w.heap.size) :
    Calls Tryd.prog 6 #[.slice o us.length cap] w (Packed w.heap.size us w) := by
  have HU := Lib.hid hu
  have HF := Lib.hid hF
  have HT := Lib.hid hT
  clear hu hF hT
  generalize hlen : us.length = n at *
  have HLEN := Lib.hid hlen
  clear hlen
  go_enter Tryd.func6, Tryd.ntmps6
  go_wp2_with (go_at_call 15; go_must (refine (varint_len n w (by omega)).mono ?_; rintro e w1 ⟨v, rfl, hown, hbel⟩; obtain ⟨g0, cap0, hv0, hg0⟩ := hown.form (by have := vnt_length n; omega); have HO := Lib.hid hown; have HB := Lib.hid hbel; clear hown hbel; subst hv0; have hvz := (vnt_length n).1; have hvy := (vnt_length n).2))
  have hws : WS (w1.alloc (.cells #[.slice (some ⟨g0, 0, none⟩) (vnt n).length cap0, .int .i64 0] 46)) w1.heap.size w.heap.size (vnt n) [] := by
    refine ⟨_, blk_new _ _, ?_, ?_, ?_⟩
    · have h := HO.out.alloc (.cells #[.slice (some ⟨g0, 0, none⟩) (vnt n).length cap0, .int .i64 0] 46)
      simpa [pack] using h
    · have h := (HO.out.lt g0 rfl).2
      simp [Value.ownBlock]
      omega
    · exact HB.out.size
  have hbl : Below w.heap.size w (w1.alloc (.cells #[.slice (some ⟨g0, 0, none⟩) (vnt n).length cap0, .int .i64 0] 46)) := HB.out.alloc HB.out.size _
  have HW := Lib.hid (And.intro hws hbl)
  clear hws hbl HO HB hg0
  generalize w1.alloc (.cells #[.slice (some ⟨g0, 0, none⟩) (vnt n).length cap0, .int .i64 0] 46) = wz at *
  generalize w1.heap.size = b at *
  go_loopg [5, 20] n (fun g last i wr => ∃ k : Nat, g + k = n ∧ i = .int .i64 (k : Int) ∧ (∃ l : Nat, last = .int .u64 (l : Int) ∧ (0 < k → l = us.getD (k - 1) 0)) ∧ Hid (WS wr b w.heap.size (vnt n) (encN us k) ∧ Below w.heap.size w wr))
  case atStart => exact ⟨0, by omega, rfl, ⟨0, rfl, fun h => absurd h (by omega)⟩, HW⟩
  case round =>
    obtain ⟨k, hgk, rfl, ⟨l, rfl, hl⟩, HR⟩ := hrel
    have hl64 : l < 18446744073709551616 ∨ k = 0 := by
      rcases Nat.eq_zero_or_pos k with h | h
      · exact Or.inr h
      · left; rw [hl h]; exact HU.out _
    have HL := Lib.hid (And.intro hl hl64)
    clear hl hl64
    by_cases hk : k < n
    · obtain ⟨ad, rfl, hcell⟩ := HF.out k (by rw [HLEN.out]; exact hk)
      have hcz : wr.cell? (ad.add k) = some (.float .f64 (us.getD k 0)) := by
        rw [← hcell]; exact HR.out.2.cell (by exact cell_in hcell)
      have hu := HU.out k
      generalize hU : us.getD k 0 = U at *
      have HUU := Lib.hid hU
      clear hU hcell
      have e1 := ext_bits U
      have hb1 := encN_length us HU.out k
      rcases Nat.eq_zero_or_pos k with hk0 | hk0
      · have hkt : ((k : Int) == 0) = true := by simp; omega
        have hlk : (vnt n).length + (encN us k).length ≤ 1000000 := by omega
        have HK0 := Lib.hid hk0
        clear hk0
        go_wp2_with fail
        refine (put_any b w.heap.size (vnt n) _ U 64 wr HR.out.1 hu (by omega) hlk).mono ?_
        rintro e w2 ⟨rfl, h2⟩
        have H2 := Lib.hid (show _ ∧ _ from ⟨h2.1, HR.out.2.trans h2.2⟩)
        clear h2 HR
        go_wp2_with fail
        go_roundg (gk - 1)
        case measure => omega
        case rel => exact ⟨k + 1, by omega, rfl, ⟨U, rfl, fun _ => HUU.out.symm⟩, by
          have h := H2.out
          have hk0 := HK0.out
          subst hk0
          rw [← HUU.out] at h
          exact h⟩
      · have hl := HL.out.1 hk0
        have hl64 : l < 18446744073709551616 := by rw [hl]; exact HU.out _
        have hkz : ((k : Int) == 0) = false := by simp; omega
        have hx := bits_xor_u64_nat U l hu hl64
        have HLL := Lib.hid hl
        clear hl HL
        have HX := Lib.hid (xor_u64 hu hl64)
        go_wp2_with fail
        refine (change_any b w.heap.size (vnt n) _ (U ^^^ l) (by first | rfl | exact hx) wr HR.out.1 HX.out (by omega) (HT.out.below HR.out.2 hg) hg).mono ?_
        rintro e w2 ⟨rfl, h2⟩
        have H2 := Lib.hid (show _ ∧ _ from ⟨h2.1, HR.out.2.trans h2.2⟩)
        clear h2 HR
        go_wp2_with fail
        go_roundg (gk - 1)
        case measure => omega
        case rel => exact ⟨k + 1, by omega, rfl, ⟨U, rfl, fun _ => HUU.out.symm⟩, by
          have h := H2.out
          rw [← HUU.out, HLL.out] at h
          unfold encN
          rw [if_neg (by omega)]
          exact h⟩
    · have hkn : k = n := by omega
      subst hkn
      obtain ⟨⟨v, hb, hown, -, -⟩, hbel⟩ := HR.out
      have c0 := blk_cell hb 0
      simp at c0
      have HO := Lib.hid (And.intro hown hbel)
      clear hb hown hbel
      go_wp2_with fail
      go_ret2
      refine ⟨v, rfl, ?_, HO.out.2⟩
      have h := HO.out.1
      rw [HLEN.out]
      exact h
end Go.Proofs.YtjlnicjnjnkdoaaDoor
