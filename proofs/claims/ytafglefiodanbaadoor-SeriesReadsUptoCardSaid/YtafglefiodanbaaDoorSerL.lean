/- Bytes lent, with a mark behind them; are they back as they were. By an AI agent. -/
import Derived.Test.YtafglefiodanbaaDoorSerJ
import Derived.Test.YtafglefiodanbaaDoorApp
namespace Go.Proofs.YtafglefiodanbaaDoor
open Go.ChangeShapes Go.WideShapes Go.ChangeAt Go.RowKit
open Bt
set_option linter.unusedVariables false

theorem bys_keep0 {w w' : World} {o : Option Addr} {B : List Nat} (h : Bys w o B) (k : Below w.heap.size w w') : Bys w' o B := by
  intro i hi
  obtain ⟨ad, ho, hc⟩ := h i hi
  exact ⟨ad, ho, (k.cell (cell_in hc)).trans hc⟩
theorem u8_bytes0 {B : List Nat} {ob : Option Addr} {w : World} (h : Bys w ob B) : ∀ j u, (u8s B)[j]? = some u → ∃ ad, ob = some ad ∧ w.cell? (ad.add j) = some u := by
  intro j u hj
  have hl : j < B.length := by
    have := (List.getElem?_eq_some_iff.1 hj).1
    rwa [u8s_length] at this
  rw [u8s_get B j hl] at hj
  cases hj
  exact h j hl
theorem u8_one0 {B : List Nat} : ∀ u ∈ u8s B, u.oneCell' = true := by
  intro u hu
  obtain ⟨n, -, rfl⟩ := List.mem_map.1 hu
  rfl

theorem getD_app0' (A Z : List Nat) (i : Nat) (h : i < A.length) : (A ++ Z).getD i 0 = A.getD i 0 := by
  rw [List.getD_eq_getElem?_getD, List.getElem?_append_left h, ← List.getD_eq_getElem?_getD]

theorem row_below {w w' : World} {base size n : Nat} {e : TypeId} {v : Value} {xs : List Value} (h : w.ownsRow base e size v n xs) (k : Below w.heap.size w w') : w'.ownsRow base e size v n xs := by
  refine h.kept (row := none) ⟨k.os, k.tape, k.output, k.size, fun i hi _ => k.block i hi⟩ ?_
  rcases hq : v.ownBlock with _ | i
  · exact Or.inl rfl
  · exact Or.inr (by simp)
theorem keep_row0 {w : World} {base size n : Nat} {e : TypeId} {v : Value} {xs : List Value} (h : w.ownsRow base e size v n xs) (q : Nat) : (w.drewN q).ownsRow base e size v n xs := h

/-- Lent bytes: a row of their own, two marks behind them. -/
def LentAt (base : Nat) (B : List Nat) (w : World) (e : Ending) (w' : World) : Prop :=
  ∃ g c, e = .returned (.slice (some ⟨g, 0, none⟩) B.length c) ∧ base ≤ g ∧ w'.ownsRow base 5 1 (.slice (some ⟨g, 0, none⟩) (B.length + 2) c) (B.length + 2) (u8s (B ++ [171, 172])) ∧ Below base w w'

set_option maxRecDepth 100000 in
set_option maxHeartbeats 2000000 in
theorem lent_any (o : Option Addr) (cap : Nat) (B : List Nat) (w : World) (hF : Bys w o B) (hn : B.length ≤ 2000000) (hc : o = none → cap = 0) :
    Calls Tryd.prog 11 #[.slice o B.length cap] w (LentAt w.heap.size B w) := by
  obtain ⟨i0, hi, hz0, hz1, hz2⟩ := info_parts info_u8
  have HF := Lib.hid (And.intro hF hc)
  clear hF hc
  go_enter Tryd.func11, Tryd.ntmps11
  go_wp2_with (at_builtin; go_must (refine wpList_append_sl _ rfl (.const (.slice none 0 0)) (.tmp 4) 23 rfl w.heap.size 5 i0 (.int .u8 0) 1 Tryd.underlying23 hi hz0 hz1 hz2 rfl _ 0 [] rfl (nil_row _ _ _) o B.length cap (u8s B) rfl (u8s_length B) (u8_bytes0 HF.out.1) u8_one0 HF.out.2 ?_ ?_ (Nat.le_refl _) ?_))
  · unfold maxLen; omega
  · omega
  · intro v4 w4 hown hgr hblk
    have hb4 : Below w.heap.size w w4 := (Below.refl _ w).grown hgr (Nat.le_refl _) (by intro k hk; cases hk)
    have H4 := Lib.hid (And.intro hown hb4)
    clear hown hgr hblk hb4
    go_wp2_with (at_builtin; go_must (refine wpList_append_sl _ rfl (.tmp 6) (.tmp 7) 23 rfl w.heap.size 5 i0 (.int .u8 0) 1 Tryd.underlying23 hi hz0 hz1 hz2 rfl _ B.length _ rfl (H4.out.1.alloc _) (some ⟨w4.heap.size, 0, none⟩) 2 2 (u8s [171, 172]) rfl rfl (u8_bytes0 (lit_bys w4 [171, 172] _ rfl)) u8_one0 (fun h => by cases h) ?_ ?_ ?_ ?_))
    · unfold maxLen; omega
    · omega
    · have := H4.out.2.size; simp; omega
    · intro v5 w5 hown hgr hblk
      rw [← u8s_append] at hown
      have hb5 : Below w.heap.size w w5 := (H4.out.2.trans ((Below.refl _ w4).alloc H4.out.2.size _)).grown hgr (by have := H4.out.2.size; simp; omega) (fun k hk => (H4.out.1.lt k hk).1)
      obtain ⟨g, c', rfl, hg1, hg2⟩ := World.ownsRow.form hown (by omega)
      obtain ⟨_, _, hv, -, hc5, hc6⟩ := bys_of hown
      obtain ⟨-, rfl⟩ : _ ∧ _ := by simpa using hv
      rw [List.length_append] at hc5
      simp only [List.length_cons, List.length_nil] at hc5
      have H5 := Lib.hid (And.intro hown (And.intro hb5 hg1))
      clear hown hgr hblk hb5 hg1 hv
      unfold maxLen at hc6
      go_wp2_with fail
      go_ret
      exact ⟨g, c', rfl, H5.out.2.2, H5.out.1, H5.out.2.1⟩

set_option maxRecDepth 100000 in
set_option maxHeartbeats 2000000 in
theorem back_any (base g c : Nat) (ob : Option Addr) (cb : Nat) (B : List Nat) (w : World) (hrow : w.ownsRow base 5 1 (.slice (some ⟨g, 0, none⟩) (B.length + 2) c) (B.length + 2) (u8s (B ++ [171, 172])))
    (hF : Bys w ob B) (hb : ∀ a, ob = some a → 0 < B.length → a.block ≠ g) (hv : ∀ i, B.getD i 0 < 256) (hn : B.length ≤ 2000000) :
    Calls Tryd.prog 13 #[.slice (some ⟨g, 0, none⟩) B.length c, .slice ob B.length cb] w fun e w' => e = .returned (.bool true) ∧ Keep (· = g) w w' := by
  obtain ⟨_, _, hv', -, hc5, hc6⟩ := bys_of hrow
  obtain ⟨-, rfl⟩ : _ ∧ _ := by simpa using hv'
  rw [List.length_append] at hc5
  simp only [List.length_cons, List.length_nil] at hc5
  unfold maxLen at hc6
  have hm1 := hrow.cellAt B.length (by omega)
  have hm2 := hrow.cellAt (B.length + 1) (by omega)
  rw [u8s_get _ _ (by simp), List.getD_eq_getElem?_getD, List.getElem?_append_right (by omega)] at hm1
  rw [u8s_get _ _ (by simp), List.getD_eq_getElem?_getD, List.getElem?_append_right (by omega)] at hm2
  simp at hm1 hm2
  have hxs : ∀ j, j < B.length → (u8s (B ++ [171, 172]))[j]? = some (.int .u8 (B.getD j 0 : Nat)) := by
    intro j hj
    rw [u8s_get _ _ (by simp; omega), getD_app0' B _ j hj]
  generalize u8s (B ++ [171, 172]) = xs0 at *
  have HF := Lib.hid (And.intro hF (And.intro hb hv))
  have HR := Lib.hid (And.intro hrow hxs)
  clear hF hb hv hrow hxs hv'
  generalize hL : B.length = n at *
  have HL := Lib.hid hL
  clear hL
  go_enter Tryd.func13, Tryd.ntmps13
  go_wp2_with fail
  go_loopg [5, 6] n (fun g' ok i wr => ∃ k : Nat, g' + k = n ∧ ok = .bool true ∧ i = .int .i64 (k : Int) ∧ Hid (Keep (· = g) w wr ∧ ∃ xs, wr.ownsRow base 5 1 (.slice (some ⟨g, 0, none⟩) (n + 2) c) (n + 2) xs ∧ ∀ j, k ≤ j → j < n → xs[j]? = some (.int .u8 (B.getD j 0 : Nat))))
  case atStart => exact ⟨0, by omega, rfl, rfl, ⟨Keep.refl _ _, _, HR.out.1, fun j _ hj => HR.out.2 j hj⟩⟩
  case round =>
    obtain ⟨k, hgk, rfl, rfl, HK⟩ := hrel
    by_cases hk : k < n
    · obtain ⟨hkeep, xs, hrow, hxs⟩ := HK.out
      have hc1 := hrow.cellAt k (by omega)
      rw [hxs k (Nat.le_refl _) hk] at hc1
      have hf := hrow.frozenAt k
      obtain ⟨a2, rfl, hc2⟩ := HF.out.1 k (by rw [HL.out]; exact hk)
      replace hc2 := (hkeep.cell (cell_in hc2) (by rw [addr_add_block]; exact HF.out.2.1 a2 rfl (by have := HL.out; omega))).trans hc2
      have hx := HF.out.2.2 k
      generalize hx0 : B.getD k 0 = x at *
      have hd : (((x : Nat) : Int) == (x : Int)) = true := by simp
      have HXX := Lib.hid (And.intro hkeep (And.intro hrow hxs))
      clear hx0 hkeep hrow hxs HK
      go_wp2_with fail
      go_quiet (fail)
      go_wp2_with fail
      go_roundg (gk - 1)
      case measure => omega
      case rel =>
        refine ⟨k + 1, by omega, rfl, rfl, (HXX.out.1.drewN _).setCell (p := ⟨g, k, none⟩) (Or.inl rfl) _, _, ((keep_row0 HXX.out.2.1 _).stored k _).1, fun j h1 h2 => ?_⟩
        have h3 := HXX.out.2.2 j (by omega) h2
        rw [← h3]
        exact List.getElem?_set_ne (by omega)
    · go_wp2_with fail
      go_ret
      exact ⟨rfl, HK.out.1⟩

/-- Lent bytes, read as bytes. -/
theorem lent_bys {base g c : Nat} {B : List Nat} {w : World} (hrow : w.ownsRow base 5 1 (.slice (some ⟨g, 0, none⟩) (B.length + 2) c) (B.length + 2) (u8s (B ++ [171, 172]))) : Bys w (some ⟨g, 0, none⟩) B ∧ B.length ≤ c ∧ c ≤ maxLen := by
  obtain ⟨o', c', hv', hby, hc5, hc6⟩ := bys_of hrow
  obtain ⟨rfl, rfl⟩ : _ ∧ _ := by simpa using hv'
  rw [List.length_append] at hc5
  refine ⟨fun i hi => ?_, by omega, hc6⟩
  obtain ⟨ad, e, h⟩ := hby i (by rw [List.length_append]; omega)
  rw [getD_app0' B _ i hi] at h
  exact ⟨ad, e, h⟩
end Go.Proofs.YtafglefiodanbaaDoor
