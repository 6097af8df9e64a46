/- SeriesAll: too many numbers; the small words of its walk. By an AI agent. -/
import Derived.Test.YtjlnicjnjnkdoaaDoorRfpC
import Derived.Test.YtjlnicjnjnkdoaaDoorApp
import Derived.Test.YtjlnicjnjnkdoaaDoorOpen
namespace Go.Proofs.YtjlnicjnjnkdoaaDoor
open Go.ChangeShapes Go.WideShapes Go.ChangeAt Go.RowKit
open Bt Sm
set_option linter.unusedVariables false

set_option maxRecDepth 100000 in
set_option maxHeartbeats 2000000 in
theorem pack_many (o : Option Addr) (n cap : Nat) (w : World) (hn : 4096 < n) (hn2 : n ≤ 2000000) :
    Calls Tryd.prog 6 #[.slice o n cap] w fun e w' => e = .returned (.tuple #[.slice none 0 0, .int .i64 9]) ∧ w = w' := by
  go_enter Tryd.func6, Tryd.ntmps6
  go_wp2_with fail
  go_ret2
  exact ⟨rfl, rfl⟩
set_option maxRecDepth 100000 in
set_option maxHeartbeats 2000000 in
theorem pack5_many (o : Option Addr) (n cap : Nat) (w : World) (hn : 4096 < n) (hn2 : n ≤ 2000000) :
    Calls Tryd.prog 7 #[.slice o n cap] w fun e w' => e = .returned (.tuple #[.slice none 0 0, .int .i64 9]) ∧ w = w' := by
  go_enter Tryd.func7, Tryd.ntmps7
  go_wp2_with fail
  go_ret2
  exact ⟨rfl, rfl⟩

set_option maxRecDepth 100000 in
set_option maxHeartbeats 2000000 in
theorem tell_many (o : Option Addr) (n cap : Nat) (w : World) (hn : 4096 < n) (hn2 : n ≤ 2000000) :
    Calls Tryd.prog 8 #[.slice o n cap] w fun e w' => e = .returned (.tuple #[.agg (tal 0 0 0 0 0), .int .i64 9]) ∧ Below w.heap.size w w' := by
  have hz : TalAt (w.alloc (.cells (tal 0 0 0 0 0) 32)) w.heap.size (tal 0 0 0 0 0) := blk_new _ _
  have hb : Below w.heap.size w (w.alloc (.cells (tal 0 0 0 0 0) 32)) := (Below.refl _ w).alloc (Nat.le_refl _) _
  have H3 := Lib.hid (And.intro hz hb)
  clear hz hb
  go_enter Tryd.func8, Tryd.ntmps8
  go_wp2_with (refine store_guard (.tmp 2) (.tmp 10) 32 (by rfl) ?_; go_must (refine wpList_store_row rfl 32 (.tmp 2) (.tmp 10) rfl w.heap.size (tal 0 0 0 0 0) rfl rfl 32 _ H3.out.1 tally_size rfl (tal_all _ _ _ _ _) ?_))
  refine bodyPost_ret (results_tell _ _ w.heap.size _ rfl (.int .i64 9) rfl rfl (setRow_heap _ _ _ _ _ _ H3.out.1)) rfl ?_
  exact ⟨rfl, H3.out.2.trans ((Keep.setRow (bs := (· = w.heap.size)) (Keep.refl _ _) (Or.inl rfl) _).below H3.out.2.size (fun b hb => by omega))⟩
set_option maxRecDepth 100000 in
set_option maxHeartbeats 2000000 in
theorem tell5_many (o : Option Addr) (n cap : Nat) (w : World) (hn : 4096 < n) (hn2 : n ≤ 2000000) :
    Calls Tryd.prog 9 #[.slice o n cap] w fun e w' => e = .returned (.tuple #[.agg (tal 0 0 0 0 0), .int .i64 9]) ∧ Below w.heap.size w w' := by
  have hz : TalAt (w.alloc (.cells (tal 0 0 0 0 0) 32)) w.heap.size (tal 0 0 0 0 0) := blk_new _ _
  have hb : Below w.heap.size w (w.alloc (.cells (tal 0 0 0 0 0) 32)) := (Below.refl _ w).alloc (Nat.le_refl _) _
  have H3 := Lib.hid (And.intro hz hb)
  clear hz hb
  go_enter Tryd.func9, Tryd.ntmps9
  go_wp2_with (refine store_guard (.tmp 2) (.tmp 9) 32 (by rfl) ?_; go_must (refine wpList_store_row rfl 32 (.tmp 2) (.tmp 9) rfl w.heap.size (tal 0 0 0 0 0) rfl rfl 32 _ H3.out.1 tally_size rfl (tal_all _ _ _ _ _) ?_))
  refine bodyPost_ret (results_tell5 _ _ w.heap.size _ rfl (.int .i64 9) rfl rfl (setRow_heap _ _ _ _ _ _ H3.out.1)) rfl ?_
  exact ⟨rfl, H3.out.2.trans ((Keep.setRow (bs := (· = w.heap.size)) (Keep.refl _ _) (Or.inl rfl) _).below H3.out.2.size (fun b hb => by omega))⟩

/-- What both Pack answer, whatever the length. -/
def packB (us : List Nat) : List Nat := if 4096 < us.length then [] else vnt us.length ++ pack (encN us us.length)
def errN (us : List Nat) : Int := if 4096 < us.length then 9 else 0
def PackT (base : Nat) (us : List Nat) (w : World) (e : Ending) (w' : World) : Prop :=
  ∃ o cap, e = .returned (.tuple #[.slice o (packB us).length cap, .int .i64 (errN us)]) ∧ Bys w' o (packB us) ∧ Below base w w'

theorem packB_length {us : List Nat} (hu : ∀ i, us.getD i 0 < 18446744073709551616) : (packB us).length ≤ 1000000 := by
  unfold packB
  split
  · simp
  · have h1 := vnt_length us.length
    have h2 := pack_length (encN us us.length)
    have h3 := encN_length us hu us.length
    rw [List.length_append]; omega
theorem packT_of {base : Nat} {us : List Nat} {w : World} {e : Ending} {w' : World} (hn : us.length ≤ 4096) (h : Packed base us w e w') : PackT base us w e w' := by
  obtain ⟨v, rfl, hown, hb⟩ := h
  obtain ⟨o, cap, rfl, hby, -, -⟩ := bys_of hown
  have e1 : packB us = vnt us.length ++ pack (encN us us.length) := by unfold packB; rw [if_neg (by omega)]
  have e2 : errN us = 0 := by unfold errN; rw [if_neg (by omega)]
  exact ⟨o, cap, by rw [e1, e2], by rw [e1]; exact hby, hb⟩
theorem packT_many {us : List Nat} {w : World} {e : Ending} {w' : World} (hn : 4096 < us.length) (h : e = .returned (.tuple #[.slice none 0 0, .int .i64 9]) ∧ w = w') : PackT w.heap.size us w e w' := by
  obtain ⟨rfl, rfl⟩ := h
  have e1 : packB us = [] := by unfold packB; rw [if_pos hn]
  have e2 : errN us = 9 := by unfold errN; rw [if_pos hn]
  exact ⟨none, 0, by rw [e1, e2]; rfl, by rw [e1]; exact fun i hi => absurd hi (by simp), Below.refl _ _⟩
theorem pack_all (o : Option Addr) (us : List Nat) (cap : Nat) (w : World) (hu : ∀ i, us.getD i 0 < 18446744073709551616) (hF : Fls w o us) (hn : us.length ≤ 6000) (hT : Tab w) (hg : 1 < w.heap.size) :
    Calls Tryd.prog 6 #[.slice o us.length cap] w (PackT w.heap.size us w) := by
  by_cases h : 4096 < us.length
  · exact (pack_many o us.length cap w h (by omega)).mono fun _ _ h1 => packT_many h h1
  · exact (pack_any o us cap w hu hF (by omega) hT hg).mono fun _ _ h1 => packT_of (by omega) h1
theorem pack5_all (o : Option Addr) (us : List Nat) (cap : Nat) (w : World) (hu : ∀ i, us.getD i 0 < 18446744073709551616) (hF : Fls w o us) (hn : us.length ≤ 6000) :
    Calls Tryd.prog 7 #[.slice o us.length cap] w (PackT w.heap.size us w) := by
  by_cases h : 4096 < us.length
  · exact (pack5_many o us.length cap w h (by omega)).mono fun _ _ h1 => packT_many h h1
  · exact (pack5_any o us cap w hu hF (by omega)).mono fun _ _ h1 => packT_of (by omega) h1

/-- The tally that both Tell answer, whatever the length: there are five numbers so that .. -/
theorem tell_all (us : List Nat) (hu : ∀ i, us.getD i 0 < 18446744073709551616) (hn : us.length ≤ 6000) : ∃ n m a b c : Nat,
    (∀ o cap w, Fls w o us → Calls Tryd.prog 8 #[.slice o us.length cap] w fun e w' => e = .returned (.tuple #[.agg #[.int .i64 n, .int .i64 m, .float .f64 a, .float .f64 b, .float .f64 c], .int .i64 (errN us)]) ∧ Below w.heap.size w w') ∧
    (∀ o cap w, Fls w o us → Calls Tryd.prog 9 #[.slice o us.length cap] w fun e w' => e = .returned (.tuple #[.agg #[.int .i64 n, .int .i64 m, .float .f64 a, .float .f64 b, .float .f64 c], .int .i64 (errN us)]) ∧ Below w.heap.size w w') := by
  by_cases h : 4096 < us.length
  · have e2 : errN us = 9 := by unfold errN; rw [if_pos h]
    rw [e2]
    exact ⟨0, 0, 0, 0, 0, fun o cap w _ => tell_many o us.length cap w h (by omega), fun o cap w _ => tell5_many o us.length cap w h (by omega)⟩
  · have e2 : errN us = 0 := by unfold errN; rw [if_neg h]
    rw [e2]
    exact ⟨_, _, _, _, _, fun o cap w hF => tell_any o us cap w hF hu (by omega), fun o cap w hF => tell5_any o us cap w hF hu (by omega)⟩
theorem bits_same (x : Nat) (w : World) : Calls Tryd.prog 10 #[.float .f64 x, .float .f64 x] w fun e w' => e = .returned (.bool true) ∧ w = w' := by
  have h := bits_any x x w
  rw [show ((x : Int) == (x : Int)) = true from by simp] at h
  exact h
end Go.Proofs.YtjlnicjnjnkdoaaDoor
